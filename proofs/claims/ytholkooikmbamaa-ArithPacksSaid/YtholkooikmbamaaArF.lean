/- Numbers written: what the encoder does with a number, and that the program does so. Plain theorems over the abstract machine.
   Conditions: none. -/
import Derived.Test.YtholkooikmbamaaArD
namespace Go.Proofs.Ytholkooikmbamaa.Ar
open Go Go.RowKit Go.Proofs.Ytholkooikmbamaa.Am Go.Proofs.Ytholkooikmbamaa.Af
set_option linter.unusedVariables false
set_option linter.unusedSimpArgs false
set_option maxRecDepth 20000

/-! ### how many bits -/
def bl (w : Nat) : Nat := if w = 0 then 0 else w.log2 + 1
theorem bl_half {w : Nat} (h : 0 < w) : bl w = bl (w / 2) + 1 := by
  unfold bl
  rw [if_neg (by omega), Nat.log2_def]
  by_cases h2 : 2 ≤ w
  · rw [if_pos h2, if_neg (by omega)]
  · rw [if_neg h2, if_pos (by omega)]
theorem bl_16 {w : Nat} (h : 15 < w) : bl w = bl (w / 16) + 4 := by
  rw [bl_half (by omega), bl_half (w := w / 2) (by omega), bl_half (w := w / 2 / 2) (by omega), bl_half (w := w / 2 / 2 / 2) (by omega)]
  have : w / 2 / 2 / 2 / 2 = w / 16 := by omega
  rw [this]
theorem bl_le : ∀ {k w : Nat}, w < 2 ^ k → bl w ≤ k
  | 0, w, h => by
    have : w = 0 := by simpa using h
    subst this
    exact Nat.le_refl 0
  | k + 1, w, h => by
    rcases Nat.eq_zero_or_pos w with rfl | hw
    · exact Nat.zero_le _
    · rw [bl_half hw]
      have := bl_le (k := k) (w := w / 2) (by rw [Nat.pow_succ] at h; omega)
      omega
theorem bl_pos {w : Nat} (h : 0 < w) : 1 ≤ bl w := by rw [bl_half h]; omega
theorem c_length {h : Hp} {w : Nat} (hw : w ≤ 2097152) : ACalls Try.prog 64 [.int .i64 w] h fun v h' => v = .int .i64 (bl w) ∧ Fm No h h' := by
  refine arith_length_ok.snd hm rfl fun wf => ?_
  rw [WF_eq, arith_length]
  simp +contextual only [↓AM, ↓AV, AP, List.replicate, List.length_cons, List.length_nil]
  refine WL.mk (fun m t h' => h' = h.new ⟨[.int .i64 0, .int .i64 1, .int .i64 2, .int .i64 2, .int .i64 3, .int .i64 3, .int .i64 3, .int .i64 3, .int .i64 4, .int .i64 4, .int .i64 4, .int .i64 4, .int .i64 4, .int .i64 4, .int .i64 4, .int .i64 4], .own⟩ ∧
    ∃ x c : Nat, m = x ∧ x ≤ w ∧ c + bl x = bl w ∧ c ≤ 100 ∧ t = [(0, some (.int .i64 x)), (3, some (.pointer (some ⟨h.size, 0, none⟩))), (4, some (.int .i64 c))])
    ⟨w, rfl, w, 0, rfl, Nat.le_refl _, by omega, by omega, rfl⟩ ?_
  rintro x t h1 ⟨rfl, _, c, rfl, hx, hc, hc2, rfl⟩
  have hblw : bl w ≤ 22 := bl_le (by omega)
  by_cases h15 : (15 : Int) < (x : Int)
  · simp +contextual only [↓AM, ↓AV, AP, h15]
    refine ⟨_, ?_, x / 16, c + 4, rfl, by omega, ?_, ?_, ?_⟩
    · omega
    · rw [bl_16 (by omega)] at hc; omega
    · rw [bl_16 (by omega)] at hc; omega
    · rw [i64 (by omega), show (x : Int).fdiv (2 ^ min 4 IntKind.i64.bits) = ((x / 16 : Nat) : Int) by
        rw [show min 4 IntKind.i64.bits = 4 from rfl, shr_u (by omega)]; omega]
      rfl
  · have hx16 : (x : Int) < 16 := by omega
    have tab : ∀ y : Fin 16, ([0, 1, 2, 2, 3, 3, 3, 3, 4, 4, 4, 4, 4, 4, 4, 4] : List Int)[y.1]? = some ((bl y.1 : Nat) : Int) := by decide
    have hx' : x < 16 := by omega
    have tx : ([.int .i64 0, .int .i64 1, .int .i64 2, .int .i64 2, .int .i64 3, .int .i64 3, .int .i64 3, .int .i64 3, .int .i64 4, .int .i64 4, .int .i64 4, .int .i64 4, .int .i64 4, .int .i64 4, .int .i64 4, .int .i64 4] : List Value)[x]? = some (.int .i64 (bl x : Nat)) := by
      have h1 := tab ⟨x, hx'⟩
      show (([0, 1, 2, 2, 3, 3, 3, 3, 4, 4, 4, 4, 4, 4, 4, 4] : List Int).map (Value.int .i64))[x]? = _
      rw [List.getElem?_map, h1]
      rfl
    have h16 : x < ((16 : Nat)) := hx'
    simp +contextual only [↓AM, ↓AV, AP, h15, tx, h16]
    refine ⟨?_, Fm.new Fm.refl⟩
    rw [i64 (by omega)]
    congr 1
    omega

/-! ### a number, in plain words -/
def bitS (s : En × List Int) (k : Nat) (b : Int) : En × List Int := (put s.1 (s.2.getD k 0) b, s.2.set k (stepI (s.2.getD k 0) b))
def ones (s : En × List Int) : Nat → En × List Int
  | 0 => s
  | k + 1 => bitS (ones s k) (min k 15) 1
def wbit (w i : Nat) : Int := ((w / 2 ^ i % 2 : Nat) : Int)
/-- The bits of w below the highest one, c of them, from the (n-2)-th on downwards. -/
def lows (s : En × List Int) (w n : Nat) : Nat → En × List Int
  | 0 => s
  | c + 1 => if c = 0 then bitS (lows s w n c) (16 + min (n - 1) 15) (wbit w (n - 2 - c)) else (put (lows s w n c).1 2048 (wbit w (n - 2 - c)), (lows s w n c).2)
def numS (s : En × List Int) (w : Nat) : En × List Int := lows (bitS (ones s (bl w - 1)) (min (bl w - 1) 15) 0) w (bl w) (bl w - 1)
/-- States of a number. -/
structure SOk (l : List Int) : Prop where
  len : l.length = 32
  st : ∀ x ∈ l, St x
theorem SOk.at {l : List Int} (h : SOk l) {k : Nat} (hk : k < 32) : St (l.getD k 0) := by
  rw [List.getD_eq_getElem?_getD, List.getElem?_eq_getElem (by rw [h.len]; exact hk)]
  exact h.st _ (List.getElem_mem _)
theorem step_st {p b : Int} (hp : St p) : St (stepI p b) := by
  obtain ⟨p1, p2⟩ := hp
  unfold stepI
  split
  · exact ⟨by show 31 ≤ p + _; omega, by show p + _ ≤ 4065; omega⟩
  · exact ⟨by show 31 ≤ p - _; omega, by show p - _ ≤ 4065; omega⟩
theorem SOk.set {l : List Int} (h : SOk l) {k : Nat} {x : Int} (hx : St x) : SOk (l.set k x) :=
  ⟨by rw [List.length_set]; exact h.len, fun y hy => (List.mem_or_eq_of_mem_set hy).elim (h.st y) fun e => e ▸ hx⟩
theorem bitS_ok {s : En × List Int} (g : Gd s.1) (o : SOk s.2) {k : Nat} (hk : k < 32) (b : Int) : Gd (bitS s k b).1 ∧ SOk (bitS s k b).2 ∧ (bitS s k b).1.n = s.1.n + 1 :=
  ⟨put_gd g (o.at hk), o.set (step_st (o.at hk)), rfl⟩
theorem ones_ok {s : En × List Int} (g : Gd s.1) (o : SOk s.2) : ∀ k : Nat, Gd (ones s k).1 ∧ SOk (ones s k).2 ∧ (ones s k).1.n = s.1.n + k
  | 0 => ⟨g, o, by simp [ones]⟩
  | k + 1 => by
    obtain ⟨a, b, c⟩ := ones_ok g o k
    obtain ⟨d, e, f⟩ := bitS_ok a b (k := min k 15) (by omega) 1
    exact ⟨d, e, by show (bitS _ _ _).1.n = _; rw [f, c]; omega⟩
theorem st2048 : St 2048 := ⟨by decide, by decide⟩
theorem lows_ok {s : En × List Int} (g : Gd s.1) (o : SOk s.2) (w n : Nat) : ∀ c : Nat, Gd (lows s w n c).1 ∧ SOk (lows s w n c).2 ∧ (lows s w n c).1.n = s.1.n + c
  | 0 => ⟨g, o, by simp [lows]⟩
  | c + 1 => by
    obtain ⟨a, b, d⟩ := lows_ok g o w n c
    unfold lows
    split
    · obtain ⟨x, y, z⟩ := bitS_ok a b (k := 16 + min (n - 1) 15) (by omega) (wbit w (n - 2 - c))
      exact ⟨x, y, by rw [z, d]; omega⟩
    · exact ⟨put_gd a st2048, b, by show (lows s w n c).1.n + 1 = _; rw [d]; omega⟩

/-! ### the bits of a number, in memory -/
/-- The closure's memory: the box of the encoder's pointer, the array of states, the encoder. -/
structure NumAt (h : Hp) (bx ba b : Nat) (oa : Option Addr) (s : En × List Int) : Prop where
  box : h.get bx = some ⟨[.pointer (some ⟨b, 0, none⟩)], .own⟩
  arr : h.get ba = some ⟨s.2.map (Value.int .i64), .own⟩
  enc : EncAt .u64 h b oa s.1
  d1 : bx ≠ b
  d2 : ba ≠ b
  d3 : bx ≠ ba
  d4 : ¬ At oa bx
  d5 : ¬ At oa ba
def Fn (ba b : Nat) (oa : Option Addr) : Nat → Prop := fun x => x = ba ∨ Ft b oa x
theorem NumAt.put {h h1 : Hp} {bx ba b : Nat} {oa oa1 : Option Addr} {s : En × List Int} {e : En} (w : Wf h) (x : NumAt h bx ba b oa s) (he : EncAt .u64 h1 b oa1 e) (fm : Fm (Ft b oa) h h1) (nx : ∀ y, At oa1 y → At oa y ∨ h.size ≤ y) :
    NumAt h1 bx ba b oa1 (e, s.2) := by
  have hbx : ¬ Ft b oa bx := fun h => h.elim x.d1 x.d4
  have hba : ¬ Ft b oa ba := fun h => h.elim x.d2 x.d5
  refine ⟨fm.keep w x.box hbx, fm.keep w x.arr hba, he, x.d1, x.d2, x.d3, fun hy => ?_, fun hy => ?_⟩
  · rcases nx _ hy with h | h
    · exact x.d4 h
    · have := w.lt x.box; omega
  · rcases nx _ hy with h | h
    · exact x.d5 h
    · have := w.lt x.arr; omega
theorem c_N1 {h : Hp} {bx ba b i : Nat} {oa : Option Addr} {s : En × List Int} {bt : Int} (x : NumAt h bx ba b oa s) (g : Gd s.1) (o : SOk s.2) (hi : i < 32) (hb : bt = 0 ∨ bt = 1) (hn : s.1.n ≤ 100000000) :
    ACalls Try.prog 63 [.int .i64 i, .int .i64 bt, .pointer (some ⟨bx, 0, none⟩), .pointer (some ⟨ba, 0, none⟩)] h fun v h' => ∃ oa', NumAt h' bx ba b oa' (bitS s i bt) ∧ Fm (Fn ba b oa) h h' ∧ ∀ y, At oa' y → At oa y ∨ h.size ≤ y := by
  refine arith_Encoder__Number_1_ok.snd hm rfl fun w => ?_
  rw [WF_eq, arith_Encoder__Number_1]
  have hlen := o.len
  have hst := o.at hi
  have hl := g.len
  have hget : (s.2.map (Value.int .i64))[i]? = some (.int .i64 (s.2.getD i 0)) := by
    rw [List.getElem?_map, List.getD_eq_getElem?_getD, List.getElem?_eq_getElem (by omega)]; rfl
  have hi32 : (i : Int) < ((32 : Nat) : Int) := by omega
  simp +contextual only [↓AM, ↓AV, AP, rd_mk x.box, rd_mk x.arr, hget, hi32, hi]
  refine (c_put x.enc g hst hb (by omega) hn).use ?_
  rintro _ h1 w1 ⟨oa1, he1, fm1, nx1⟩
  have x1 := x.put w he1 fm1 nx1
  have hle : leIs (i + 1) (s.2.map (Value.int .i64)) = true := by rw [← leIs_p]; simp; omega
  simp +contextual only [↓AM, ↓AV, AP, rd_mk x1.arr, hget, hi32, hi]
  refine (c_step hst).use ?_
  rintro _ h1 w2 ⟨rfl, rfl⟩
  simp +contextual only [↓AM, ↓AV, AP, x1.arr, hi32, hi, hle]
  have fm2 : Fm (fun y => y = ba) h1 (h1.put ba ⟨spl (s.2.map (Value.int .i64)) i [.int .i64 (stepI (s.2.getD i 0) bt)], .own⟩) := Fm.put Fm.refl fun _ => rfl
  refine ⟨oa1, ⟨fm2.keep w2 x1.box x1.d3, ?_, x1.enc.keep w2 fm2 (fun y hy e => ?_), x1.d1, x1.d2, x1.d3, x1.d4, x1.d5⟩, ?_, nx1⟩
  · rw [gput, spl_one _ _ _ (by simp; omega)]
    simp [bitS, List.map_set]
  · subst e
    exact hy.elim x1.d2 x1.d5
  · exact (fm1.mono fun y _ hy => .inr hy).put fun _ => .inl rfl
end Go.Proofs.Ytholkooikmbamaa.Ar
