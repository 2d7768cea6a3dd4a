/- A number written by the program. Plain theorems over the abstract machine.
   Conditions: none. -/
import Derived.Test.YtholkooikmbamaaArF
namespace Go.Proofs.Ytholkooikmbamaa.Ar
open Go Go.RowKit Go.Proofs.Ytholkooikmbamaa.Am Go.Proofs.Ytholkooikmbamaa.Af
set_option linter.unusedVariables false
set_option linter.unusedSimpArgs false
set_option maxRecDepth 20000

/-- The error of a number that is to be written. -/
def numI (e : En) (l : List Int) (v : Int) : Int := if l.length = 32 then readyI e l (decide (0 ≤ v) && decide (v < 1048576)) else 130
def numE (e : En) (l : List Int) (v : Int) : En := if numI e l v = 0 then (numS (e, l) (v + 1).toNat).1 else e
def numL (e : En) (l : List Int) (v : Int) : List Int := if numI e l v = 0 then (numS (e, l) (v + 1).toNat).2 else []
theorem numI_0 {e : En} {l : List Int} {v : Int} (h : numI e l v = 0) : SOk l ∧ 0 ≤ v ∧ v < 1048576 ∧ e.n ≤ 1048576 := by
  unfold numI at h
  split at h
  · rename_i hl
    unfold readyI at h
    split at h
    · cases h
    · rename_i hany
      split at h
      · rename_i hok
        split at h
        · cases h
        · simp only [Bool.and_eq_true, decide_eq_true_eq] at hok
          refine ⟨⟨hl, fun x hx => ?_⟩, hok.1, hok.2, by omega⟩
          have hany : ∀ x ∈ l, St x := by simpa using hany
          exact hany x hx
      · cases h
  · cases h
theorem numS_ok {s : En × List Int} (g : Gd s.1) (o : SOk s.2) {w : Nat} (hw : 0 < w) (hw2 : w ≤ 1048576) : Gd (numS s w).1 ∧ SOk (numS s w).2 ∧ (numS s w).1.n ≤ s.1.n + 42 := by
  obtain ⟨a, b, c⟩ := ones_ok g o (bl w - 1)
  obtain ⟨d, e, f⟩ := bitS_ok a b (k := min (bl w - 1) 15) (by omega) 0
  obtain ⟨x, y, z⟩ := lows_ok d e w (bl w) (bl w - 1)
  have h21 : bl w ≤ 21 := bl_le (by omega)
  exact ⟨x, y, by unfold numS; rw [z, f, c]; omega⟩
theorem numE_gd {e : En} (g : Gd e) (l : List Int) (v : Int) : Gd (numE e l v) ∧ (numE e l v).n ≤ e.n + 42 := by
  unfold numE
  split
  · rename_i h
    obtain ⟨h1, h2, h3, h4⟩ := numI_0 h
    obtain ⟨a, b, c⟩ := numS_ok (s := (e, l)) g h1 (w := (v + 1).toNat) (by omega) (by omega)
    exact ⟨a, c⟩
  · exact ⟨g, by omega⟩
/-- What a call that writes a number leaves. -/
def NumPost (k : IntKind) (h : Hp) (b : Nat) (oa : Option Addr) (err : Int) (e' : En) (l' : List Int) (r : Value) (h' : Hp) : Prop :=
  ∃ oa' os cap, r = .tuple #[.slice os l'.length cap, .int .i64 err] ∧ EncAt k h' b oa' e' ∧ Ow h' 1 os l'.length cap (l'.map (Value.int .i64)) ∧ Nw h os ∧ (∀ x, At os x → ¬ Ft b oa' x) ∧ Fm (Ft b oa) h h' ∧ ∀ x, At oa' x → At oa x ∨ h.size ≤ x
theorem NumPost.err {k : IntKind} {h h' : Hp} {b : Nat} {oa : Option Addr} {err : Int} {e : En} (he : EncAt k h' b oa e) (fm : Fm No h h') : NumPost k h b oa err e [] (.tuple #[.slice none 0 0, .int .i64 err]) h' :=
  ⟨oa, none, 0, rfl, he, Ow.mk0, Nw.none, fun x hx => absurd hx At.none, fm.mono fun _ _ h => h.elim, fun x hx => .inl hx⟩
theorem wand (w i : Nat) (hw : w ≤ 1048576) : IntKind.i64.wrap ((BitVec.ofInt IntKind.i64.bits ((w : Int).fdiv (2 ^ min i IntKind.i64.bits)) &&& BitVec.ofInt IntKind.i64.bits 1).toNat : Int) = wbit w i := by
  have hi : min i IntKind.i64.bits = min i 64 := rfl
  rw [hi]
  have e1 : (w : Int).fdiv (2 ^ min i 64) = ((w / 2 ^ min i 64 : Nat) : Int) := by
    rw [shr_u (by omega)]; simp
  rw [e1]
  have e2 : w / 2 ^ min i 64 % 2 = w / 2 ^ i % 2 := by
    rcases Nat.le_total i 64 with h | h
    · rw [Nat.min_eq_left h]
    · rw [Nat.min_eq_right h]
      have h1 : w / 2 ^ 64 = 0 := Nat.div_eq_of_lt (by omega)
      have h2 : w / 2 ^ i = 0 := Nat.div_eq_of_lt (Nat.lt_of_lt_of_le (by omega : w < 2 ^ 64) (Nat.pow_le_pow_right (by decide) h))
      rw [h1, h2]
  have hle : w / 2 ^ min i 64 ≤ w := Nat.div_le_self _ _
  generalize w / 2 ^ min i 64 = x at e2 hle
  have e3 : (BitVec.ofInt IntKind.i64.bits (x : Int) &&& BitVec.ofInt IntKind.i64.bits 1).toNat = x % 2 := by
    show (BitVec.ofInt 64 (x : Int) &&& BitVec.ofInt 64 1).toNat = _
    rw [BitVec.toNat_and]
    have h1 : (BitVec.ofInt 64 (x : Int)).toNat = x := by simp [BitVec.toNat_ofInt]; omega
    have h2 : (BitVec.ofInt 64 1).toNat = 1 := by decide
    rw [h1, h2, Nat.and_one_is_mod]
  rw [e3, e2, i64 (by omega)]
  rfl
theorem wbit_01 (w i : Nat) : wbit w i = 0 ∨ wbit w i = 1 := by unfold wbit; omega
theorem c_Number {h : Hp} {b n c : Nat} {oa a : Option Addr} {e : En} {l : List Int} {v : Int} (he : EncAt .u64 h b oa e) (g : Fit e) (hl : Rd h 1 a n (l.map (Value.int .i64))) (hn : n ≤ 140737488351232) (hv : -9223372036854775808 ≤ v ∧ v ≤ 9223372036854775807) :
    ACalls Try.prog 38 [.pointer (some ⟨b, 0, none⟩), .slice a n c, .int .i64 v] h (NumPost .u64 h b oa (numI e l v) (numE e l v) (numL e l v)) := by
  refine arith_Encoder__Number_ok.snd hm rfl fun w => ?_
  rw [WF_eq, arith_Encoder__Number]
  have ll := hl.ilen
  simp +contextual only [↓AM, ↓AV, AP]
  have fm0 : Fm No h (h.new ⟨[.pointer (some ⟨b, 0, none⟩)], .own⟩) := Fm.new Fm.refl
  have he0 := he.keep w fm0 (fun _ _ => id)
  have hl0 := hl.keep w fm0 (fun _ _ => id)
  have hbx : (h.new ⟨[.pointer (some ⟨b, 0, none⟩)], .own⟩).get h.size = some ⟨[.pointer (some ⟨b, 0, none⟩)], .own⟩ := gnew
  have hsz : h.size < (h.new ⟨[.pointer (some ⟨b, 0, none⟩)], .own⟩).size := Nat.lt_succ_self _
  have hlt : ∀ y, Ft b oa y → y < h.size := he.lt w
  generalize hbxe : h.size = bx at hbx hsz
  generalize h.new ⟨[.pointer (some ⟨b, 0, none⟩)], .own⟩ = h0 at fm0 he0 hl0 hbx hsz
  refine (c_usable he0 g.toGd).use ?_
  rintro _ h0 w0 ⟨rfl, rfl⟩
  by_cases h32 : n = 32
  case neg =>
    have hne : EqI (n : Int) 32 = False := by simp [EqI]; omega
    have hI : numI e l v = 130 := by unfold numI; rw [if_neg (by omega)]
    simp +contextual only [↓AM, ↓AV, AP, hne]
    rw [numE, numL, hI]
    exact NumPost.err he0 fm0
  subst h32
  have h3232 : EqI ((32 : Nat) : Int) 32 = True := by simp [EqI]
  have hI : numI e l v = readyI e l (decide (0 ≤ v) && decide (v < 1048576)) := by unfold numI; rw [if_pos ll]
  by_cases hz : numI e l v = 0
  case neg =>
    have hz' : EqI (numI e l v) 0 = False := by simp [EqI, hz]
    by_cases hv0 : 0 ≤ v
    · have hI : readyI e l (decide (v < 1048576)) = numI e l v := by rw [hI, decide_eq_true hv0, Bool.true_and]
      simp +contextual only [↓AM, ↓AV, AP, rd_mk hbx, h3232, hv0]
      refine (c_ready he0 hl0 (by omega)).use ?_
      rintro _ h0 w0 ⟨rfl, rfl⟩
      simp +contextual only [↓AM, ↓AV, AP, hI, hz']
      rw [numE, numL, if_neg hz, if_neg hz]
      exact NumPost.err he0 fm0
    · have hI : readyI e l false = numI e l v := by rw [hI, decide_eq_false hv0, Bool.false_and]
      simp +contextual only [↓AM, ↓AV, AP, rd_mk hbx, h3232, hv0]
      refine (c_ready he0 hl0 (by omega)).use ?_
      rintro _ h0 w0 ⟨rfl, rfl⟩
      simp +contextual only [↓AM, ↓AV, AP, hI, hz']
      rw [numE, numL, if_neg hz, if_neg hz]
      exact NumPost.err he0 fm0
  obtain ⟨so, hv0, hv1, hn20⟩ := numI_0 hz
  have hI : readyI e l (decide (v < 1048576)) = 0 := by rw [← hz, hI, decide_eq_true hv0, Bool.true_and]
  simp +contextual only [↓AM, ↓AV, AP, rd_mk hbx, h3232, hv0]
  refine (c_ready he0 hl0 (by omega)).use ?_
  rintro _ h0 w0 ⟨rfl, rfl⟩
  have hif : (if (32 : Nat) = 0 then (0 : Nat) else 0) = 0 := rfl
  have hmin : Nat.min 32 32 = 32 := rfl
  have fm1 : ∀ o : Ob, Fm No h0 (h0.new o) := fun o => Fm.new Fm.refl
  have hsrc := (hl0.keep w0 (fm1 ⟨List.replicate 32 (.int .i64 0), .own⟩) (fun _ _ => id)).src (c := c)
  have hspl : spl (List.replicate 32 (.int .i64 0)) 0 (l.map (Value.int .i64)) = l.map (Value.int .i64) := by
    unfold spl
    rw [List.drop_of_length_le (by simp; omega)]
    simp
  obtain ⟨w1, hw1⟩ : ∃ w1 : Nat, (v + 1).toNat = w1 ∧ v + 1 = w1 := ⟨(v + 1).toNat, rfl, by omega⟩
  have e1 : IntKind.i64.wrap (v + 1) = w1 := by rw [i64 (by omega), hw1.2]
  simp +contextual only [↓AM, ↓AV, AP, hI, bnds, hif, hmin, hsrc, hspl, e1]
  refine ⟨by simp, ?_⟩
  have hb0 : b < h.size := hlt b (.inl rfl)
  have x0 : NumAt (h0.new ⟨l.map (Value.int .i64), .own⟩) bx h0.size b oa (e, l) := by
    refine ⟨(get_new hsz).trans hbx, gnew, he0.keep w0 (fm1 _) (fun _ _ => id), by omega, ?_, by omega, fun hx => ?_, fun hx => ?_⟩
    · have := fm0.size; omega
    · have := hlt _ (.inr hx); omega
    · have := hlt _ (.inr hx); have := fm0.size; omega
  have wfn := w0.new (o := ⟨l.map (Value.int .i64), .own⟩)
  have fma : Fm (Ft b oa) h (h0.new ⟨l.map (Value.int .i64), .own⟩) := (fm0.mono fun _ _ h => h.elim).new
  have hba : h.size ≤ h0.size := fm0.size
  generalize h0.size = ba at x0 hba
  generalize h0.new ⟨l.map (Value.int .i64), .own⟩ = k0 at x0 wfn fma
  refine (c_length (w := w1) (by omega)).use ?_
  rintro _ k1 wk1 ⟨rfl, fk1⟩
  have hb21 : bl w1 ≤ 21 := bl_le (by omega)
  have hb1 : 1 ≤ bl w1 := bl_pos (by omega)
  have e2 : IntKind.i64.wrap ((bl w1 : Int) - 1) = ((bl w1 - 1 : Nat) : Int) := by rw [i64 (by omega)]; omega
  have x1 : NumAt k1 bx ba b oa (e, l) := ⟨fk1.keep wfn x0.box id, fk1.keep wfn x0.arr id, x0.enc.keep wfn fk1 (fun _ _ => id), x0.d1, x0.d2, x0.d3, x0.d4, x0.d5⟩
  have fm1 : Fm (Fn ba b oa) h k1 := (fma.mono fun _ _ h => .inr h).trans fk1 fun _ _ h => h.elim
  simp +contextual only [↓AM, ↓AV, AP, e2]
  -- the ones
  refine WL.mk (fun m t h' => Wf h' ∧ Fm (Fn ba b oa) h h' ∧ ∃ i : Nat, i ≤ bl w1 - 1 ∧ m = bl w1 - 1 - i ∧ ∃ oa', NumAt h' bx ba b oa' (ones (e, l) i) ∧ (∀ x, At oa' x → At oa x ∨ h.size ≤ x) ∧
    t = [(3, some (.pointer (some ⟨bx, 0, none⟩))), (9, some (.pointer (some ⟨ba, 0, none⟩))), (10, some (.func (.func 63) #[] #[.pointer (some ⟨bx, 0, none⟩), .pointer (some ⟨ba, 0, none⟩)])), (11, some (.int .i64 w1)), (12, some (.int .i64 (bl w1 : Nat))), (42, some (.int .i64 (bl w1 - 1 : Nat))), (43, some (.int .i64 i))])
    ⟨_, wk1, fm1, 0, Nat.zero_le _, rfl, oa, x1, fun x hx => .inl hx, rfl⟩ ?_
  rintro m t k2 ⟨wk2, fm2, i, hi, rfl, oa2, x2, nx2, rfl⟩
  obtain ⟨g2, o2, n2⟩ := ones_ok (s := (e, l)) g.toGd so i
  have trans : ∀ {h2 h3 : Hp} {oa2 oa3 : Option Addr}, Wf h2 → Fm (Fn ba b oa) h h2 → (∀ x, At oa2 x → At oa x ∨ h.size ≤ x) → Fm (Fn ba b oa2) h2 h3 → (∀ y, At oa3 y → At oa2 y ∨ h2.size ≤ y) → Fm (Fn ba b oa) h h3 ∧ ∀ x, At oa3 x → At oa x ∨ h.size ≤ x := by
    intro h2 h3 oa2 oa3 _ f2 n2 f3 n3
    refine ⟨f2.trans f3 fun x hx hF => ?_, fun x hx => ?_⟩
    · rcases hF with h | h | h
      · exact .inl h
      · exact .inr (.inl h)
      · rcases n2 x h with h | h
        · exact .inr (.inr h)
        · omega
    · rcases n3 x hx with h | h
      · exact n2 x h
      · exact .inr (Nat.le_trans f2.size h)
  have hnum := g.num
  by_cases hik : i < bl w1 - 1
  · have hm : (if (15 : Int) < (i : Int) then (15 : Int) else (i : Int)) = ((min i 15 : Nat) : Int) := by split <;> omega
    have hmi : intMin [.int .i64 (i : Int), .int .i64 15] = some (.int .i64 (min i 15 : Nat)) := by
      simp only [intMin, if_true]
      rw [hm]
    have e3 : IntKind.i64.wrap (0 + ((min i 15 : Nat) : Int)) = ((min i 15 : Nat) : Int) := by rw [i64 (by omega)]; omega
    simp +contextual only [↓AM, ↓AV, AP, hik, hmi, e3]
    refine ⟨by kernel_rfl, (c_N1 x2 g2 o2 (by omega) (.inr rfl) (by rw [n2]; show e.n + _ ≤ _; omega)).use ?_⟩
    rintro _ k3 wk3 ⟨oa3, x3, f3, n3⟩
    obtain ⟨fm3, nx3⟩ := trans wk2 fm2 nx2 f3 n3
    simp +contextual only [↓AM, ↓AV, AP]
    refine ⟨_, ?_, wk3, fm3, i + 1, hik, rfl, oa3, x3, nx3, ?_⟩
    · omega
    · rw [i64 (by omega)]; rfl
  · have : i = bl w1 - 1 := by omega
    subst this
    have hm : (if (15 : Int) < ((bl w1 - 1 : Nat) : Int) then (15 : Int) else ((bl w1 - 1 : Nat) : Int)) = ((min (bl w1 - 1) 15 : Nat) : Int) := by split <;> omega
    have hmi : intMin [.int .i64 ((bl w1 - 1 : Nat) : Int), .int .i64 15] = some (.int .i64 (min (bl w1 - 1) 15 : Nat)) := by
      simp only [intMin, if_true]
      rw [hm]
    have e3 : IntKind.i64.wrap (0 + ((min (bl w1 - 1) 15 : Nat) : Int)) = ((min (bl w1 - 1) 15 : Nat) : Int) := by rw [i64 (by omega)]; omega
    simp +contextual only [↓AM, ↓AV, AP, hik, e2, hmi, e3]
    refine ⟨by kernel_rfl, (c_N1 x2 g2 o2 (i := min (bl w1 - 1) 15) (by omega) (.inl rfl) (by rw [n2]; show e.n + _ ≤ _; omega)).use ?_⟩
    rintro _ k3 wk3 ⟨oa3, x3, f3, n3⟩
    obtain ⟨fm3, nx3⟩ := trans wk2 fm2 nx2 f3 n3
    obtain ⟨g3, o3, n3'⟩ := bitS_ok g2 o2 (k := min (bl w1 - 1) 15) (by omega) 0
    simp +contextual only [↓AM, ↓AV, AP]
    have hs3n : (bitS (ones (e, l) (bl w1 - 1)) (min (bl w1 - 1) 15) 0).1.n ≤ e.n + 22 := by rw [n3', n2]; show e.n + _ + 1 ≤ _; omega
    have hnumS : numS (e, l) w1 = lows (bitS (ones (e, l) (bl w1 - 1)) (min (bl w1 - 1) 15) 0) w1 (bl w1) (bl w1 - 1) := rfl
    rw [numE, numL, if_pos hz, if_pos hz, hw1.1, hnumS, hz]
    generalize bitS (ones (e, l) (bl w1 - 1)) (min (bl w1 - 1) 15) 0 = s3 at x3 g3 o3 hs3n
    have e4 : IntKind.i64.wrap ((bl w1 : Int) - 2) = (bl w1 : Int) - 2 := i64 (by omega)
    rw [e4]
    refine WL.mk (fun m t h' => Wf h' ∧ Fm (Fn ba b oa) h h' ∧ ∃ c : Nat, c ≤ bl w1 - 1 ∧ m = bl w1 - 1 - c ∧ ∃ oa', NumAt h' bx ba b oa' (lows s3 w1 (bl w1) c) ∧ (∀ x, At oa' x → At oa x ∨ h.size ≤ x) ∧
      t = [(3, some (.pointer (some ⟨bx, 0, none⟩))), (9, some (.pointer (some ⟨ba, 0, none⟩))), (10, some (.func (.func 63) #[] #[.pointer (some ⟨bx, 0, none⟩), .pointer (some ⟨ba, 0, none⟩)])), (11, some (.int .i64 w1)), (12, some (.int .i64 (bl w1 : Nat))), (14, some (.int .i64 ((bl w1 : Int) - 2 - c)))])
      ⟨_, wk3, fm3, 0, Nat.zero_le _, rfl, oa3, x3, nx3, by simp⟩ ?_
    clear wk3 fm3 x3 nx3 f3 n3
    rintro m t k3 ⟨wk3, fm3, c, hc, rfl, oa3, x3, nx3, rfl⟩
    obtain ⟨g4, o4, n4⟩ := lows_ok g3 o3 w1 (bl w1) c
    by_cases hcn : c < bl w1 - 1
    · have hge : (0 : Int) ≤ (bl w1 : Int) - 2 - c := by omega
      have htn : ((bl w1 : Int) - 2 - c).toNat = bl w1 - 2 - c := by omega
      have hand := wand w1 (bl w1 - 2 - c) (by omega)
      by_cases hc0 : c = 0
      · have heq : EqI ((bl w1 : Int) - 2 - c) ((bl w1 : Int) - 2) = True := by simp [EqI]; omega
        have e5 : IntKind.i64.wrap (16 + ((min (bl w1 - 1) 15 : Nat) : Int)) = ((16 + min (bl w1 - 1) 15 : Nat) : Int) := by rw [i64 (by omega)]; omega
        simp +contextual only [↓AM, ↓AV, AP, hge, e4, heq, e2, hmi, e5, htn, hand]
        refine ⟨by kernel_rfl, (c_N1 x3 g4 o4 (i := 16 + min (bl w1 - 1) 15) (by omega) (wbit_01 _ _) (by rw [n4]; omega)).use ?_⟩
        rintro _ k4 wk4 ⟨oa4, x4, f4, n4'⟩
        obtain ⟨fm4, nx4⟩ := trans wk3 fm3 nx3 f4 n4'
        simp +contextual only [↓AM, ↓AV, AP]
        refine ⟨_, ?_, wk4, fm4, c + 1, hcn, rfl, oa4, ?_, nx4, ?_⟩
        · omega
        · rw [lows, if_pos hc0]; exact x4
        · rw [i64 (by omega)]; congr 6; simp; omega
      · have heq : EqI ((bl w1 : Int) - 2 - c) ((bl w1 : Int) - 2) = False := by simp [EqI]; omega
        have hl4 := g4.len
        simp +contextual only [↓AM, ↓AV, AP, hge, e4, heq, rd_mk x3.box, htn, hand]
        refine (c_put x3.enc g4 st2048 (wbit_01 _ _) (by rw [n4] at hl4; omega) (by rw [n4]; omega)).use ?_
        rintro _ k4 wk4 ⟨oa4, he4, f4, n4'⟩
        have x4 := x3.put wk3 he4 f4 n4'
        obtain ⟨fm4, nx4⟩ := trans wk3 fm3 nx3 (f4.mono fun _ _ h => .inr h) n4'
        simp +contextual only [↓AM, ↓AV, AP]
        refine ⟨_, ?_, wk4, fm4, c + 1, hcn, rfl, oa4, ?_, nx4, ?_⟩
        · omega
        · rw [lows, if_neg hc0]; exact x4
        · rw [i64 (by omega)]; congr 6; simp; omega
    · have : c = bl w1 - 1 := by omega
      subst this
      have hge : ¬ (0 : Int) ≤ (bl w1 : Int) - 2 - ((bl w1 - 1 : Nat) : Int) := by omega
      simp +contextual only [↓AM, ↓AV, AP, hge, bnds, hif]
      have hl32 : (lows s3 w1 (bl w1) (bl w1 - 1)).2.length = 32 := o4.len
      refine ⟨oa3, some ⟨ba, 0, none⟩, 32, ?_, x3.enc, ⟨by simp, by omega, (fun e => by cases e), fun a e => by cases e; exact ⟨rfl, _, x3.arr, by simp, by simp [hl32], List.take_of_length_le (by simp), .inl rfl⟩⟩, fun x hx => ?_, fun x hx => ?_, ?_, nx3⟩
      · rw [hl32]
      · rw [At.some] at hx; subst hx; exact hba
      · rw [At.some] at hx; subst hx
        rintro (h | h)
        · exact x3.d2 h
        · exact x3.d5 h
      · exact fm3.mono fun x hx hF => hF.elim (fun h => by omega) id
/-- A signed number, folded. -/
def foldI (s : Int) : Int := if 0 ≤ s ∧ s < 524288 then 2 * s else if s < 0 ∧ -524288 ≤ s then -2 * s - 1 else -1
theorem c_Signed {h : Hp} {b n c : Nat} {oa a : Option Addr} {e : En} {l : List Int} {s : Int} (he : EncAt .u64 h b oa e) (g : Fit e) (hl : Rd h 1 a n (l.map (Value.int .i64))) (hn : n ≤ 140737488351232) (hs : -9223372036854775808 ≤ s ∧ s ≤ 9223372036854775807) :
    ACalls Try.prog 39 [.pointer (some ⟨b, 0, none⟩), .slice a n c, .int .i64 s] h (NumPost .u64 h b oa (numI e l (foldI s)) (numE e l (foldI s)) (numL e l (foldI s))) := by
  refine arith_Encoder__Signed_ok.snd hm rfl fun w => ?_
  rw [WF_eq, arith_Encoder__Signed]
  have e0 : IntKind.i64.wrap (0 - 524288) = -524288 := by decide
  simp +contextual only [↓AM, ↓AV, AP]
  refine WC.mk (fun t h' => h' = h ∧ t = [(0, some (.pointer (some ⟨b, 0, none⟩))), (1, some (.slice a n c)), (8, some (.int .i64 (foldI s)))]) ?_ ?_
  · simp +contextual only [↓AM, ↓AV, AP, e0]
    refine ⟨fun h1 => ⟨fun h2 => ?_, fun h2 => ⟨fun h3 => ⟨fun h4 => by omega, fun h4 => by omega⟩, fun h3 => ?_⟩⟩, fun h1 => ⟨fun h3 => ⟨fun h4 => ?_, fun h4 => ?_⟩, fun h3 => by omega⟩⟩
    · rw [i64 (by omega), foldI, if_pos ⟨h1, h2⟩]
    · rw [foldI, if_neg (by omega), if_neg (by omega)]
    · rw [i64 (n := -2 * s) (by omega), i64 (by omega), foldI, if_neg (by omega), if_pos ⟨h3, h4⟩]
    · rw [foldI, if_neg (by omega), if_neg (by omega)]
  · rintro t h ⟨rfl, rfl⟩
    simp +contextual only [↓AM, ↓AV, AP]
    have hf : -9223372036854775808 ≤ foldI s ∧ foldI s ≤ 9223372036854775807 := by
      unfold foldI
      split
      · omega
      · split <;> omega
    refine (c_Number he g hl hn hf).use ?_
    rintro r h1 w1 hq
    have hq' := hq
    obtain ⟨oa', os, cap, rfl, _⟩ := hq'
    simp +contextual only [↓AM, ↓AV, AP]
    exact hq
end Go.Proofs.Ytholkooikmbamaa.Ar
