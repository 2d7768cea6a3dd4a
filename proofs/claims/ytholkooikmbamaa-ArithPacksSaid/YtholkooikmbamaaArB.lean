/- The encoder: what a bit does to it, and that the program's functions do so. Plain theorems over the abstract machine.
   Conditions: none. -/
import Derived.Test.YtholkooikmbamaaArA
namespace Go.Proofs.Ytholkooikmbamaa.Ar
open Go Go.RowKit Go.Proofs.Ytholkooikmbamaa.Am Go.Proofs.Ytholkooikmbamaa.Af
set_option linter.unusedVariables false
set_option linter.unusedSimpArgs false
set_option maxRecDepth 20000

/-! ### the encoder, in plain words -/
structure En where
  low : Int
  span : Int
  out : List Int
  n : Int
/-- One more, from the last byte on. -/
def inc : List Int → List Int
  | [] => []
  | x :: r => if x = 255 then 0 :: inc r else (x + 1) :: r
def carryL (l : List Int) : List Int := (inc l.reverse).reverse
theorem carry_nil : carryL [] = [] := rfl
theorem carry_255 (l : List Int) : carryL (l ++ [255]) = carryL l ++ [0] := by simp [carryL, inc]
theorem carry_ne (l : List Int) {x : Int} (h : x ≠ 255) : carryL (l ++ [x]) = l ++ [x + 1] := by simp [carryL, inc, h]
theorem inc_len : ∀ l : List Int, (inc l).length = l.length
  | [] => rfl
  | x :: r => by
    unfold inc
    split
    · simp [inc_len r]
    · simp
theorem carry_len (l : List Int) : (carryL l).length = l.length := by simp [carryL, inc_len]
def Bytes (l : List Int) : Prop := ∀ x ∈ l, 0 ≤ x ∧ x ≤ 255
theorem inc_bytes : ∀ {l : List Int}, Bytes l → Bytes (inc l)
  | [], h => h
  | x :: r, h => by
    have h1 := h x (by simp)
    have h2 : Bytes r := fun y hy => h y (by simp [hy])
    unfold inc
    split
    · intro y hy
      rcases List.mem_cons.1 hy with rfl | hy
      · omega
      · exact inc_bytes h2 y hy
    · intro y hy
      rcases List.mem_cons.1 hy with rfl | hy
      · omega
      · exact h2 y hy
theorem carry_bytes {l : List Int} (h : Bytes l) : Bytes (carryL l) := fun x hx => inc_bytes (l := l.reverse) (fun y hy => h y (by simpa using hy)) x (by simpa [carryL] using hx)
/-- Bytes out while the range is small. -/
def norm (e : En) : En := if e.span < 16777216 then ⟨e.low % 16777216 * 256, e.span * 256, e.out ++ [e.low / 16777216], e.n⟩ else e
def bit1 (e : En) (p b : Int) : En :=
  if b = 0 then ⟨e.low, e.span / 4096 * p, e.out, e.n⟩
  else if 4294967296 ≤ e.low + e.span / 4096 * p then ⟨e.low + e.span / 4096 * p - 4294967296, e.span - e.span / 4096 * p, carryL e.out, e.n⟩
  else ⟨e.low + e.span / 4096 * p, e.span - e.span / 4096 * p, e.out, e.n⟩
def put (e : En) (p b : Int) : En := ⟨(norm (bit1 e p b)).low, (norm (bit1 e p b)).span, (norm (bit1 e p b)).out, e.n + 1⟩
/-- An encoder between two calls. -/
structure Gd (e : En) : Prop where
  low : 0 ≤ e.low ∧ e.low ≤ 4294967295
  span : 16777216 ≤ e.span ∧ e.span ≤ 4294967295
  out : Bytes e.out
  n : 0 ≤ e.n
  len : (e.out.length : Int) ≤ e.n
theorem bound_le {s p : Int} (hs : 16777216 ≤ s ∧ s ≤ 4294967295) (hp : St p) : 126976 ≤ s / 4096 * p ∧ s / 4096 * p ≤ s / 4096 * 4065 ∧ 126976 ≤ s - s / 4096 * p ∧ s / 4096 * p ≤ s := by
  obtain ⟨h1, h2⟩ := hp
  have hq : 4096 ≤ s / 4096 := by omega
  have a1 : s / 4096 * 31 ≤ s / 4096 * p := Int.mul_le_mul_of_nonneg_left h1 (by omega)
  have a2 : s / 4096 * p ≤ s / 4096 * 4065 := Int.mul_le_mul_of_nonneg_left h2 (by omega)
  refine ⟨by omega, a2, by omega, by omega⟩
theorem bit1_gd {e : En} (g : Gd e) {p b : Int} (hp : St p) : 0 ≤ (bit1 e p b).low ∧ (bit1 e p b).low ≤ 4294967295 ∧ 126976 ≤ (bit1 e p b).span ∧ (bit1 e p b).span ≤ 4294967295 ∧ Bytes (bit1 e p b).out := by
  have hb := bound_le g.span hp
  have hl := g.low
  have hs := g.span
  unfold bit1
  split
  · exact ⟨hl.1, hl.2, hb.1, by show e.span / 4096 * p ≤ _; omega, g.out⟩
  · split
    · exact ⟨by show 0 ≤ _ - _; omega, by show e.low + _ - _ ≤ _; omega, hb.2.2.1, by show e.span - _ ≤ _; omega, carry_bytes g.out⟩
    · exact ⟨by show 0 ≤ e.low + _; omega, by show e.low + _ ≤ _; omega, hb.2.2.1, by show e.span - _ ≤ _; omega, g.out⟩
theorem put_len (e : En) (p b : Int) : (put e p b).out.length ≤ e.out.length + 1 := by
  have : (bit1 e p b).out.length = e.out.length := by
    unfold bit1
    split
    · rfl
    · split
      · exact carry_len _
      · rfl
  unfold put norm
  split
  · simp [this]
  · show (bit1 e p b).out.length ≤ _
    omega
theorem put_gd {e : En} (g : Gd e) {p b : Int} (hp : St p) : Gd (put e p b) := by
  obtain ⟨h1, h2, h3, h4, h5⟩ := bit1_gd (b := b) g hp
  have hn := g.n
  have hl := g.len
  have hpl := put_len e p b
  have hlen : ((put e p b).out.length : Int) ≤ e.n + 1 := by omega
  unfold put norm at hlen ⊢
  split
  · rename_i hsm
    rw [if_pos hsm] at hlen
    refine ⟨?_, ?_, ?_, ?_, hlen⟩
    · show 0 ≤ (bit1 e p b).low % 16777216 * 256 ∧ (bit1 e p b).low % 16777216 * 256 ≤ _
      omega
    · show _ ≤ (bit1 e p b).span * 256 ∧ (bit1 e p b).span * 256 ≤ _
      omega
    · intro x hx
      rcases List.mem_append.1 hx with hx | hx
      · exact h5 x hx
      · rw [List.mem_singleton] at hx; subst hx; omega
    · show 0 ≤ e.n + 1; omega
  · rename_i hsm
    rw [if_neg hsm] at hlen
    exact ⟨⟨h1, h2⟩, ⟨by show _ ≤ (bit1 e p b).span; omega, h4⟩, h5, by show 0 ≤ e.n + 1; omega, hlen⟩
def new : En := ⟨0, 4294967295, [], 0⟩
theorem new_gd : Gd new := ⟨⟨by decide, by decide⟩, ⟨by decide, by decide⟩, (fun x hx => by cases hx), by decide, by decide⟩
def closed (e : En) : List Int := e.out ++ [e.low / 16777216, e.low / 65536 % 256, e.low / 256 % 256, e.low % 256]

/-! ### the encoder in memory -/
def EncAt (k : IntKind) (h : Hp) (b : Nat) (oa : Option Addr) (e : En) : Prop :=
  ∃ ln cap, h.get b = some ⟨[.int k e.low, .int k e.span, .slice oa ln cap, .int .i64 e.n], .own⟩ ∧ Ow h 1 oa ln cap (e.out.map (Value.int .u8)) ∧ ¬ At oa b
/-- What an encoder's calls may change. -/
def Ft (b : Nat) (oa : Option Addr) : Nat → Prop := fun x => x = b ∨ At oa x
theorem EncAt.keep {k : IntKind} {h h' : Hp} {b : Nat} {oa : Option Addr} {e : En} {F : Nat → Prop} (w : Wf h) (x : EncAt k h b oa e) (f : Fm F h h') (hf : ∀ y, Ft b oa y → ¬ F y) : EncAt k h' b oa e := by
  obtain ⟨ln, cap, h1, h2, h3⟩ := x
  exact ⟨ln, cap, f.keep w h1 (hf b (.inl rfl)), h2.keep w f fun y hy => hf y (.inr hy), h3⟩
theorem EncAt.lt {k : IntKind} {h : Hp} {b : Nat} {oa : Option Addr} {e : En} (w : Wf h) (x : EncAt k h b oa e) : ∀ y, Ft b oa y → y < h.size := by
  obtain ⟨ln, cap, h1, h2, h3⟩ := x
  rintro y (rfl | hy)
  · exact w.lt h1
  · exact h2.lt w y hy

theorem c_carry {h : Hp} {oa : Option Addr} {ln cap : Nat} {xs : List Int} (ho : Ow h 1 oa ln cap (xs.map (Value.int .u8))) (hb : Bytes xs) (hn : ln ≤ 140737488351232) :
    ACalls Try.prog 69 [.slice oa ln cap] h fun v h' => Ow h' 1 oa ln cap ((carryL xs).map (Value.int .u8)) ∧ Fm (At oa) h h' := by
  refine arith_carry_ok.snd hm rfl fun w => ?_
  rw [WF_eq, arith_carry]
  have la := ho.rd.ilen
  simp +contextual only [↓AM, ↓AV, AP]
  refine WL.mk (fun k t h' => Wf h' ∧ Fm (At oa) h h' ∧ ∃ i : Int, -1 ≤ i ∧ i < ln ∧ k = (i + 1).toNat ∧ ∃ ys, Ow h' 1 oa ln cap (ys.map (Value.int .u8)) ∧ carryL xs = carryL (xs.take (i + 1).toNat) ++ ys.drop (i + 1).toNat ∧ ys.take (i + 1).toNat = xs.take (i + 1).toNat ∧
    t = [(0, some (.slice oa ln cap)), (2, some (.int .i64 i))]) ⟨ln, w, Fm.refl, (ln : Int) - 1, by omega, by omega, by omega, xs, ho, ?_, ?_, ?_⟩ ?_
  · rw [show ((ln : Int) - 1 + 1).toNat = xs.length by omega]; simp
  · rfl
  · rw [i64 (by omega)]
  rintro k t h1 ⟨w1, fm, i, hi, hi2, rfl, ys, ow, hc, ht, rfl⟩
  by_cases hi0 : 0 ≤ i
  · obtain ⟨j, rfl⟩ : ∃ j : Nat, i = j := ⟨i.toNat, by omega⟩
    have hj : j < ln := by omega
    have ly := ow.rd.ilen
    obtain ⟨b1, s1, ob, v, rfl, f1, hg, hmd, hle, hv, r1, hput⟩ := ow.cell w1 hj
    rw [List.getElem?_map] at hv
    obtain ⟨u, hu, rfl⟩ : ∃ u, ys[j]? = some u ∧ Value.int .u8 u = v := by
      cases hy : ys[j]? with
      | none => rw [hy] at hv; cases hv
      | some u => rw [hy] at hv; exact ⟨u, rfl, by simpa using hv⟩
    have e1 : ((j : Int) + 1).toNat = j + 1 := rfl
    rw [e1] at hc ht
    have hxj : xs[j]? = some u := by
      have := congrArg (·[j]?) ht
      simpa [List.getElem?_take, hu] using this.symm
    have hub := hb u (List.mem_of_getElem? hxj)
    obtain ⟨p1, p2, p3, p4⟩ := hput (.int .u8 (IntKind.u8.wrap (u + 1)))
    have hset : (ys.map (Value.int .u8)).set j (.int .u8 (IntKind.u8.wrap (u + 1))) = (ys.set j (IntKind.u8.wrap (u + 1))).map (Value.int .u8) := by rw [List.map_set]
    rw [hset] at p2
    have fm2 : Fm (At (some ⟨b1, 0, s1⟩)) h _ := fm.trans p4 fun _ _ h => h
    have htk : xs.take (j + 1) = xs.take j ++ [u] := by rw [List.take_add_one, hxj]; rfl
    have hyj : j < ys.length := by omega
    simp +contextual only [↓AM, ↓AV, AP, f1, r1, hj, hg, hmd, hle, p1]
    refine ⟨fun hne => ⟨?_, fm2⟩, fun he => ⟨_, ?_, p3, fm2, (j : Int) - 1, by omega, by omega, rfl, _, p2, ?_, ?_, ?_⟩⟩
    · have hu255 : u ≠ 255 := by intro e; subst e; exact hne (by decide)
      rw [u8 (by omega)] at p2
      rw [hc, htk, carry_ne _ hu255]
      have : ys.set j (u + 1) = (List.take j xs ++ [u + 1]) ++ ys.drop (j + 1) := by
        have h2 : ys.take j = xs.take j := by
          have := congrArg (List.take j) ht
          simpa [List.take_take] using this
        rw [← h2, List.set_eq_take_append_cons_drop, if_pos hyj]
        simp
      rw [← this]
      rw [u8 (by omega)]
      exact p2
    · omega
    · have hu255 : u = 255 := by
        have he' : IntKind.u8.wrap (u + 1) = 0 := he
        rw [IntKind.wrap_u8] at he'
        omega
      subst hu255
      rw [show ((j : Int) - 1 + 1).toNat = j by omega, hc, htk, carry_255, List.append_assoc]
      congr 1
      rw [show IntKind.u8.wrap (255 + 1) = 0 by decide, List.drop_eq_getElem_cons (l := ys.set j 0) (by simpa using hyj), List.getElem_set_self, List.drop_set_of_lt (by omega)]
      rfl
    · rw [show ((j : Int) - 1 + 1).toNat = j by omega]
      have := congrArg (List.take j) ht
      rw [List.take_set, List.set_eq_of_length_le (by simp; omega)]
      simpa [List.take_take] using this
    · rw [i64 (by omega)]
  · have : i = -1 := by omega
    subst this
    simp +contextual only [↓AM, ↓AV, AP, hi0]
    simp at hc
    rw [hc]
    exact ⟨ow, fm⟩

theorem and_full {x : Int} (h : 0 ≤ x ∧ x ≤ 18446744073709551615) : IntKind.u64.wrap ((BitVec.ofInt IntKind.u64.bits x &&& BitVec.ofInt IntKind.u64.bits 4294967295).toNat : Int) = x % 4294967296 := by
  obtain ⟨n, rfl⟩ : ∃ n : Nat, x = n := ⟨x.toNat, by omega⟩
  have e : (BitVec.ofInt IntKind.u64.bits (n : Int) &&& BitVec.ofInt IntKind.u64.bits 4294967295).toNat = n % 4294967296 := by
    show (BitVec.ofInt 64 (n : Int) &&& BitVec.ofInt 64 4294967295).toNat = _
    rw [BitVec.toNat_and]
    have h1 : (BitVec.ofInt 64 (n : Int)).toNat = n := by simp [BitVec.toNat_ofInt]; omega
    have h2 : (BitVec.ofInt 64 4294967295).toNat = 2 ^ 32 - 1 := by decide
    rw [h1, h2, Nat.and_two_pow_sub_one_eq_mod]
  rw [e, u64 (by omega)]
  omega
theorem shr_u {x : Int} {k : Nat} (hx : 0 ≤ x) : x.fdiv (2 ^ k) = x / 2 ^ k := by
  rw [Int.fdiv_eq_ediv_of_nonneg _ (by exact Int.le_of_lt (Int.pow_pos (by decide)))]
theorem EncAt.st {k : IntKind} {h : Hp} {b ln cap : Nat} {oa : Option Addr} {o : Ob} {e : En} (w : Wf h) (hg : h.get b = some o) (ow : Ow h 1 oa ln cap (e.out.map (Value.int .u8))) (hna : ¬ At oa b) :
    EncAt k (h.put b ⟨[.int k e.low, .int k e.span, .slice oa ln cap, .int .i64 e.n], .own⟩) b oa e :=
  ⟨ln, cap, gput, ow.keep w (Fm.put (F := fun x => x = b) Fm.refl fun _ => rfl) (fun x hx hb => hna (hb ▸ hx)), hna⟩
theorem Fm.ft {h h' : Hp} {b : Nat} {oa : Option Addr} {o : Ob} (f : Fm (Ft b oa) h h') : Fm (Ft b oa) h (h'.put b o) := f.put fun _ => .inl rfl
theorem c_put {h : Hp} {b : Nat} {oa : Option Addr} {e : En} {p bt : Int} (he : EncAt .u64 h b oa e) (g : Gd e) (hp : St p) (hb : bt = 0 ∨ bt = 1) (hl : e.out.length ≤ 100000000) (hn : e.n ≤ 100000000) :
    ACalls Try.prog 46 [.pointer (some ⟨b, 0, none⟩), .int .i64 p, .int .i64 bt] h fun v h' => ∃ oa', EncAt .u64 h' b oa' (put e p bt) ∧ Fm (Ft b oa) h h' ∧ ∀ x, At oa' x → At oa x ∨ h.size ≤ x := by
  refine arith_Encoder__put_ok.snd hm rfl fun w => ?_
  rw [WF_eq, arith_Encoder__put]
  have he0 := he
  obtain ⟨ln, cap, hg, ow, hna⟩ := he
  have la := ow.rd.ilen
  have hs := g.span
  have hlo := g.low
  have hp' := hp
  obtain ⟨hp1, hp2⟩ := hp'
  have hbd := bound_le g.span hp
  have hmid := bit1_gd (b := bt) g hp
  have e1 : e.span.fdiv (2 ^ min 12 IntKind.u64.bits) = e.span / 4096 := shr_u (k := 12) (by omega)
  have e2 : IntKind.u64.wrap p = p := u64 (by omega)
  have e3 : IntKind.u64.wrap (e.span / 4096 * p) = e.span / 4096 * p := u64 (by omega)
  have e4 : IntKind.u64.wrap (e.low + e.span / 4096 * p) = e.low + e.span / 4096 * p := u64 (by omega)
  have e5 : IntKind.u64.wrap (e.span - e.span / 4096 * p) = e.span - e.span / 4096 * p := u64 (by omega)
  simp +contextual only [↓AM, ↓AV, AP, rd_mk hg, hg]
  refine WC.mk (fun t h' => t = [(0, some (.pointer (some ⟨b, 0, none⟩)))] ∧ Wf h' ∧ Fm (Ft b oa) h h' ∧ EncAt .u64 h' b oa (bit1 e p bt)) ?_ ?_
  · simp +contextual only [↓AM, ↓AV, AP, rd_mk hg, hg, e1, e2, e3, e4, e5]
    refine ⟨fun (hb0 : bt = 0) => ⟨w.put (w.lt hg), Fm.ft Fm.refl, ?_⟩, fun (hb0 : ¬ bt = 0) => ⟨fun hbig => ?_, fun hbig => ⟨w.put (w.lt hg), Fm.ft Fm.refl, ?_⟩⟩⟩
    · have := EncAt.st (k := .u64) (e := bit1 e p bt) w hg (by rw [bit1, if_pos hb0]; exact ow) hna
      rw [bit1, if_pos hb0] at this ⊢
      exact this
    · have e6 := and_full (x := e.low + e.span / 4096 * p) (by omega)
      have h0 : Fm (fun x => x = b) h (h.put b ⟨[.int .u64 ((e.low + e.span / 4096 * p) % 4294967296), .int .u64 (e.span - e.span / 4096 * p), .slice oa ln cap, .int .i64 e.n], .own⟩) := Fm.put Fm.refl fun _ => rfl
      rw [e6]
      have ow0 := ow.keep w h0 (fun x hx hb => hna (hb ▸ hx))
      refine (c_carry ow0 g.out (by omega)).use ?_
      rintro v h1 w1 ⟨ow1, fm1⟩
      have hb1 := fm1.keep (w.put (w.lt hg)) gput hna
      simp only [↓AM, ↓AV, AP]
      refine ⟨w1, (h0.mono fun x _ hx => .inl hx).trans fm1 fun x _ hx => .inr hx, ?_⟩
      rw [bit1, if_neg hb0, if_pos (by omega)]
      refine ⟨ln, cap, ?_, ow1, hna⟩
      rw [hb1]
      show some _ = some _
      rw [show (e.low + e.span / 4096 * p) % 4294967296 = e.low + e.span / 4096 * p - 4294967296 by omega]
    · have e7 : bit1 e p bt = ⟨e.low + e.span / 4096 * p, e.span - e.span / 4096 * p, e.out, e.n⟩ := by rw [bit1, if_neg hb0, if_neg (by omega)]
      have := EncAt.st (k := .u64) (e := bit1 e p bt) w hg (by rw [e7]; exact ow) hna
      rw [e7] at this ⊢
      exact this
  · rintro t h1 ⟨rfl, w1, fm, he1⟩
    simp +contextual only [↓AM, ↓AV, AP]
    have hmn : (bit1 e p bt).n = e.n := by unfold bit1; split; rfl; split <;> rfl
    have hml : (bit1 e p bt).out.length = e.out.length := by
      unfold bit1
      split
      · rfl
      · split
        · exact carry_len _
        · rfl
    have hput : put e p bt = ⟨(norm (bit1 e p bt)).low, (norm (bit1 e p bt)).span, (norm (bit1 e p bt)).out, e.n + 1⟩ := rfl
    rw [hput]
    generalize bit1 e p bt = m at hmn hml he1 hmid ⊢
    refine WL.mk (fun k t h' => t = [(0, some (.pointer (some ⟨b, 0, none⟩)))] ∧ Wf h' ∧ Fm (Ft b oa) h h' ∧ ∃ oa', (∀ x, At oa' x → At oa x ∨ h.size ≤ x) ∧ ((k = 1 ∧ EncAt .u64 h' b oa' m) ∨ (k = 0 ∧ EncAt .u64 h' b oa' (norm m) ∧ 16777216 ≤ (norm m).span)))
      ⟨1, rfl, w1, fm, oa, fun x hx => .inl hx, .inl ⟨rfl, he1⟩⟩ ?_
    have hnn := g.n
    have hn1 : (norm m).n = m.n := by unfold norm; split <;> rfl
    rintro k t h2 ⟨rfl, w2, fm2, oa2, nx, ⟨rfl, he2⟩ | ⟨rfl, he2, hsp⟩⟩
    · obtain ⟨l, c, hg2, ow2, hna2⟩ := he2
      have la2 := ow2.rd.ilen
      by_cases hsm : m.span < 16777216
      · have e8 : norm m = ⟨m.low % 16777216 * 256, m.span * 256, m.out ++ [m.low / 16777216], m.n⟩ := by rw [norm, if_pos hsm]
        have e9 : m.low.fdiv (2 ^ min 24 IntKind.u64.bits) = m.low / 16777216 := shr_u (k := 24) (by omega)
        have e10 : IntKind.u8.wrap (m.low / 16777216) = m.low / 16777216 := u8 (by omega)
        have e11 : IntKind.u64.wrap (m.low * 2 ^ min 8 IntKind.u64.bits) = m.low * 256 := by
          show IntKind.u64.wrap (m.low * 256) = _
          exact u64 (by omega)
        have e12 := and_full (x := m.low * 256) (by omega)
        have e13 : IntKind.u64.wrap (m.span * 2 ^ min 8 IntKind.u64.bits) = m.span * 256 := by
          show IntKind.u64.wrap (m.span * 256) = _
          exact u64 (by omega)
        simp +contextual only [↓AM, ↓AV, AP, rd_mk hg2, hg2, hsm, src_new, e9, e10]
        refine ow2.push (m := 1) w2 rfl (by omega) fun oa3 c3 h3 ow3 w3 fm3 nx3 => ?_
        try simp +contextual only [↓AM, ↓AV, AP]
        have hg3 := fm3.keep w2 hg2 hna2
        have hna3 : ¬ At oa3 b := fun hx => (nx3 b hx).elim hna2 fun hs => by have := w2.lt hg2; omega
        simp +contextual only [↓AM, ↓AV, AP, rd_mk hg3, hg3, e11, e12, e13]
        refine ⟨0, by omega, w3.put (w3.lt hg3), Fm.ft (fm2.trans fm3 fun x hx ha => ?_), oa3, ?_, ?_⟩
        · rcases nx x ha with h | h
          · exact .inr h
          · omega
        · intro x hx
          rcases nx3 x hx with h | h
          · exact nx x h
          · exact .inr (Nat.le_trans fm2.size h)
        · refine .inr ⟨rfl, ?_, ?_⟩
          · have := EncAt.st (k := .u64) (e := norm m) w3 hg3 (by rw [e8, List.map_append]; exact ow3) hna3
            rw [e8] at this ⊢
            rw [show m.low * 256 % 4294967296 = m.low % 16777216 * 256 by omega]
            exact this
          · rw [e8]; show _ ≤ m.span * 256; omega
      · have e8 : norm m = m := by rw [norm, if_neg hsm]
        simp +contextual only [↓AM, ↓AV, AP, rd_mk hg2, hg2, hsm]
        rw [e8, hmn, i64 (by omega)]
        exact ⟨oa2, EncAt.st (e := ⟨m.low, m.span, m.out, e.n + 1⟩) w2 hg2 ow2 hna2, Fm.ft fm2, nx⟩
    · obtain ⟨l, c, hg2, ow2, hna2⟩ := he2
      have hsm : ¬ (norm m).span < 16777216 := by omega
      simp +contextual only [↓AM, ↓AV, AP, rd_mk hg2, hg2, hsm]
      rw [hn1, hmn, i64 (by omega)]
      exact ⟨oa2, EncAt.st (e := ⟨(norm m).low, (norm m).span, (norm m).out, e.n + 1⟩) w2 hg2 ow2 hna2, Fm.ft fm2, nx⟩
end Go.Proofs.Ytholkooikmbamaa.Ar
