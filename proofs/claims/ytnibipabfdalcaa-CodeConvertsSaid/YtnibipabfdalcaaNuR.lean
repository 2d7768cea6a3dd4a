/- The document's natural numbers in memory. Plain theorems over the abstract machine.
   Conditions: none. -/
import Derived.Test.YtnibipabfdalcaaNuH
namespace Go.Proofs.Ytnibipabfdalcaa.Nu
open Go Go.RowKit Go.Proofs.Ytnibipabfdalcaa.Am Go.Proofs.Ytnibipabfdalcaa.Af Go.Proofs.Ytnibipabfdalcaa.Md
set_option linter.unusedVariables false
set_option linter.unusedSimpArgs false
set_option linter.defProp false
set_option maxRecDepth 20000
set_option maxHeartbeats 1000000

abbrev B9 : Nat := 1000000000
theorem b9 : 1 < B9 := by decide
def dc (v : Nat) : List Nat := dig B9 b9 v
def i3 (M : List Nat) : List Value := (M.map Int.ofNat).map (Value.int .i64)
theorem i3_len (M : List Nat) : (i3 M).length = M.length := by simp [i3]
theorem i3_take (M : List Nat) (k : Nat) : (i3 M).take k = i3 (M.take k) := by simp [i3, List.map_take]
theorem i3_app (a b : List Nat) : i3 (a ++ b) = i3 a ++ i3 b := by simp [i3]
theorem _root_.Go.Proofs.Ytnibipabfdalcaa.Am.Rd.dec {h : Hp} {oa : Option Addr} {n : Nat} {M : List Nat} (r : Rd h 1 oa n (i3 M)) {i : Nat} (hi : i < n) :
    ∃ b off sp d, oa = some ⟨b, off, sp⟩ ∧ flagOk sp = true ∧ M[i]? = some d ∧ h.rd b (off + i) = some (.int .i64 (d : Int)) := by
  obtain ⟨b, off, sp, h1, h2, v, h3, h4⟩ := r.int hi
  rw [List.getElem?_map] at h3
  cases hm : M[i]? with
  | none => rw [hm] at h3; cases h3
  | some d => rw [hm] at h3; cases h3; exact ⟨b, off, sp, d, h1, h2, rfl, h4⟩
structure Dm (h : Hp) (oa : Option Addr) (n c : Nat) (M : List Nat) : Prop where
  rd : Rd h 1 oa n (i3 M)
  le : n ≤ c
  dl : Dl B9 M
theorem Dm.len {h : Hp} {oa : Option Addr} {n c : Nat} {M : List Nat} (l : Dm h oa n c M) : M.length = n := by
  have := l.rd.len; rw [i3_len] at this; omega
/-- A slice that is the digits of a number. -/
def DmV (h : Hp) (v : Value) (x : Nat) : Prop := ∃ oa c, v = .slice oa (dc x).length c ∧ Dm h oa (dc x).length c (dc x)
/-- The same, in blocks of a kind. -/
def DmW (S : Nat → Prop) (h : Hp) (v : Value) (x : Nat) : Prop := ∃ oa c, v = .slice oa (dc x).length c ∧ Dm h oa (dc x).length c (dc x) ∧ ∀ z, At oa z → S z
theorem DmW.v {S : Nat → Prop} {h : Hp} {v : Value} {x : Nat} (l : DmW S h v x) : DmV h v x := by
  obtain ⟨oa, c, e, l, _⟩ := l
  exact ⟨oa, c, e, l⟩
theorem DmV.keep {h h' : Hp} {v : Value} {x : Nat} (l : DmV h v x) (w : Wf h) (fm : Fm No h h') : DmV h' v x := by
  obtain ⟨oa, c, e, l⟩ := l
  exact ⟨oa, c, e, l.rd.keepW w fm nNo, l.le, l.dl⟩
theorem dc_dl (x : Nat) : Dl B9 (dc x) := dig_dl x
theorem dc_val (x : Nat) : vL B9 (dc x) = x := dig_val x
theorem dc_0 : dc 0 = [] := dig_0
theorem dc_S {x : Nat} (h : x ≠ 0) : dc x = x % 1000000000 :: dc (x / 1000000000) := dig_pos h
theorem dc_len {x k : Nat} (h : x < B9 ^ k) : (dc x).length ≤ k := by
  rcases Nat.lt_or_ge k (dc x).length with hk | hk
  · exfalso
    have h1 := vL_ge b9 (dig_nz (hB := b9) x) (by intro e; rw [show dc x = [] from e] at hk; simp at hk)
    rw [show vL B9 (dig B9 b9 x) = x from dc_val x] at h1
    have h2 : B9 ^ k ≤ B9 ^ ((dig B9 b9 x).length - 1) := Nat.pow_le_pow_right (by decide) (by show k ≤ (dc x).length - 1; omega)
    omega
  · exact hk
theorem tdivL (a : Nat) : (a : Int).tdiv 1000000000 = ((a / 1000000000 : Nat) : Int) := ntdiv a 1000000000
theorem tmodL (a : Nat) : (a : Int).tmod 1000000000 = ((a % 1000000000 : Nat) : Int) := ntmod a 1000000000
theorem nz9 : ((1000000000 : Int) = 0) = False := by simp
def CD := And.intro @tdivL <| And.intro @tmodL @nz9
theorem c_Of {h : Hp} {x : Nat} (hx : (x : Int) ≤ 9223372036854775807) :
    ACalls Try.prog 70 [.int .i64 (x : Int)] h fun v h' => DmW (fun z => h.size ≤ z) h' v x ∧ Fm No h h' := by
  refine dioramaref02_Of_ok.snd hm rfl fun w => ?_
  rw [WF_eq, dioramaref02_Of]
  simp +contextual (disch := omega) only [↓AM, ↓AV, AP, CQ]
  have hlen : (dc x).length ≤ 4 := dc_len (Nat.lt_of_lt_of_le (show x < 9223372036854775808 by omega) (by decide))
  refine WL.mk (fun m t h' => Wf h' ∧ Fm No h h' ∧ m ≤ x ∧ ∃ oa cap L, Nw h oa ∧ Ow h' 1 oa L.length cap (i3 L) ∧ dc x = L ++ dc m ∧ t = [(0, some (.int .i64 (m : Int))), (3, some (.slice oa L.length cap))])
    ⟨x, w, Fm.refl, Nat.le_refl _, none, 0, [], Nw.none, Ow.mk0, rfl, rfl⟩ ?_
  rintro m t h1 ⟨w1, fm, hmx, oa, cap, L, nw, ow, he, rfl⟩
  rcases Nat.eq_zero_or_pos m with rfl | h0
  · have e0 : ((0 : Int) < ((0 : Nat) : Int)) = False := by simp
    simp +contextual (disch := omega) only [↓AM, ↓AV, AP, CQ, e0]
    rw [dc_0, List.append_nil] at he
    subst he
    exact ⟨⟨_, _, rfl, ⟨ow.rd, ow.le, dc_dl _⟩, nw⟩, fm⟩
  · have e0 : ((0 : Int) < (m : Int)) = True := eq_true (by omega)
    have hL : L.length ≤ 4 := by have := congrArg List.length he; rw [List.length_append] at this; omega
    simp +contextual (disch := omega) only [↓AM, ↓AV, AP, CQ, CD, e0, i64]
    refine ow.push (m := 1) w1 rfl ?_ fun oa' cap' h2 o2 w2 f2 n2 => ?_
    · omega
    obtain ⟨g1, g2⟩ := grown fm nw f2 n2
    simp +contextual (disch := omega) only [↓AM, ↓AV, AP, CQ, CD, i64]
    refine ⟨m / 1000000000, by omega, w2, g1, by omega, oa', cap', L ++ [m % 1000000000], g2, ?_, ?_, by simp⟩
    · rw [i3_app, List.length_append]; exact o2
    · rw [he, dc_S (by omega)]; simp
theorem c_size {h : Hp} {x : Nat} (hx : (x : Int) ≤ 9223372036854775807) :
    ACalls Try.prog 72 [.int .i64 (x : Int)] h fun v h' => DmW (fun z => h.size ≤ z) h' v x ∧ Fm No h h' := by
  refine dioramaref02_size_ok.snd hm rfl fun w => ?_
  rw [WF_eq, dioramaref02_size]
  have e0 : ((x : Int) < 0) = False := by simp
  simp +contextual (disch := omega) only [↓AM, ↓AV, AP, CQ, e0]
  refine (c_Of hx).use ?_
  rintro v h1 w1 ⟨l, fm⟩
  simp +contextual (disch := omega) only [↓AM, ↓AV, AP, CQ]
  exact ⟨l, fm⟩
theorem c_digit {h : Hp} {oa : Option Addr} {n c i : Nat} {M : List Nat} (r : Rd h 1 oa n (i3 M)) (hn : n ≤ 1000000) :
    ACalls Try.prog 104 [.slice oa n c, .int .i64 (i : Int)] h fun v h' => v = .int .i64 ((M.getD i 0 : Nat) : Int) ∧ h' = h := by
  refine dioramaref02_digit_ok.snd hm rfl fun w => ?_
  rw [WF_eq, dioramaref02_digit]
  have hl := r.len
  rw [i3_len] at hl
  by_cases hi : i < n
  · obtain ⟨b1, o1, s1, d, rfl, f1, hd, r1⟩ := r.dec hi
    simp +contextual (disch := omega) only [↓AM, ↓AV, AP, CQ, hi, f1, r1]
    rw [List.getD_eq_getElem?_getD, hd]; rfl
  · simp +contextual (disch := omega) only [↓AM, ↓AV, AP, CQ, hi]
    rw [List.getD_eq_getElem?_getD, List.getElem?_eq_none (by omega)]; rfl
theorem nz_takeR {B : Nat} {M : List Nat} {k d : Nat} (h : M[k]? = some d) (hd : d ≠ 0) : Nz (M.take (k + 1)) := by
  unfold Nz
  rw [List.take_add_one, h]
  simp [hd]
theorem _root_.Go.Proofs.Ytnibipabfdalcaa.Am.Rd.takeS {h : Hp} {b off n cap k : Nat} {sp : Option Nat} {cs : List Value} (r : Rd h 1 (some ⟨b, off, sp⟩) n cs) (hf : flagOk sp = true) (hk : k ≤ n) (hc : n ≤ cap) :
    Rd h 1 (some (slAddr b off sp 1 0 cap true)) k (cs.take k) := by
  by_cases h0 : cap = 0
  · have hk0 : k = 0 := by omega
    have hn0 : n = 0 := by omega
    subst hk0 hn0 h0
    have e : cs = [] := List.length_eq_zero_iff.1 (by have := r.len; omega)
    subst e
    refine ⟨rfl, fun e => rfl, fun a e => ?_⟩
    rcases r.at_ _ rfl with ⟨h1, h2⟩ | ⟨h1, h2⟩
    · cases e
      cases sp with
      | none => exact .inl ⟨rfl, by simpa [slAddr] using h2⟩
      | some v =>
        cases hv : flagOk (some 0) with
        | true => exact .inl ⟨by simpa [slAddr] using hv, by simpa [slAddr] using h2⟩
        | false => exact .inr ⟨by simpa [slAddr] using hv, rfl⟩
    · rw [hf] at h1; cases h1
  · have e : slAddr b off sp 1 0 cap true = ⟨b, off, sp⟩ := by cases sp <;> simp [slAddr, h0]
    rw [e]
    exact r.take hk
theorem c_trimmed {h : Hp} {oa : Option Addr} {n c : Nat} {M : List Nat} (l : Dm h oa n c M) (hn : n ≤ 1000000) (hf : ∀ a, oa = some a → flagOk a.spot = true) (hnil : oa = none → c = 0) :
    ACalls Try.prog 105 [.slice oa n c] h fun v h' => DmW (At oa) h v (vL B9 M) ∧ h' = h := by
  refine dioramaref02_trimmed_ok.snd hm rfl fun w => ?_
  rw [WF_eq, dioramaref02_trimmed]
  simp +contextual (disch := omega) only [↓AM, ↓AV, AP, CQ]
  have hml := l.len
  refine WL.mk (fun k t h' => h' = h ∧ k ≤ n ∧ vL B9 (M.take k) = vL B9 M ∧ t = [(0, some (.slice oa n c)), (3, some (.int .i64 (k : Int)))]) ⟨n, rfl, Nat.le_refl _, by rw [List.take_of_length_le (by omega)], rfl⟩ ?_
  rintro k t hh ⟨rfl, hk, hv, rfl⟩
  have hc := l.le
  have fin : ∀ oa', M.take k = dc (vL B9 M) → Rd hh 1 oa' k ((i3 M).take k) → (∀ z, At oa' z → At oa z) → DmW (At oa) hh (.slice oa' k c) (vL B9 M) := fun oa' e r hS => by
    have hl : (dc (vL B9 M)).length = k := by rw [← e]; simp; omega
    refine ⟨oa', c, by rw [hl], ⟨?_, by omega, dc_dl _⟩, hS⟩
    rw [hl, ← e, ← i3_take]
    exact r
  have uq : Nz (M.take k) → M.take k = dc (vL B9 M) := fun hz => by
    rw [← hv]; exact dig_uniq b9 (l.dl.take k) hz
  have done : Nz (M.take k) → (∀ b o s, oa = some ⟨b, o, s⟩ → DmW (At oa) hh (.slice (some (slAddr b o s 1 0 c true)) k c) (vL B9 M)) := fun hz b o s e => by
    subst e
    refine fin _ (uq hz) (l.rd.takeS (hf _ rfl) hk hc) ?_
    rintro z ⟨a, e, hz⟩
    cases e
    refine ⟨_, rfl, ?_⟩
    rw [← hz]
    cases s with
    | none => rfl
    | some v =>
      unfold slAddr
      by_cases hc0 : c = 0
      · simp [hc0]
      · simp [hc0]
  cases k with
  | zero =>
    have e0 : ((0 : Int) < ((0 : Nat) : Int)) = False := by simp
    have dn := done (by simp [Nz])
    rcases oa with _ | ⟨b, o, s⟩
    · have := l.rd.nil rfl
      subst this
      have := hnil rfl
      subst this
      simp +contextual (disch := omega) only [↓AM, ↓AV, AP, CQ, e0, bnds, Option.isNone]
      have := fin none (uq (by simp [Nz])) (by rw [List.take_zero]; exact Rd.mk0) (fun z hz => hz)
      simpa using this
    · have hs := hf _ rfl
      simp +contextual (disch := omega) only [↓AM, ↓AV, AP, CQ, e0, bnds, Option.isNone]
      exact ⟨hs, by cases s <;> simp [capOk]; omega, by omega, dn _ _ _ rfl⟩
  | succ k =>
    obtain ⟨b1, o1, s1, d, rfl, f1, hd, r1⟩ := l.rd.dec (i := k) (by omega)
    have e0 : ((0 : Int) < (((k + 1 : Nat)) : Int)) = True := by simp
    have lt := l.dl.at hd
    have kk : k < n := by omega
    by_cases hz : d = 0
    · subst hz
      have e1 : EqI ((0 : Nat) : Int) 0 = True := eqI_self
      simp +contextual (disch := omega) only [↓AM, ↓AV, AP, CQ, e0, i64, f1, r1, e1, kk]
      refine ⟨k, by omega, by omega, ?_, rfl⟩
      rw [← hv, List.take_add_one, hd]
      exact vL_init.symm
    · have e1 : EqI (d : Int) 0 = False := eq_false (by unfold EqI; omega)
      have dn := done (nz_takeR (B := B9) hd hz) _ _ _ rfl
      have hcap : capOk s1 n c := by cases s1 <;> simp [capOk]; omega
      simp +contextual (disch := omega) only [↓AM, ↓AV, AP, CQ, e0, i64, f1, r1, e1, kk, bnds, Option.isNone, hcap]
      exact ⟨by omega, dn⟩
theorem c_Compare {h : Hp} {a b : Option Addr} {c d x y : Nat} (la : Dm h a (dc x).length c (dc x)) (lb : Dm h b (dc y).length d (dc y)) (hx : (dc x).length ≤ 1000000) (hy : (dc y).length ≤ 1000000) :
    ACalls Try.prog 106 [.slice a (dc x).length c, .slice b (dc y).length d] h fun v h' => v = .int .i64 (if x < y then -1 else if x = y then 0 else 1) ∧ h' = h := by
  refine dioramaref02_Compare_ok.snd hm rfl fun w => ?_
  rw [WF_eq, dioramaref02_Compare]
  have ll : (dc x).length < (dc y).length → x < y := fun hlt => by
    have := len_lt b9 (dc_dl x) (dig_nz (hB := b9) y) hlt
    rwa [dc_val, show vL B9 (dig B9 b9 y) = y from dc_val y] at this
  have lr : (dc y).length < (dc x).length → y < x := fun hlt => by
    have := len_lt b9 (dc_dl y) (dig_nz (hB := b9) x) hlt
    rwa [dc_val, show vL B9 (dig B9 b9 x) = x from dc_val x] at this
  by_cases hne : ((dc x).length : Int) = ((dc y).length : Int)
  case neg =>
    have e0 : EqI ((dc x).length : Int) ((dc y).length : Int) = False := eq_false hne
    by_cases hlt : (dc x).length < (dc y).length
    · have := ll hlt
      simp +contextual (disch := omega) only [↓AM, ↓AV, AP, CQ, i64, e0, hlt, this]
    · have := lr (by omega)
      have n1 : ¬ x < y := by omega
      have n2 : ¬ x = y := by omega
      simp +contextual (disch := omega) only [↓AM, ↓AV, AP, CQ, i64, e0, hlt, n1, n2]
  have hl : (dc x).length = (dc y).length := by omega
  have e0 : EqI ((dc x).length : Int) ((dc y).length : Int) = True := eq_true hne
  simp +contextual (disch := omega) only [↓AM, ↓AV, AP, CQ, i64, e0]
  refine WL.mk (fun k t h' => h' = h ∧ k ≤ (dc x).length ∧ (dc x).drop k = (dc y).drop k ∧ t = [(0, some (.slice a (dc x).length c)), (1, some (.slice b (dc y).length d)), (5, some (.int .i64 ((k : Int) - 1)))]) ⟨(dc x).length, rfl, Nat.le_refl _, by rw [List.drop_eq_nil_of_le (Nat.le_refl _), List.drop_eq_nil_of_le (by omega)], rfl⟩ ?_
  rintro k t _ ⟨rfl, hk, heq, rfl⟩
  cases k with
  | zero =>
    have e1 : ((0 : Int) ≤ ((0 : Nat) : Int) - 1) = False := by simp
    simp +contextual (disch := omega) only [↓AM, ↓AV, AP, CQ, e1]
    have : x = y := by
      have : dc x = dc y := heq
      rw [← dc_val x, this, dc_val]
    simp [this]
  | succ k =>
    obtain ⟨b1, o1, s1, p, rfl, f1, hp, r1⟩ := la.rd.dec (i := k) (by omega)
    obtain ⟨b2, o2, s2, q, rfl, f2, hq, r2⟩ := lb.rd.dec (i := k) (by omega)
    have hk1 : k < (dc x).length := by omega
    have hk2 : k < (dc y).length := by omega
    have gp : (dc x).getD k 0 = p := by rw [List.getD_eq_getElem?_getD, hp]; rfl
    have gq : (dc y).getD k 0 = q := by rw [List.getD_eq_getElem?_getD, hq]; rfl
    by_cases h2 : p < q
    · have := cmp_top b9 (dc_dl x) (dc_dl y) hk1 hl heq (by omega)
      rw [dc_val, dc_val] at this
      simp +contextual (disch := omega) only [↓AM, ↓AV, AP, CQ, i64, f1, f2, r1, r2, hk1, hk2, h2, this]
    · by_cases h3 : q < p
      · have := cmp_top b9 (dc_dl y) (dc_dl x) hk2 hl.symm heq.symm (by omega)
        rw [dc_val, dc_val] at this
        have n1 : ¬ x < y := by omega
        have n2 : ¬ x = y := by omega
        simp +contextual (disch := omega) only [↓AM, ↓AV, AP, CQ, i64, f1, f2, r1, r2, hk1, hk2, h2, h3, n1, n2]
      · have h1 : p = q := by omega
        subst h1
        simp +contextual (disch := omega) only [↓AM, ↓AV, AP, CQ, i64, f1, f2, r1, r2, hk1, hk2, h2, h3]
        refine ⟨k, by omega, by omega, ?_, rfl⟩
        rw [List.getElem?_eq_getElem hk1] at hp
        rw [List.getElem?_eq_getElem hk2] at hq
        rw [List.drop_eq_getElem_cons hk1, List.drop_eq_getElem_cons hk2, heq, Option.some.inj hp, Option.some.inj hq]
end Go.Proofs.Ytnibipabfdalcaa.Nu
