/- Contracts of small functions: lists compared and copied, states. Plain theorems over the abstract machine.
   Conditions: none. -/
import Derived.Test.YtholkooikmbamaaAfA
import Derived.IntWalk
namespace Go.Proofs.Ytholkooikmbamaa.Ar
open Go Go.RowKit Go.Proofs.Ytholkooikmbamaa.Am Go.Proofs.Ytholkooikmbamaa.Af
set_option linter.unusedVariables false
set_option linter.unusedSimpArgs false

theorem i64 {n : Int} (h : -9223372036854775808 ≤ n ∧ n ≤ 9223372036854775807) : IntKind.i64.wrap n = n := IntWalk.i64_in n h
theorem u64 {n : Int} (h : 0 ≤ n ∧ n ≤ 18446744073709551615) : IntKind.u64.wrap n = n := IntWalk.u64_in n h
theorem u8 {n : Int} (h : 0 ≤ n ∧ n ≤ 255) : IntKind.u8.wrap n = n := IntWalk.u8_in n h

/-- Two lists compared, whatever their elements' kind. -/
theorem c_EqInts {h : Hp} {a b : Option Addr} {n m c d : Nat} {xs ys : List Int} (ha : Rd h 1 a n (xs.map (Value.int .i64))) (hb : Rd h 1 b m (ys.map (Value.int .i64))) (hn : n ≤ 140737488351232) :
    ACalls Try.prog 20 [.slice a n c, .slice b m d] h fun v h' => v = .bool (decide (xs = ys)) ∧ h' = h := by
  refine dioramaref00_EqInts_ok.snd hm rfl fun w => ?_
  rw [WF_eq, dioramaref00_EqInts]
  simp +contextual only [↓AM, ↓AV, AP]
  have la := ha.ilen
  have lb := hb.ilen
  refine ⟨fun hne => ?_, fun hm => ?_⟩
  · simp [EqI] at hne ⊢
    intro e; subst e; omega
  have hm := eqI_n hm
  subst hm
  refine WL.mk (fun k t h' => h' = h ∧ ∃ i : Nat, i ≤ n ∧ k = n - i ∧ xs.take i = ys.take i ∧ t = [(0, some (.slice a n c)), (1, some (.slice b n d)), (5, some (.int .i64 i))]) ⟨n, rfl, 0, by simp, rfl, rfl, rfl⟩ ?_
  rintro k t _ ⟨rfl, i, hi, rfl, heq, rfl⟩
  by_cases hin : i < n
  · obtain ⟨b1, o1, s1, rfl, f1, u, hu, r1⟩ := ha.int hin
    obtain ⟨b2, o2, s2, rfl, f2, v, hv, r2⟩ := hb.int hin
    simp +contextual only [↓AM, ↓AV, AP, f1, f2, r1, r2, hin]
    refine ⟨fun hne => ?_, fun he => ?_⟩
    · simp
      intro e; subst e; rw [hu] at hv; cases hv; exact hne rfl
    · refine ⟨_, ?_, i + 1, hin, rfl, ?_, ?_⟩
      · omega
      · rw [List.take_add_one, List.take_add_one, heq, hu, hv, show u = v from he]
      · rw [i64 (by omega)]; rfl
  · simp +contextual only [↓AM, ↓AV, AP, hin]
    rw [List.take_of_length_le (by omega), List.take_of_length_le (by omega)] at heq
    simp [heq]
theorem c_EqBytes {h : Hp} {a b : Option Addr} {n m c d : Nat} {xs ys : List Int} (ha : Rd h 1 a n (xs.map (Value.int .u8))) (hb : Rd h 1 b m (ys.map (Value.int .u8))) (hn : n ≤ 140737488351232) :
    ACalls Try.prog 22 [.slice a n c, .slice b m d] h fun v h' => v = .bool (decide (xs = ys)) ∧ h' = h := by
  refine dioramaref00_EqBytes_ok.snd hm rfl fun w => ?_
  rw [WF_eq, dioramaref00_EqBytes]
  simp +contextual only [↓AM, ↓AV, AP]
  have la := ha.ilen
  have lb := hb.ilen
  refine ⟨fun hne => ?_, fun hm => ?_⟩
  · simp [EqI] at hne ⊢
    intro e; subst e; omega
  have hm := eqI_n hm
  subst hm
  refine WL.mk (fun k t h' => h' = h ∧ ∃ i : Nat, i ≤ n ∧ k = n - i ∧ xs.take i = ys.take i ∧ t = [(0, some (.slice a n c)), (1, some (.slice b n d)), (5, some (.int .i64 i))]) ⟨n, rfl, 0, by simp, rfl, rfl, rfl⟩ ?_
  rintro k t _ ⟨rfl, i, hi, rfl, heq, rfl⟩
  by_cases hin : i < n
  · obtain ⟨b1, o1, s1, rfl, f1, u, hu, r1⟩ := ha.int hin
    obtain ⟨b2, o2, s2, rfl, f2, v, hv, r2⟩ := hb.int hin
    simp +contextual only [↓AM, ↓AV, AP, f1, f2, r1, r2, hin]
    refine ⟨fun hne => ?_, fun he => ?_⟩
    · simp
      intro e; subst e; rw [hu] at hv; cases hv; exact hne rfl
    · refine ⟨_, ?_, i + 1, hin, rfl, ?_, ?_⟩
      · omega
      · rw [List.take_add_one, List.take_add_one, heq, hu, hv, show u = v from he]
      · rw [i64 (by omega)]; rfl
  · simp +contextual only [↓AM, ↓AV, AP, hin]
    rw [List.take_of_length_le (by omega), List.take_of_length_le (by omega)] at heq
    simp [heq]
theorem c_CopyInts {h : Hp} {a : Option Addr} {n c : Nat} {xs : List Int} (ha : Rd h 1 a n (xs.map (Value.int .i64))) (hn : 8 * n ≤ 140737488351232) :
    ACalls Try.prog 18 [.slice a n c] h fun v h' => ∃ oa cap, v = .slice oa n cap ∧ Ow h' 1 oa n cap (xs.map (Value.int .i64)) ∧ Nw h oa ∧ Fm No h h' := by
  refine dioramaref00_CopyInts_ok.snd hm rfl fun w => ?_
  rw [WF_eq, dioramaref00_CopyInts]
  have la := ha.ilen
  simp +contextual only [↓AM, ↓AV, AP]
  refine ⟨⟨by omega, by omega⟩, ?_⟩
  refine WL.mk (fun k t h' => Wf h' ∧ Fm No h h' ∧ ∃ i : Nat, i ≤ n ∧ k = n - i ∧ ∃ oa cap, Nw h oa ∧ Ow h' 1 oa i cap ((xs.take i).map (Value.int .i64)) ∧ t = [(0, some (.slice a n c)), (3, some (.slice oa i cap)), (4, some (.int .i64 i))])
    ⟨n, w.new, Fm.new Fm.refl, 0, by omega, rfl, _, _, Nw.new Fm.refl, Ow.new (n := n) (m := 0) (by simp [rep]) (by omega), rfl⟩ ?_
  rintro k t h1 ⟨w1, fm, i, hi, rfl, oa, cap, nw, ow, rfl⟩
  by_cases hin : i < n
  · obtain ⟨b1, o1, s1, rfl, f1, u, hu, r1⟩ := (ha.keep w fm (fun x _ => id)).int hin
    simp +contextual only [↓AM, ↓AV, AP, f1, r1, hin, src_new]
    refine ow.push (m := 1) w1 rfl ?_ fun oa' cap' h' o' w' f' n' => ?_
    · omega
    try simp +contextual only [↓AM, ↓AV, AP]
    obtain ⟨g1, g2⟩ := grown fm nw f' n'
    refine ⟨_, ?_, w', g1, i + 1, hin, rfl, oa', cap', g2, ?_, ?_⟩
    · omega
    · rw [List.take_add_one, hu]; simpa using o'
    · rw [i64 (by omega)]; rfl
  · have : n = i := by omega
    subst this
    simp +contextual only [↓AM, ↓AV, AP, hin]
    rw [List.take_of_length_le (by omega)] at ow
    exact ⟨_, _, rfl, ow, nw, fm⟩
theorem c_CopyBytes {h : Hp} {a : Option Addr} {n c : Nat} {xs : List Int} (ha : Rd h 1 a n (xs.map (Value.int .u8))) (hn : 1 * n ≤ 140737488351232) :
    ACalls Try.prog 43 [.slice a n c] h fun v h' => ∃ oa cap, v = .slice oa n cap ∧ Ow h' 1 oa n cap (xs.map (Value.int .u8)) ∧ Nw h oa ∧ Fm No h h' := by
  refine dioramaref00_CopyBytes_ok.snd hm rfl fun w => ?_
  rw [WF_eq, dioramaref00_CopyBytes]
  have la := ha.ilen
  simp +contextual only [↓AM, ↓AV, AP]
  refine ⟨⟨by omega, by omega⟩, ?_⟩
  refine WL.mk (fun k t h' => Wf h' ∧ Fm No h h' ∧ ∃ i : Nat, i ≤ n ∧ k = n - i ∧ ∃ oa cap, Nw h oa ∧ Ow h' 1 oa i cap ((xs.take i).map (Value.int .u8)) ∧ t = [(0, some (.slice a n c)), (3, some (.slice oa i cap)), (4, some (.int .i64 i))])
    ⟨n, w.new, Fm.new Fm.refl, 0, by omega, rfl, _, _, Nw.new Fm.refl, Ow.new (n := n) (m := 0) (by simp [rep]) (by omega), rfl⟩ ?_
  rintro k t h1 ⟨w1, fm, i, hi, rfl, oa, cap, nw, ow, rfl⟩
  by_cases hin : i < n
  · obtain ⟨b1, o1, s1, rfl, f1, u, hu, r1⟩ := (ha.keep w fm (fun x _ => id)).int hin
    simp +contextual only [↓AM, ↓AV, AP, f1, r1, hin, src_new]
    refine ow.push (m := 1) w1 rfl ?_ fun oa' cap' h' o' w' f' n' => ?_
    · omega
    try simp +contextual only [↓AM, ↓AV, AP]
    obtain ⟨g1, g2⟩ := grown fm nw f' n'
    refine ⟨_, ?_, w', g1, i + 1, hin, rfl, oa', cap', g2, ?_, ?_⟩
    · omega
    · rw [List.take_add_one, hu]; simpa using o'
    · rw [i64 (by omega)]; rfl
  · have : n = i := by omega
    subst this
    simp +contextual only [↓AM, ↓AV, AP, hin]
    rw [List.take_of_length_le (by omega)] at ow
    exact ⟨_, _, rfl, ow, nw, fm⟩

/-! ### states -/
def stepI (p b : Int) : Int := if b = 0 then p + (4096 - p) / 32 else p - p / 32
def St (p : Int) : Prop := 31 ≤ p ∧ p ≤ 4065
instance (p : Int) : Decidable (St p) := inferInstanceAs (Decidable (_ ∧ _))
theorem fdiv32 (x : Int) : x.fdiv (2 ^ min 5 IntKind.i64.bits) = x / 32 := by
  show x.fdiv 32 = x / 32
  rw [Int.fdiv_eq_ediv_of_nonneg _ (by omega)]
theorem c_step {h : Hp} {p b : Int} (hp : St p) : ACalls Try.prog 47 [.int .i64 p, .int .i64 b] h fun v h' => v = .int .i64 (stepI p b) ∧ h' = h := by
  refine arith_step_ok.snd hm rfl fun w => ?_
  rw [WF_eq, arith_step]
  obtain ⟨h1, h2⟩ := hp
  simp +contextual only [↓AM, ↓AV, AP, fdiv32]
  refine ⟨fun e => ?_, fun e => ?_⟩
  · rw [i64 (n := 4096 - p) (by omega), i64 (by omega), stepI, if_pos (show b = 0 from e)]
  · rw [i64 (by omega), stepI, if_neg (show ¬ b = 0 from e)]
theorem c_rstep {h : Hp} {p b : Int} (hp : St p) : ACalls Try.prog 54 [.int .i64 p, .int .i64 b] h fun v h' => v = .int .i64 (stepI p b) ∧ h' = h := by
  refine dioramaref13_step_ok.snd hm rfl fun w => ?_
  rw [WF_eq, dioramaref13_step]
  obtain ⟨h1, h2⟩ := hp
  simp +contextual only [↓AM, ↓AV, AP]
  refine ⟨fun e => ⟨by omega, ?_⟩, fun e => ⟨by omega, ?_⟩⟩
  · rw [i64 (n := 4096 - p) (by omega), IntWalk.i64_quo _ _ (by omega), i64 (by omega), stepI, if_pos (show b = 0 from e)]
  · rw [IntWalk.i64_quo _ _ (by omega), i64 (by omega), stepI, if_neg (show ¬ b = 0 from e)]
theorem c_isState {h : Hp} {p : Int} : ACalls Try.prog 53 [.int .i64 p] h fun v h' => v = .bool (decide (St p)) ∧ h' = h := by
  refine arith_isState_ok.snd hm rfl fun w => ?_
  rw [WF_eq, arith_isState]
  simp +contextual only [↓AM, ↓AV, AP]
  exact ⟨fun h => by simp [St, h], fun h => by simp [St, h]⟩
theorem c_State {h : Hp} {p : Int} : ACalls Try.prog 26 [.int .i64 p] h fun v h' => v = .bool (decide (St p)) ∧ h' = h := by
  refine dioramaref13_State_ok.snd hm rfl fun w => ?_
  rw [WF_eq, dioramaref13_State]
  simp +contextual only [↓AM, ↓AV, AP]
  exact ⟨fun h => by simp [St, h], fun h => by simp [St, h]⟩
/-- What a step tells: the state, or an error. -/
def nextI (p b : Int) : Int × Int := if St p then if b = 0 ∨ b = 1 then (stepI p b, 0) else (0, 1) else (0, 130)
def pairV (x : Int × Int) : Value := .tuple #[.int .i64 x.1, .int .i64 x.2]
theorem c_Next {h : Hp} {p b : Int} : ACalls Try.prog 24 [.int .i64 p, .int .i64 b] h fun v h' => v = pairV (nextI p b) ∧ h' = h := by
  refine arith_Next_ok.snd hm rfl fun w => ?_
  rw [WF_eq, arith_Next]
  simp +contextual only [↓AM, ↓AV, AP]
  refine c_isState.use ?_
  rintro _ _ w1 ⟨rfl, rfl⟩
  simp +contextual only [↓AM, ↓AV, AP, nextI]
  refine ⟨fun hp => by simp [pairV], fun hp => ⟨fun h0 => ⟨fun h1 => ?_, fun h1 => ?_⟩, fun h0 => ?_⟩⟩
  · rw [if_neg (fun h => h.elim h0 h1)]; rfl
  · refine (c_step hp).use ?_
    rintro _ _ w2 ⟨rfl, rfl⟩
    simp only [↓AM, ↓AV, AP, if_pos hp]
    rw [if_pos (.inr h1)]; rfl
  · refine (c_step hp).use ?_
    rintro _ _ w2 ⟨rfl, rfl⟩
    simp only [↓AM, ↓AV, AP, if_pos hp]
    rw [if_pos (.inl h0)]; rfl
theorem c_rNext {h : Hp} {p b : Int} : ACalls Try.prog 25 [.int .i64 p, .int .i64 b] h fun v h' => v = pairV (nextI p b) ∧ h' = h := by
  refine dioramaref13_Next_ok.snd hm rfl fun w => ?_
  rw [WF_eq, dioramaref13_Next]
  simp +contextual only [↓AM, ↓AV, AP]
  refine c_State.use ?_
  rintro _ _ w1 ⟨rfl, rfl⟩
  simp +contextual only [↓AM, ↓AV, AP, nextI]
  refine ⟨fun hp => by simp [pairV], fun hp => ⟨fun h0 => ⟨fun h1 => ?_, fun h1 => ?_⟩, fun h0 => ?_⟩⟩
  · rw [if_neg (fun h => h.elim h0 h1)]; rfl
  · refine (c_rstep hp).use ?_
    rintro _ _ w2 ⟨rfl, rfl⟩
    simp only [↓AM, ↓AV, AP, if_pos hp]
    rw [if_pos (.inr h1)]; rfl
  · refine (c_rstep hp).use ?_
    rintro _ _ w2 ⟨rfl, rfl⟩
    simp only [↓AM, ↓AV, AP, if_pos hp]
    rw [if_pos (.inl h0)]; rfl

/-! ### a list searched by a function -/
theorem c_IndexFunc {h : Hp} {a : Option Addr} {n c f : Nat} {us vs : Array Value} {xs : List Int} {p : Int → Bool} (ha : Rd h 1 a n (xs.map (Value.int .i64))) (hn : n ≤ 140737488351232) (hf : okF Try.prog f = true)
    (hp : ∀ x ∈ xs, ACalls Try.prog f (us.toList ++ [.int .i64 x] ++ vs.toList) h fun v h' => v = .bool (p x) ∧ h' = h) :
    ACalls Try.prog 78 [.slice a n c, .func (.func f) us vs] h fun v h' => (∃ i : Int, v = .int .i64 i ∧ decide (0 ≤ i) = xs.any p) ∧ h' = h := by
  refine slices_IndexFunc___int_int__ok.snd hm rfl fun w => ?_
  rw [WF_eq, slices_IndexFunc___int_int_]
  have la := ha.ilen
  simp +contextual only [↓AM, ↓AV, AP]
  refine WL.mk (fun k t h' => h' = h ∧ ∃ i : Nat, i ≤ n ∧ k = n - i ∧ (xs.take i).any p = false ∧ t = [(0, some (.slice a n c)), (1, some (.func (.func f) us vs)), (7, some (.int .i64 n)), (8, some (.int .i64 i))]) ⟨n, rfl, 0, by simp, rfl, rfl, rfl⟩ ?_
  rintro k t _ ⟨rfl, i, hi, rfl, hall, rfl⟩
  by_cases hin : i < n
  · obtain ⟨b1, o1, s1, rfl, f1, u, hu, r1⟩ := ha.int hin
    simp +contextual only [↓AM, ↓AV, AP, f1, r1, hin]
    refine ⟨hf, (hp u (List.mem_of_getElem? hu)).use ?_⟩
    rintro _ _ w1 ⟨rfl, rfl⟩
    simp +contextual only [↓AM, ↓AV, AP]
    refine ⟨fun hpu => ⟨_, rfl, ?_⟩, fun hpu => ⟨_, ?_, i + 1, hin, rfl, ?_, ?_⟩⟩
    · have : xs.any p = true := List.any_eq_true.2 ⟨u, List.mem_of_getElem? hu, hpu⟩
      rw [this]; simp
    · omega
    · rw [List.take_add_one, hu]; simp [hall, hpu]
    · rw [i64 (by omega)]; rfl
  · simp +contextual only [↓AM, ↓AV, AP, hin]
    rw [List.take_of_length_le (by omega)] at hall
    exact ⟨_, rfl, by rw [hall]; rfl⟩
theorem c_ContainsFunc {h : Hp} {a : Option Addr} {n c f : Nat} {us vs : Array Value} {xs : List Int} {p : Int → Bool} (ha : Rd h 1 a n (xs.map (Value.int .i64))) (hn : n ≤ 140737488351232) (hf : okF Try.prog f = true)
    (hp : ∀ x ∈ xs, ACalls Try.prog f (us.toList ++ [.int .i64 x] ++ vs.toList) h fun v h' => v = .bool (p x) ∧ h' = h) :
    ACalls Try.prog 61 [.slice a n c, .func (.func f) us vs] h fun v h' => v = .bool (xs.any p) ∧ h' = h := by
  refine slices_ContainsFunc___int_int__ok.snd hm rfl fun w => ?_
  rw [WF_eq, slices_ContainsFunc___int_int_]
  simp +contextual only [↓AM, ↓AV, AP]
  refine (c_IndexFunc ha hn hf hp).use ?_
  rintro _ _ w1 ⟨⟨i, rfl, hi⟩, rfl⟩
  simp +contextual only [↓AM, ↓AV, AP, hi]
end Go.Proofs.Ytholkooikmbamaa.Ar
