/- Locks examined. Plain theorems over the abstract machine.
   Conditions: none. -/
import Derived.Test.YtloonniiffbopaaCrC
namespace Go.Proofs.Ytloonniiffbopaa.Cr
open Go Go.RowKit Go.Proofs.Ytloonniiffbopaa.Am Go.Proofs.Ytloonniiffbopaa.Af
set_option linter.unusedVariables false
set_option linter.unusedSimpArgs false
set_option maxRecDepth 20000

def patB (c t : Int) : Bool := decide (0 ≤ c ∧ c ≤ 10) && decide (0 ≤ t ∧ t ≤ 10) && !(decide (c = 0) && decide (0 < t))
theorem c_pattern {h : Hp} {c t : Int} : ACalls Try.prog 34 [.int .i64 c, .int .i64 t] h fun v h' => v = .bool (patB c t) ∧ h' = h := by
  refine crypt_pattern_ok.snd hm rfl fun w => ?_
  rw [WF_eq, crypt_pattern]
  simp +contextual only [↓AM, ↓AV, AP]
  refine c_within.use ?_
  rintro _ _ w1 ⟨rfl, rfl⟩
  by_cases h1 : 0 ≤ c ∧ c ≤ 10
  · simp +contextual only [↓AM, ↓AV, AP, h1]
    refine c_within.use ?_
    rintro _ _ w1 ⟨rfl, rfl⟩
    by_cases h2 : 0 ≤ t ∧ t ≤ 10
    · by_cases h3 : c = 0
      · have e3 : EqI c 0 = True := eq_true h3
        simp +contextual only [↓AM, ↓AV, AP, h2, e3]
        simp [patB, h1, h2, h3]
        rw [Bool.eq_iff_iff]; simp
      · have e3 : EqI c 0 = False := eq_false h3
        simp +contextual only [↓AM, ↓AV, AP, h2, e3]
        simp [patB, h1, h2, h3]
    · simp +contextual only [↓AM, ↓AV, AP, h2]
      simp [patB, h1, h2]
  · simp +contextual only [↓AM, ↓AV, AP, h1]
    simp [patB, h1]
theorem c_rpattern {h : Hp} {c t : Int} : ACalls Try.prog 36 [.int .i64 c, .int .i64 t] h fun v h' => v = .bool (patB c t) ∧ h' = h := by
  refine dioramaref21_pattern_ok.snd hm rfl fun w => ?_
  rw [WF_eq, dioramaref21_pattern]
  simp +contextual only [↓AM, ↓AV, AP]
  refine c_in.use ?_
  rintro _ _ w1 ⟨rfl, rfl⟩
  by_cases h1 : 0 ≤ c ∧ c ≤ 10
  · simp +contextual only [↓AM, ↓AV, AP, h1]
    refine c_in.use ?_
    rintro _ _ w1 ⟨rfl, rfl⟩
    by_cases h2 : 0 ≤ t ∧ t ≤ 10
    · by_cases h3 : 0 < c
      · simp +contextual only [↓AM, ↓AV, AP, h2, h3]
        have : ¬ c = 0 := by omega
        simp [patB, h1, h2, this]
      · have : c = 0 := by omega
        by_cases h4 : t = 0
        · have e3 : EqI t 0 = True := eq_true h4
          simp +contextual only [↓AM, ↓AV, AP, h2, h3, e3]
          simp [patB, h1, h2, h4]
        · have e3 : EqI t 0 = False := eq_false h4
          simp +contextual only [↓AM, ↓AV, AP, h2, h3, e3]
          have : 0 < t := by omega
          simp [patB, h1, h2, this]
          omega
    · simp +contextual only [↓AM, ↓AV, AP, h2]
      simp [patB, h1, h2]
  · simp +contextual only [↓AM, ↓AV, AP, h1]
    simp [patB, h1]

/-! ### a list searched by a function, which may make new memory -/
theorem c_IndexFunc {h : Hp} {a : Option Addr} {n c f : Nat} {us vs : Array Value} {xs : List Int} {p : Int → Bool} (ha : Rd h 1 a n (xs.map (Value.int .i64))) (hn : n ≤ 140737488351232) (hf : okF Try.prog f = true)
    (hp : ∀ x ∈ xs, ∀ h1, Fm No h h1 → ACalls Try.prog f (us.toList ++ [.int .i64 x] ++ vs.toList) h1 fun v h' => v = .bool (p x) ∧ Fm No h1 h') :
    ACalls Try.prog 62 [.slice a n c, .func (.func f) us vs] h fun v h' => (∃ i : Int, v = .int .i64 i ∧ decide (0 ≤ i) = xs.any p) ∧ Fm No h h' := by
  refine slices_IndexFunc___int_int__ok.snd hm rfl fun w => ?_
  rw [WF_eq, slices_IndexFunc___int_int_]
  have la := ha.ilen
  simp +contextual only [↓AM, ↓AV, AP]
  refine WL.mk (fun k t h' => Wf h' ∧ Fm No h h' ∧ ∃ i : Nat, i ≤ n ∧ k = n - i ∧ (xs.take i).any p = false ∧ t = [(0, some (.slice a n c)), (1, some (.func (.func f) us vs)), (7, some (.int .i64 n)), (8, some (.int .i64 i))]) ⟨n, w, Fm.refl, 0, by simp, rfl, rfl, rfl⟩ ?_
  rintro k t h1 ⟨w1, fm, i, hi, rfl, hall, rfl⟩
  by_cases hin : i < n
  · obtain ⟨b1, o1, s1, rfl, f1, u, hu, r1⟩ := (ha.keep w fm (fun x _ => id)).int hin
    simp +contextual only [↓AM, ↓AV, AP, f1, r1, hin]
    refine ⟨hf, (hp u (List.mem_of_getElem? hu) _ fm).use ?_⟩
    rintro _ h2 w2 ⟨rfl, fm2⟩
    have fm' := fm.trans fm2 (fun _ _ x => x)
    simp +contextual only [↓AM, ↓AV, AP]
    refine ⟨fun hpu => ⟨⟨_, rfl, ?_⟩, fm'⟩, fun hpu => ⟨_, ?_, w2, fm', i + 1, hin, rfl, ?_, ?_⟩⟩
    · have : xs.any p = true := List.any_eq_true.2 ⟨u, List.mem_of_getElem? hu, hpu⟩
      rw [this]; simp
    · omega
    · rw [List.take_add_one, hu]; simp [hall, hpu]
    · rw [i64 (by omega)]; rfl
  · simp +contextual only [↓AM, ↓AV, AP, hin]
    rw [List.take_of_length_le (by omega)] at hall
    exact ⟨⟨_, rfl, by rw [hall]; rfl⟩, fm⟩
theorem c_ContainsFunc {h : Hp} {a : Option Addr} {n c f : Nat} {us vs : Array Value} {xs : List Int} {p : Int → Bool} (ha : Rd h 1 a n (xs.map (Value.int .i64))) (hn : n ≤ 140737488351232) (hf : okF Try.prog f = true)
    (hp : ∀ x ∈ xs, ∀ h1, Fm No h h1 → ACalls Try.prog f (us.toList ++ [.int .i64 x] ++ vs.toList) h1 fun v h' => v = .bool (p x) ∧ Fm No h1 h') :
    ACalls Try.prog 59 [.slice a n c, .func (.func f) us vs] h fun v h' => v = .bool (xs.any p) ∧ Fm No h h' := by
  refine slices_ContainsFunc___int_int__ok.snd hm rfl fun w => ?_
  rw [WF_eq, slices_ContainsFunc___int_int_]
  simp +contextual only [↓AM, ↓AV, AP]
  refine (c_IndexFunc ha hn hf hp).use ?_
  rintro _ _ w1 ⟨⟨i, rfl, hi⟩, fm⟩
  simp +contextual only [↓AM, ↓AV, AP, hi]
  exact fm
def partC (x : Int × Int) : List Value := [.int .i64 x.1, .int .i64 x.2]
theorem partC_len (x : Int × Int) : (partC x).length = 2 := rfl
theorem c_IndexPart {h : Hp} {a : Option Addr} {n c f : Nat} {us vs : Array Value} {xs : List (Int × Int)} {p : Int × Int → Bool} (ha : Rd h 2 a n (xs.flatMap partC)) (hl : xs.length = n) (hn : n ≤ 140737488351232) (hf : okF Try.prog f = true)
    (hp : ∀ x ∈ xs, ∀ h1, Fm No h h1 → ACalls Try.prog f (us.toList ++ [.agg #[.int .i64 x.1, .int .i64 x.2]] ++ vs.toList) h1 fun v h' => v = .bool (p x) ∧ Fm No h1 h') :
    ACalls Try.prog 56 [.slice a n c, .func (.func f) us vs] h fun v h' => (∃ i : Int, v = .int .i64 i ∧ decide (0 ≤ i) = xs.any p) ∧ Fm No h h' := by
  refine slices_IndexFunc___api_Part_api_Part__ok.snd hm rfl fun w => ?_
  rw [WF_eq, slices_IndexFunc___api_Part_api_Part_]
  simp +contextual only [↓AM, ↓AV, AP]
  refine WL.mk (fun k t h' => Wf h' ∧ Fm No h h' ∧ ∃ i : Nat, i ≤ n ∧ k = n - i ∧ (xs.take i).any p = false ∧ t = [(0, some (.slice a n c)), (1, some (.func (.func f) us vs)), (7, some (.int .i64 n)), (8, some (.int .i64 i))]) ⟨n, w, Fm.refl, 0, by simp, rfl, rfl, rfl⟩ ?_
  rintro k t h1 ⟨w1, fm, i, hi, rfl, hall, rfl⟩
  by_cases hin : i < n
  · obtain ⟨b1, o1, s1, u, rfl, f1, hu, r1, -⟩ := (ha.keep w fm (fun x _ => id)).elem partC_len hl hin
    simp only [partC] at r1
    simp +contextual only [↓AM, ↓AV, AP, f1, r1, hin]
    refine ⟨hf, (hp u (List.mem_of_getElem? hu) _ fm).use ?_⟩
    rintro _ h2 w2 ⟨rfl, fm2⟩
    have fm' := fm.trans fm2 (fun _ _ x => x)
    simp +contextual only [↓AM, ↓AV, AP]
    refine ⟨fun hpu => ⟨⟨_, rfl, ?_⟩, fm'⟩, fun hpu => ⟨_, ?_, w2, fm', i + 1, hin, rfl, ?_, ?_⟩⟩
    · have : xs.any p = true := List.any_eq_true.2 ⟨u, List.mem_of_getElem? hu, hpu⟩
      rw [this]; simp
    · omega
    · rw [List.take_add_one, hu]; simp [hall, hpu]
    · rw [i64 (by omega)]; rfl
  · simp +contextual only [↓AM, ↓AV, AP, hin]
    rw [List.take_of_length_le (by omega)] at hall
    exact ⟨⟨_, rfl, by rw [hall]; rfl⟩, fm⟩
theorem c_ContainsPart {h : Hp} {a : Option Addr} {n c f : Nat} {us vs : Array Value} {xs : List (Int × Int)} {p : Int × Int → Bool} (ha : Rd h 2 a n (xs.flatMap partC)) (hl : xs.length = n) (hn : n ≤ 140737488351232) (hf : okF Try.prog f = true)
    (hp : ∀ x ∈ xs, ∀ h1, Fm No h h1 → ACalls Try.prog f (us.toList ++ [.agg #[.int .i64 x.1, .int .i64 x.2]] ++ vs.toList) h1 fun v h' => v = .bool (p x) ∧ Fm No h1 h') :
    ACalls Try.prog 35 [.slice a n c, .func (.func f) us vs] h fun v h' => v = .bool (xs.any p) ∧ Fm No h h' := by
  refine slices_ContainsFunc___api_Part_api_Part__ok.snd hm rfl fun w => ?_
  rw [WF_eq, slices_ContainsFunc___api_Part_api_Part_]
  simp +contextual only [↓AM, ↓AV, AP]
  refine (c_IndexPart ha hl hn hf hp).use ?_
  rintro _ _ w1 ⟨⟨i, rfl, hi⟩, fm⟩
  simp +contextual only [↓AM, ↓AV, AP, hi]
  exact fm

/-! ### the error of a lock -/
def badP (x : Int × Int) : Bool := !decide (0 ≤ x.1 ∧ x.1 ≤ 65536) || !decide (0 ≤ x.2 ∧ x.2 ≤ 65536)
theorem c_Check1 {h : Hp} {x : Int × Int} : ACalls Try.prog 33 [.agg #[.int .i64 x.1, .int .i64 x.2]] h fun v h' => v = .bool (badP x) ∧ Fm No h h' := by
  refine crypt_Check_1_ok.snd hm rfl fun w => ?_
  rw [WF_eq, crypt_Check_1]
  simp +contextual only [↓AM, ↓AV, AP]
  refine c_within.use ?_
  rintro _ _ w1 ⟨rfl, rfl⟩
  by_cases h1 : 0 ≤ x.1 ∧ x.1 ≤ 65536
  · simp +contextual only [↓AM, ↓AV, AP, h1]
    refine c_within.use ?_
    rintro _ _ w1 ⟨rfl, rfl⟩
    simp +contextual only [↓AM, ↓AV, AP]
    exact ⟨by rw [badP, decide_eq_true h1, decide_not]; rfl, Fm.new Fm.refl⟩
  · simp +contextual only [↓AM, ↓AV, AP, h1]
    exact ⟨by simp [badP, h1], Fm.new Fm.refl⟩
structure Lk where
  key : Int
  nonce : Int
  crypt : Int
  skip : Int
  parts : List (Int × Int)
/-- Out of range. -/
def headB (l : Lk) : Bool := !decide (1 ≤ l.key ∧ l.key ≤ 4) || !decide (0 ≤ l.nonce ∧ l.nonce ≤ 1099511627776) || !patB l.crypt l.skip
def chkI (l : Lk) : Int := if headB l || l.parts.any badP then 1 else if 40 < l.parts.length then 2 else 0
def lockV (l : Lk) (oa : Option Addr) (c : Nat) : Value := .agg #[.int .i64 l.key, .int .i64 l.nonce, .int .i64 l.crypt, .int .i64 l.skip, .slice oa l.parts.length c]
theorem c_Check {h : Hp} {l : Lk} {oa : Option Addr} {c : Nat} (r : Rd h 2 oa l.parts.length (l.parts.flatMap partC)) (hn : l.parts.length ≤ 140737488351232) :
    ACalls Try.prog 15 [lockV l oa c] h fun v h' => v = .int .i64 (chkI l) ∧ Fm No h h' := by
  refine crypt_Check_ok.snd hm rfl fun w => ?_
  rw [WF_eq, crypt_Check, lockV]
  simp +contextual only [↓AM, ↓AV, AP]
  refine c_within.use ?_
  rintro _ _ w1 ⟨rfl, rfl⟩
  by_cases h1 : 1 ≤ l.key ∧ l.key ≤ 4
  case neg =>
    simp +contextual only [↓AM, ↓AV, AP, h1]
    exact ⟨by simp [chkI, headB, h1], Fm.new Fm.refl⟩
  simp +contextual only [↓AM, ↓AV, AP, h1]
  refine c_within.use ?_
  rintro _ _ w1 ⟨rfl, rfl⟩
  by_cases h2 : 0 ≤ l.nonce ∧ l.nonce ≤ 1099511627776
  case neg =>
    simp +contextual only [↓AM, ↓AV, AP, h2]
    exact ⟨by simp [chkI, headB, h2], Fm.new Fm.refl⟩
  simp +contextual only [↓AM, ↓AV, AP, h2]
  refine c_pattern.use ?_
  rintro _ _ w1 ⟨rfl, rfl⟩
  by_cases h3 : patB l.crypt l.skip = true
  case neg =>
    simp only [Bool.not_eq_true] at h3
    simp +contextual only [↓AM, ↓AV, AP, h3]
    exact ⟨by simp [chkI, headB, h3], Fm.new Fm.refl⟩
  simp +contextual only [↓AM, ↓AV, AP, h3]
  have fm0 : Fm No h (h.new ⟨[.int .i64 l.key, .int .i64 l.nonce, .int .i64 l.crypt, .int .i64 l.skip, .slice oa l.parts.length c], .own⟩) := Fm.new Fm.refl
  refine (c_ContainsPart (r.keep w fm0 (fun _ _ => id)) rfl hn (by kernel_rfl) (us := #[]) (vs := #[]) (p := badP) (fun x _ h1 _ => c_Check1)).use ?_
  rintro _ h2' w2 ⟨rfl, fm⟩
  have hg := fm.keep w1 (gnew (h := h)) id
  have fm' := fm0.trans fm (fun _ _ x => x)
  cases hb : l.parts.any badP
  · simp +contextual only [↓AM, ↓AV, AP, rd_mk hg]
    refine ⟨fun hlt => ⟨?_, fm'⟩, fun hlt => ⟨?_, fm'⟩⟩
    · have hlt : 40 < l.parts.length := by omega
      simp [chkI, headB, h1, h2, h3, hb, hlt]
    · have hlt : ¬ 40 < l.parts.length := by omega
      simp [chkI, headB, h1, h2, h3, hb, hlt]
  · simp +contextual only [↓AM, ↓AV, AP, rd_mk hg]
    exact ⟨by simp [chkI, hb], fm'⟩
theorem c_rCheck {h : Hp} {l : Lk} {oa : Option Addr} {c : Nat} (r : Rd h 2 oa l.parts.length (l.parts.flatMap partC)) (hn : l.parts.length ≤ 140737488351232) :
    ACalls Try.prog 16 [lockV l oa c] h fun v h' => v = .int .i64 (chkI l) ∧ Fm No h h' := by
  refine dioramaref21_Check_ok.snd hm rfl fun w => ?_
  rw [WF_eq, dioramaref21_Check, lockV]
  simp +contextual only [↓AM, ↓AV, AP]
  refine c_in.use ?_
  rintro _ _ w1 ⟨rfl, rfl⟩
  by_cases h1 : 1 ≤ l.key ∧ l.key ≤ 4
  case neg =>
    simp +contextual only [↓AM, ↓AV, AP, h1]
    exact ⟨by simp [chkI, headB, h1], Fm.new Fm.refl⟩
  simp +contextual only [↓AM, ↓AV, AP, h1]
  refine c_in.use ?_
  rintro _ _ w1 ⟨rfl, rfl⟩
  by_cases h2 : 0 ≤ l.nonce ∧ l.nonce ≤ 1099511627776
  case neg =>
    simp +contextual only [↓AM, ↓AV, AP, h2]
    exact ⟨by simp [chkI, headB, h2], Fm.new Fm.refl⟩
  simp +contextual only [↓AM, ↓AV, AP, h2]
  refine c_rpattern.use ?_
  rintro _ _ w1 ⟨rfl, rfl⟩
  by_cases h3 : patB l.crypt l.skip = true
  case neg =>
    simp only [Bool.not_eq_true] at h3
    simp +contextual only [↓AM, ↓AV, AP, h3]
    exact ⟨by simp [chkI, headB, h3], Fm.new Fm.refl⟩
  have hh : headB l = false := by simp [headB, h1, h2, h3]
  simp +contextual only [↓AM, ↓AV, AP, h3]
  have fm0 : Fm No h (h.new ⟨[.int .i64 l.key, .int .i64 l.nonce, .int .i64 l.crypt, .int .i64 l.skip, .slice oa l.parts.length c], .own⟩) := Fm.new Fm.refl
  have hg := gnew (h := h) (o := ⟨[.int .i64 l.key, .int .i64 l.nonce, .int .i64 l.crypt, .int .i64 l.skip, .slice oa l.parts.length c], .own⟩)
  have r1 := r.keep w fm0 (fun _ _ => id)
  generalize h.new ⟨[.int .i64 l.key, .int .i64 l.nonce, .int .i64 l.crypt, .int .i64 l.skip, .slice oa l.parts.length c], .own⟩ = h1 at *
  refine WL.mk (fun k t h' => h' = h1 ∧ ∃ i : Nat, i ≤ l.parts.length ∧ k = l.parts.length - i ∧ (l.parts.take i).any badP = false ∧ t = [(1, some (.pointer (some ⟨h.size, 0, none⟩))), (3, some (.int .i64 i))]) ⟨_, rfl, 0, by simp, rfl, rfl, rfl⟩ ?_
  rintro k t h' ⟨rfl, i, hi, rfl, hall, rfl⟩
  by_cases hin : i < l.parts.length
  · obtain ⟨b1, o1, s1, u, rfl, f1, hu, -, r2⟩ := r1.elem partC_len rfl hin
    have r3 : Hp.rd _ b1 (o1 + i * 2) = some (.int .i64 u.1) := r2 0 _ rfl
    have r4 := r2 1 _ rfl
    simp +contextual only [↓AM, ↓AV, AP, rd_mk hg, f1, hin, r3]
    have hmem : u ∈ l.parts := List.mem_of_getElem? hu
    have tk : (l.parts.take (i + 1)).any badP = badP u := by rw [List.take_add_one, hu]; simp [hall]
    refine c_in.use ?_
    rintro _ _ w2 ⟨rfl, rfl⟩
    by_cases h5 : 0 ≤ u.1 ∧ u.1 ≤ 65536
    case neg =>
      simp +contextual only [↓AM, ↓AV, AP, h5]
      have : l.parts.any badP = true := List.any_eq_true.2 ⟨u, hmem, by simp [badP, h5]⟩
      exact ⟨by simp [chkI, this], fm0⟩
    simp +contextual only [↓AM, ↓AV, AP, rd_mk hg, f1, hin, h5, r4]
    refine c_in.use ?_
    rintro _ _ w2 ⟨rfl, rfl⟩
    by_cases h6 : 0 ≤ u.2 ∧ u.2 ≤ 65536
    case neg =>
      simp +contextual only [↓AM, ↓AV, AP, h6]
      have : l.parts.any badP = true := List.any_eq_true.2 ⟨u, hmem, by simp [badP, h6]⟩
      exact ⟨by simp [chkI, this], fm0⟩
    simp +contextual only [↓AM, ↓AV, AP, h6, i64s (i := i) (by omega)]
    exact ⟨_, by omega, i + 1, hin, rfl, by rw [tk]; simp [badP, h5, h6], rfl⟩
  · rw [List.take_of_length_le (by omega)] at hall
    simp +contextual only [↓AM, ↓AV, AP, rd_mk hg, hin]
    refine ⟨fun hlt => ⟨?_, fm0⟩, fun hlt => ⟨?_, fm0⟩⟩
    · have hlt : 40 < l.parts.length := by omega
      simp [chkI, hh, hall, hlt]
    · have hlt : ¬ 40 < l.parts.length := by omega
      simp [chkI, hh, hall, hlt]
end Go.Proofs.Ytloonniiffbopaa.Cr
