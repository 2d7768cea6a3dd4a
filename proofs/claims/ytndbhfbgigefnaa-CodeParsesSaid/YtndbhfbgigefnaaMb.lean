/- What the printed functions of time codes answer, in plain arithmetic: the program's and the reference's.
   Conditions: a valid rate where said. -/
import Derived.Test.YtndbhfbgigefnaaMa
import Derived.Test.YtndbhfbgigefnaaPAx24
import Derived.Test.YtndbhfbgigefnaaPAx18
import Derived.Test.YtndbhfbgigefnaaPAx11
namespace Go.Proofs.Ytndbhfbgigefnaa.Mb
open Go.RowKit Go.Proofs.Ytndbhfbgigefnaa.PA Go.Proofs.Ytndbhfbgigefnaa.Ma
open Go.Proofs.YtndbhfbgigefnaaW.PrintWords (LeO)

theorem within_eq (a b c : Int) : code_within.f a b c = some (decide (b ≤ a ∧ a ≤ c)) := by
  unfold code_within.f
  by_cases h : a ≥ b
  · rw [if_pos h]; simp [show b ≤ a from h]
  · rw [if_neg h]; simp; omega
theorem in_eq (a b c : Int) : dioramaref20_in.f a b c = some (decide (b ≤ a ∧ a ≤ c)) := within_eq a b c
theorem check_eq (F : Int) (D : Bool) : code_Check.f F D = some (if ok F D = true then 0 else 1) := by
  unfold code_Check.f ok
  rw [within_eq]
  simp only [Option.bind_some]
  by_cases h : 1 ≤ F ∧ F ≤ 60
  · cases D
    · simp [h]
    · by_cases h1 : F = 30
      · subst h1; simp
      · by_cases h2 : F = 60
        · subst h2; simp
        · simp [h, h1, h2]
  · rw [if_neg (by simpa using h), if_neg]
    simp only [Bool.and_eq_true, decide_eq_true_eq]
    rintro ⟨h1, h2, _⟩
    exact h ⟨h1, h2⟩
theorem rcheck_eq (F : Int) (D : Bool) : dioramaref20_Check.f F D = some (if ok F D = true then 0 else 1) := check_eq F D
theorem dropped_eq {F : Int} {D : Bool} (h : ok F D = true) : code_steps_dropped.f F D = some (dv F D) := by
  obtain ⟨h1, h2, h3⟩ := ok_iff.1 h
  unfold code_steps_dropped.f dv
  split
  · rw [Int.tdiv_eq_ediv_of_nonneg (by omega), w64 (by omega) (by omega)]
  · rfl
/-- How many numbers ten minutes have. -/
def ten (F : Int) (D : Bool) : Int := 10 * (60 * F) - 9 * dv F D
theorem ten_bd {F : Int} {D : Bool} (h : ok F D = true) : 60 ≤ ten F D ∧ ten F D ≤ 36000 := by
  obtain ⟨h1, h2, h3⟩ := ok_iff.1 h
  have := dv_bd h
  unfold ten; omega
theorem ten_eq {F : Int} {D : Bool} (h : ok F D = true) : code_steps_ten.f F D = some (ten F D) := by
  obtain ⟨h1, h2, h3⟩ := ok_iff.1 h
  have := dv_bd h
  unfold code_steps_ten.f
  rw [dropped_eq h]
  simp only [Option.bind_some]
  rw [w64 (x := 600 * F) (by omega) (by omega), w64 (x := 9 * dv F D) (by omega) (by omega), w64 (by omega) (by omega)]
  unfold ten; congr 1; omega
theorem day_eq {F : Int} {D : Bool} (h : ok F D = true) : code_steps_day.f F D = some (144 * ten F D) := by
  have := ten_bd h
  unfold code_steps_day.f
  rw [ten_eq h]
  simp only [Option.bind_some]
  rw [w64 (by omega) (by omega)]
/-- The place of a number as hours, minutes, seconds, frames. -/
theorem split_eq {F : Int} (h1 : 1 ≤ F) {T : Nat} {y : Int} (h0 : 0 ≤ y) (hy : y < 60 * F) :
    (60 * F * T + y) / F = 60 * T + y / F ∧ (60 * F * T + y) % F = y % F ∧ 0 ≤ y / F ∧ y / F < 60 ∧ 0 ≤ y % F ∧ y % F < F := by
  have e : 60 * F * T + y = y + (60 * T) * F := by grind
  have b0 : 0 ≤ y / F := Int.ediv_nonneg h0 (by omega)
  have b1 : y / F < 60 := Int.ediv_lt_of_lt_mul (by omega) hy
  refine ⟨?_, ?_, b0, b1, Int.emod_nonneg _ (by omega), Int.emod_lt_of_pos _ (by omega)⟩
  · rw [e, Int.add_mul_ediv_right _ _ (by omega)]; omega
  · rw [e, Int.add_mul_emod_self_right]
/-- The code of the place (T, y). -/
def cod (F : Int) (T : Nat) (y : Int) : Int × Int × Int × Int := ((T / 60 : Nat), (T % 60 : Nat), y / F, y % F)
theorem ms_bd {d : Int} (h : 0 ≤ d) (T : Nat) : 0 ≤ ms d T ∧ ms d T ≤ d := by unfold ms; split <;> omega
theorem pre_bd {F : Int} {D : Bool} (h : ok F D = true) {T : Nat} (hT : T ≤ 1440) : 0 ≤ pre (60 * F) (dv F D) T ∧ pre (60 * F) (dv F D) T ≤ 144 * ten F D := by
  have hd := dv_bd h
  obtain ⟨h1, h2, h3⟩ := ok_iff.1 h
  have := pre_mono (c := 60 * F) (d := dv F D) hd.1 (by omega) 0 T (by omega)
  have := pre_mono (c := 60 * F) (d := dv F D) hd.1 (by omega) T 1440 hT
  rw [pre_day] at this
  unfold ten
  exact ⟨by simpa [pre] using ‹pre (60 * F) (dv F D) 0 ≤ _›, this⟩
theorem num_bd {F : Int} {D : Bool} (h : ok F D = true) {T : Nat} {y : Int} (hT : T < 1440) (hm : ms (dv F D) T ≤ y) (hy : y < 60 * F) :
    0 ≤ pre (60 * F) (dv F D) T + (y - ms (dv F D) T) ∧ pre (60 * F) (dv F D) T + (y - ms (dv F D) T) < 144 * ten F D := by
  have b0 := pre_bd h (T := T) (by omega)
  have b1 := pre_bd h (T := T + 1) (by omega)
  have e : pre (60 * F) (dv F D) (T + 1) = pre (60 * F) (dv F D) T + (60 * F - ms (dv F D) T) := rfl
  omega
theorem fin_eq {F : Int} (h1 : 1 ≤ F) (h2 : F ≤ 60) {T : Nat} {y x : Int} (hT : T < 1440) (h0 : 0 ≤ y) (hy : y < 60 * F) (hx : x = 60 * F * T + y) :
    (wrap64 (Int.tdiv (wrap64 (Int.tdiv x F)) 3600), Int.tmod (wrap64 (Int.tdiv (wrap64 (Int.tdiv x F)) 60)) 60, Int.tmod (wrap64 (Int.tdiv x F)) 60, Int.tmod x F) = cod F T y := by
  obtain ⟨q1, q2, q3, q4, q5, q6⟩ := split_eq (T := T) h1 h0 hy
  have hx0 : 0 ≤ x := by
    have : 0 ≤ 60 * F * (T : Int) := Int.mul_nonneg (by omega) (by omega)
    omega
  have e1 : Int.tdiv x F = 60 * T + y / F := by rw [Int.tdiv_eq_ediv_of_nonneg hx0, hx]; exact q1
  have e2 : Int.tmod x F = y % F := by rw [Int.tmod_eq_emod_of_nonneg hx0, hx]; exact q2
  rw [e1, e2]
  unfold cod
  generalize y / F = s at *
  rw [w64 (x := 60 * T + s) (by omega) (by omega), Int.tdiv_eq_ediv_of_nonneg (by omega), Int.tdiv_eq_ediv_of_nonneg (by omega), w64 (by omega) (by omega), w64 (by omega) (by omega), Int.tmod_eq_emod_of_nonneg (by omega), Int.tmod_eq_emod_of_nonneg (by omega)]
  refine Prod.ext ?_ (Prod.ext ?_ (Prod.ext ?_ rfl))
  · show (60 * (T : Int) + s) / 3600 = ((T / 60 : Nat) : Int)
    omega
  · show (60 * (T : Int) + s) / 60 % 60 = ((T % 60 : Nat) : Int)
    omega
  · show (60 * (T : Int) + s) % 60 = s
    omega
theorem code_eq {F : Int} {D : Bool} (h : ok F D = true) {T : Nat} {y : Int} (hT : T < 1440) (hm : ms (dv F D) T ≤ y) (hy : y < 60 * F) :
    code_steps_code.f F D (pre (60 * F) (dv F D) T + (y - ms (dv F D) T)) = some (cod F T y) := by
  obtain ⟨h1, h2, h3⟩ := ok_iff.1 h
  have hd := dv_bd h
  have hn := num_bd h hT hm hy
  have ht := ten_bd h
  have hms := ms_bd hd.1 T
  obtain ⟨p1, p2⟩ := place (c := 60 * F) (d := dv F D) hd.1 (by omega) hm hy
  generalize hnn : pre (60 * F) (dv F D) T + (y - ms (dv F D) T) = n at *
  have htt : 10 * (60 * F) - 9 * dv F D = ten F D := rfl
  rw [htt] at p1 p2
  have t1 : Int.tdiv n (ten F D) = T / 10 := by rw [Int.tdiv_eq_ediv_of_nonneg hn.1]; exact p1
  have t2 : Int.tmod n (ten F D) = n % ten F D := Int.tmod_eq_emod_of_nonneg hn.1
  have r0 : 0 ≤ n % ten F D := Int.emod_nonneg _ (by omega)
  have r1 : n % ten F D < ten F D := Int.emod_lt_of_pos _ (by omega)
  have a0 : 0 ≤ (T : Int) / 10 * 9 * dv F D := Int.mul_nonneg (by omega) hd.1
  have a1 : (T : Int) / 10 * 9 * dv F D ≤ 1296 * 4 := Int.mul_le_mul (by omega) hd.2.1 hd.1 (by omega)
  unfold code_steps_code.f
  rw [ten_eq h, dropped_eq h]
  simp only [Option.bind_some]
  rw [if_neg (by omega), if_neg (by omega), t1, t2, w64 (x := 60 * F) (by omega) (by omega), w64 (x := (T : Int) / 10) (by omega) (by omega), w64 (x := (T : Int) / 10 * 9) (by omega) (by omega), w64 (x := (T : Int) / 10 * 9 * dv F D) (by omega) (by omega), w64 (x := n + (T : Int) / 10 * 9 * dv F D) (by omega) (by omega)]
  by_cases hb : T % 10 = 0
  · rw [if_pos hb] at p2
    rw [if_neg (by omega), if_neg (by omega)]
    exact congrArg some (fin_eq h1 h2 hT (by omega) hy p2.2)
  · rw [if_neg hb] at p2
    obtain ⟨p3, p4, p5, p6⟩ := p2
    have m0 : 0 ≤ dv F D * (1 + ((T % 10 - 1 : Nat) : Int)) := Int.mul_nonneg hd.1 (by omega)
    have m1 : dv F D * (1 + ((T % 10 - 1 : Nat) : Int)) ≤ 4 * 10 := Int.mul_le_mul hd.2.1 (by omega) (by omega) (by omega)
    have t3 : Int.tdiv (n % ten F D - 60 * F) (60 * F - dv F D) = ((T % 10 - 1 : Nat) : Int) := by rw [Int.tdiv_eq_ediv_of_nonneg p5]; exact p4
    rw [if_pos p3, w64 (x := 60 * F - dv F D) (by omega) (by omega), if_neg (by omega), if_neg (by omega), w64 (x := n % ten F D - 60 * F) (by omega) (by omega), t3, w64 (x := ((T % 10 - 1 : Nat) : Int)) (by omega) (by omega), w64 (x := 1 + ((T % 10 - 1 : Nat) : Int)) (by omega) (by omega), w64 (x := dv F D * (1 + ((T % 10 - 1 : Nat) : Int))) (by omega) (by omega), w64 (x := n + (T : Int) / 10 * 9 * dv F D + dv F D * (1 + ((T % 10 - 1 : Nat) : Int))) (by omega) (by omega)]
    exact congrArg some (fin_eq h1 h2 hT (by omega) hy p6)

/-- The program's Code, at whatever number. -/
theorem Code_bad {F : Int} {D : Bool} (n : Int) (h : ok F D = false ∨ n < 0 ∨ 144 * ten F D ≤ n) : code_Code.f F D n = some (0, 0, 0, 0, 1) := by
  unfold code_Code.f
  rw [check_eq]
  simp only [Option.bind_some]
  cases ho : ok F D with
  | false => rfl
  | true =>
    rw [if_pos rfl, if_pos rfl]
    rw [ho] at h
    by_cases h0 : n < 0
    · rw [if_pos h0]
    · rw [if_neg h0, day_eq ho]
      simp only [Option.bind_some]
      rw [if_pos]
      rcases h with h | h | h
      · simp at h
      · omega
      · exact h
theorem Code_good {F : Int} {D : Bool} (h : ok F D = true) {T : Nat} {y : Int} (hT : T < 1440) (hm : ms (dv F D) T ≤ y) (hy : y < 60 * F) :
    code_Code.f F D (pre (60 * F) (dv F D) T + (y - ms (dv F D) T)) = some ((cod F T y).1, (cod F T y).2.1, (cod F T y).2.2.1, (cod F T y).2.2.2, 0) := by
  have hn := num_bd h hT hm hy
  unfold code_Code.f
  rw [check_eq, h]
  simp only [Option.bind_some, if_true]
  rw [if_neg (by omega), day_eq h]
  simp only [Option.bind_some]
  rw [if_neg (by omega), code_eq h hT hm hy]
  rfl
/-! The reference. -/
theorem missing_eq {F : Int} {D : Bool} (h : ok F D = true) (m : Nat) : dioramaref20_missing.f F D m = some (ms (dv F D) m) := by
  obtain ⟨h1, h2, h3⟩ := ok_iff.1 h
  have e : Int.tmod (m : Int) 10 = ((m % 10 : Nat) : Int) := by rw [Int.tmod_eq_emod_of_nonneg (by omega)]; omega
  unfold dioramaref20_missing.f ms dv
  cases D
  · simp
  · rw [if_pos rfl, if_pos rfl, e]
    by_cases hb : m % 10 = 0
    · rw [if_pos (by omega), if_pos hb]
    · rw [if_neg (by omega), if_neg hb, Int.tdiv_eq_ediv_of_nonneg (by omega), w64 (by omega) (by omega)]
theorem minute_eq {F : Int} {D : Bool} (h : ok F D = true) (m : Nat) : dioramaref20_minute.f F D m = some (60 * F - ms (dv F D) m) := by
  obtain ⟨h1, h2, h3⟩ := ok_iff.1 h
  have hd := dv_bd h
  have hms := ms_bd hd.1 m
  unfold dioramaref20_minute.f
  rw [missing_eq h]
  simp only [Option.bind_some]
  rw [w64 (x := 60 * F) (by omega) (by omega), w64 (by omega) (by omega)]
theorem hour_loop {F : Int} {D : Bool} (h : ok F D = true) (r : Nat) : ∀ (k m : Nat), m + r = 60 → r < k → dioramaref20_hour.l0 k (pre (60 * F) (dv F D) m) m F D = some (pre (60 * F) (dv F D) 60) := by
  have ht := ten_bd h
  induction r with
  | zero =>
    intro k m hm hk
    obtain ⟨k, rfl⟩ : ∃ j, k = j + 1 := ⟨k - 1, by omega⟩
    obtain rfl : m = 60 := by omega
    simp only [dioramaref20_hour.l0]
    rw [if_neg (by omega)]
  | succ r ih =>
    intro k m hm hk
    obtain ⟨k, rfl⟩ : ∃ j, k = j + 1 := ⟨k - 1, by omega⟩
    have b := pre_bd h (T := m + 1) (by omega)
    simp only [dioramaref20_hour.l0]
    rw [if_pos (by omega), minute_eq h]
    simp only [Option.bind_some]
    have e : pre (60 * F) (dv F D) (m + 1) = pre (60 * F) (dv F D) m + (60 * F - ms (dv F D) m) := rfl
    rw [← e, w64 (by omega) (by omega), w64 (by omega) (by omega)]
    exact ih k (m + 1) (by omega) (by omega)
theorem hour_eq {F : Int} {D : Bool} (h : ok F D = true) {k : Nat} (hk : 61 ≤ k) : dioramaref20_hour.f k F D = some (6 * ten F D) := by
  unfold dioramaref20_hour.f
  have := hour_loop h 60 k 0 (by omega) (by omega)
  rw [pre_hour] at this
  exact this
theorem rDay_eq (F : Int) (D : Bool) {k : Nat} (hk : 61 ≤ k) : dioramaref20_Day.f k F D = some (if ok F D = true then (144 * ten F D, 0) else (0, 1)) := by
  unfold dioramaref20_Day.f
  rw [rcheck_eq]
  simp only [Option.bind_some]
  cases h : ok F D with
  | false => rfl
  | true =>
    have ht := ten_bd h
    rw [if_pos rfl, if_pos rfl, hour_eq h hk]
    simp only [Option.bind_some, if_true]
    rw [w64 (by omega) (by omega)]
    congr 2; omega
theorem code_loop {F : Int} {D : Bool} (h : ok F D = true) {y : Int} (H : Int) (hy : y < 60 * F) (r : Nat) : ∀ (k M Z : Nat), M + r = Z → Z < 60 → ms (dv F D) Z ≤ y → r < k →
    dioramaref20_Code.l0 k (pre (60 * F) (dv F D) Z - pre (60 * F) (dv F D) M + (y - ms (dv F D) Z)) F D H M 0 0 = some (H, (Z : Int), y / F, y % F, 0) := by
  obtain ⟨h1, h2, h3⟩ := ok_iff.1 h
  have hd := dv_bd h
  have ht := ten_bd h
  induction r with
  | zero =>
    intro k M Z hZ hz hm hk
    obtain ⟨k, rfl⟩ : ∃ j, k = j + 1 := ⟨k - 1, by omega⟩
    obtain rfl : M = Z := by omega
    have hms := ms_bd hd.1 M
    simp only [dioramaref20_Code.l0]
    rw [minute_eq h]
    simp only [Option.bind_some]
    rw [if_neg (by omega), missing_eq h]
    simp only [Option.bind_some]
    rw [if_neg (by omega), show pre (60 * F) (dv F D) M - pre (60 * F) (dv F D) M + (y - ms (dv F D) M) + ms (dv F D) M = y by omega, w64 (x := y) (by omega) (by omega), Int.tdiv_eq_ediv_of_nonneg (by omega), Int.tmod_eq_emod_of_nonneg (by omega)]
    have b0 : 0 ≤ y / F := Int.ediv_nonneg (by omega) (by omega)
    have b1 : y / F < 60 := Int.ediv_lt_of_lt_mul (by omega) hy
    rw [w64 (x := y / F) (by omega) (by omega)]
  | succ r ih =>
    intro k M Z hZ hz hm hk
    obtain ⟨k, rfl⟩ : ∃ j, k = j + 1 := ⟨k - 1, by omega⟩
    have hms := ms_bd hd.1 M
    have hmz := ms_bd hd.1 Z
    have b := pre_mono (c := 60 * F) (d := dv F D) hd.1 (by omega) (M + 1) Z (by omega)
    have b2 := pre_bd h (T := Z) (by omega)
    have b3 := pre_bd h (T := M) (by omega)
    have e : pre (60 * F) (dv F D) (M + 1) = pre (60 * F) (dv F D) M + (60 * F - ms (dv F D) M) := rfl
    simp only [dioramaref20_Code.l0]
    rw [minute_eq h]
    simp only [Option.bind_some]
    rw [if_pos (by omega)]
    have e2 : pre (60 * F) (dv F D) Z - pre (60 * F) (dv F D) M + (y - ms (dv F D) Z) - (60 * F - ms (dv F D) M) = pre (60 * F) (dv F D) Z - pre (60 * F) (dv F D) (M + 1) + (y - ms (dv F D) Z) := by omega
    rw [e2, w64 (by omega) (by omega), w64 (by omega) (by omega)]
    exact ih k (M + 1) Z (by omega) hz hm (by omega)
theorem rCode_bad {F : Int} {D : Bool} (n : Int) (h : ok F D = false ∨ n < 0 ∨ 144 * ten F D ≤ n) {k : Nat} (hk : 61 ≤ k) : dioramaref20_Code.f k F D n = some (0, 0, 0, 0, 1) := by
  unfold dioramaref20_Code.f
  rw [rDay_eq F D hk]
  simp only [Option.bind_some]
  cases ho : ok F D with
  | false => rfl
  | true =>
    have ht := ten_bd ho
    rw [ho] at h
    simp only [if_true]
    rw [in_eq, w64 (by omega) (by omega)]
    simp only [Option.bind_some]
    rw [if_neg]
    simp only [decide_eq_true_eq]
    rcases h with h | h | h
    · simp at h
    · omega
    · omega
theorem ms_mod {d : Int} (H M : Nat) : ms d (60 * H + M) = ms d M := by unfold ms; rw [show (60 * H + M) % 10 = M % 10 by omega]
theorem rCode_good {F : Int} {D : Bool} (h : ok F D = true) {T : Nat} {y : Int} (hT : T < 1440) (hm : ms (dv F D) T ≤ y) (hy : y < 60 * F) {k : Nat} (hk : 61 ≤ k) :
    dioramaref20_Code.f k F D (pre (60 * F) (dv F D) T + (y - ms (dv F D) T)) = some ((cod F T y).1, (cod F T y).2.1, (cod F T y).2.2.1, (cod F T y).2.2.2, 0) := by
  have hn := num_bd h hT hm hy
  have ht := ten_bd h
  obtain ⟨h1, h2, h3⟩ := ok_iff.1 h
  have hd := dv_bd h
  have e := pre_hours (60 * F) (dv F D) (T / 60) (T % 60)
  have eT : 60 * (T / 60) + T % 60 = T := by omega
  have eM := ms_mod (d := dv F D) (T / 60) (T % 60)
  rw [eT] at e eM
  have eh : pre (60 * F) (dv F D) 60 = 6 * ten F D := pre_hour _ _
  rw [eh] at e
  have hmz := ms_bd hd.1 (T % 60)
  have b2 := pre_mono (c := 60 * F) (d := dv F D) hd.1 (by omega) (T % 60 + 1) 60 (by omega)
  have b3 := pre_bd h (T := T % 60) (by omega)
  have e4 : pre (60 * F) (dv F D) (T % 60 + 1) = pre (60 * F) (dv F D) (T % 60) + (60 * F - ms (dv F D) (T % 60)) := rfl
  rw [eM] at hm hn ⊢
  obtain ⟨q1, q2⟩ := tdm (n := pre (60 * F) (dv F D) T + (y - ms (dv F D) (T % 60))) (q := ((T / 60 : Nat) : Int)) (b := 6 * ten F D) (r := pre (60 * F) (dv F D) (T % 60) + (y - ms (dv F D) (T % 60))) (by omega) (by omega) (by omega) (by omega)
  unfold dioramaref20_Code.f
  rw [rDay_eq F D hk, h]
  simp only [Option.bind_some, if_true]
  rw [in_eq, w64 (by omega) (by omega)]
  simp only [Option.bind_some]
  rw [if_pos (by simp only [decide_eq_true_eq]; omega), hour_eq h hk]
  simp only [Option.bind_some]
  rw [if_neg (by omega), if_neg (by omega), q1, q2, w64 (by omega) (by omega)]
  have := code_loop h ((T / 60 : Nat) : Int) hy (T % 60) k 0 (T % 60) (by omega) (by omega) hm (by omega)
  simp only [pre, Int.sub_zero] at this
  exact this
theorem awake_eq {k : Nat} (hk : 5 ≤ k) : dioramalaw20_awake.f k = some true := by
  induction k with
  | zero => omega
  | succ k ih =>
    by_cases h : 5 ≤ k
    · exact dioramalaw20_awake.mono k true (ih h)
    · obtain rfl : k = 4 := by omega
      decide +kernel
/-- Where a number is of a day, its place; else both refuse. -/
theorem place_of {F : Int} {D : Bool} (n : Int) : (ok F D = false ∨ n < 0 ∨ 144 * ten F D ≤ n) ∨
    (ok F D = true ∧ ∃ (T : Nat) (y : Int), T < 1440 ∧ n = pre (60 * F) (dv F D) T + (y - ms (dv F D) T) ∧ ms (dv F D) T ≤ y ∧ y < 60 * F) := by
  cases h : ok F D with
  | false => exact .inl (.inl rfl)
  | true =>
    by_cases h0 : n < 0
    · exact .inl (.inr (.inl h0))
    · by_cases h1 : 144 * ten F D ≤ n
      · exact .inl (.inr (.inr h1))
      · exact .inr ⟨rfl, find (by omega) (by unfold ten at h1; omega)⟩
theorem codes_agree (F : Int) (D : Bool) (n : Int) {k : Nat} (hk : 61 ≤ k) : ∃ a b c d e, code_Code.f F D n = some (a, b, c, d, e) ∧ dioramaref20_Code.f k F D n = some (a, b, c, d, e) := by
  rcases place_of (F := F) (D := D) n with h | ⟨h, T, y, hT, rfl, hm, hy⟩
  · exact ⟨0, 0, 0, 0, 1, Code_bad n h, rCode_bad n h hk⟩
  · exact ⟨_, _, _, _, _, Code_good h hT hm hy, rCode_good h hT hm hy hk⟩
end Go.Proofs.Ytndbhfbgigefnaa.Mb
