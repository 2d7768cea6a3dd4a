/- What the printed functions of time codes answer: which codes are right, their numbers, their texts; the program's and the reference's.
   Conditions: a valid rate where said. -/
import Derived.Test.YtndbhfbgigefnaaMb
import Derived.Test.YtndbhfbgigefnaaPAx41
import Derived.Test.YtndbhfbgigefnaaPAx38
import Derived.Test.YtndbhfbgigefnaaPAx32
import Derived.Test.YtndbhfbgigefnaaPAx36
namespace Go.Proofs.Ytndbhfbgigefnaa.Mc
open Go.RowKit Go.Proofs.Ytndbhfbgigefnaa.PA Go.Proofs.Ytndbhfbgigefnaa.Ma Go.Proofs.Ytndbhfbgigefnaa.Mb
set_option linter.unusedVariables false

/-- The error of a code, for a valid rate. -/
def right (F : Int) (D : Bool) (h m s f : Int) : Int :=
  if (0 ≤ h ∧ h ≤ 23) ∧ (0 ≤ m ∧ m ≤ 59) ∧ (0 ≤ s ∧ s ≤ 59) ∧ (0 ≤ f ∧ f ≤ F - 1) then (if s = 0 ∧ m % 10 ≠ 0 ∧ f < dv F D then 200 else 0) else 1
theorem right_eq {F : Int} {D : Bool} (ho : ok F D = true) (h m s f : Int) (k : Nat) : code_steps_right.f (k + 1) F D h m s f = some (right F D h m s f) := by
  obtain ⟨h1, h2, h3⟩ := ok_iff.1 ho
  have hd := dv_bd ho
  unfold code_steps_right.f right
  rw [within_eq, within_eq, within_eq, within_eq, w64 (x := F - 1) (by omega) (by omega)]
  simp only [Option.bind_some, decide_eq_true_eq]
  by_cases a1 : 0 ≤ h ∧ h ≤ 23
  · rw [if_pos a1]
    by_cases a2 : 0 ≤ m ∧ m ≤ 59
    · rw [if_pos a2]
      by_cases a3 : 0 ≤ s ∧ s ≤ 59
      · rw [if_pos a3]
        by_cases a4 : 0 ≤ f ∧ f ≤ F - 1
        · rw [if_pos ⟨a1, a2, a3, a4⟩, decide_eq_true a4]
          simp only [Bool.not_true, code_steps_right.j0]
          rw [if_neg (by simp)]
          by_cases a5 : s = 0
          · rw [if_pos a5, Int.tmod_eq_emod_of_nonneg a2.1]
            by_cases a6 : m % 10 = 0
            · rw [if_pos a6, if_neg (by omega)]
            · rw [if_neg a6, dropped_eq ho]
              simp only [Option.bind_some]
              by_cases a7 : f < dv F D
              · rw [if_pos a7, if_pos (by omega)]
              · rw [if_neg a7, if_neg (by omega)]
          · rw [if_neg a5, if_neg (by omega)]
        · rw [if_neg (by omega), decide_eq_false a4]
          simp only [Bool.not_false, code_steps_right.j0, if_true]
      · rw [if_neg a3, if_neg (by omega)]; simp [code_steps_right.j0]
    · rw [if_neg a2, if_neg (by omega)]; simp [code_steps_right.j0]
  · rw [if_neg a1, if_neg (by omega)]; simp [code_steps_right.j0]
theorem checked_eq (F : Int) (D : Bool) (h m s f : Int) (k : Nat) : code_checked.f (k + 1) F D h m s f = some (if ok F D = true then right F D h m s f else 1) := by
  unfold code_checked.f
  rw [check_eq]
  simp only [Option.bind_some]
  cases ho : ok F D with
  | false => simp
  | true => simp [right_eq ho]
/-- A right code is the code of a place. -/
theorem right_place {F : Int} {D : Bool} (ho : ok F D = true) {h m s f : Int} (hr : right F D h m s f = 0) :
    ∃ (T : Nat) (y : Int), T < 1440 ∧ ms (dv F D) T ≤ y ∧ y < 60 * F ∧ (h, m, s, f) = cod F T y := by
  obtain ⟨h1, h2, h3⟩ := ok_iff.1 ho
  have hd := dv_bd ho
  unfold right at hr
  split at hr
  · rename_i a
    obtain ⟨a1, a2, a3, a4⟩ := a
    have hs : ¬ (s = 0 ∧ m % 10 ≠ 0 ∧ f < dv F D) := by
      intro hc; rw [if_pos hc] at hr; omega
    have e1 : ((60 * h + m).toNat : Int) = 60 * h + m := by omega
    have p0 : 0 ≤ s * F := Int.mul_nonneg a3.1 (by omega)
    have p1 : s * F ≤ 59 * F := Int.mul_le_mul_of_nonneg_right a3.2 (by omega)
    refine ⟨(60 * h + m).toNat, s * F + f, by omega, ?_, by omega, ?_⟩
    · unfold ms
      split
      · omega
      · rename_i hm
        by_cases e : s = 0
        · subst e; omega
        · have : 1 * F ≤ s * F := Int.mul_le_mul_of_nonneg_right (by omega) (by omega)
          omega
    · obtain ⟨q1, q2⟩ := dm (n := s * F + f) (q := s) (b := F) (r := f) rfl (by omega) (by omega)
      unfold cod
      rw [q1, q2]
      refine Prod.ext ?_ (Prod.ext ?_ rfl)
      · show h = (((60 * h + m).toNat / 60 : Nat) : Int); omega
      · show m = (((60 * h + m).toNat % 60 : Nat) : Int); omega
  · omega
theorem place_right {F : Int} {D : Bool} (ho : ok F D = true) {T : Nat} {y : Int} (hT : T < 1440) (hm : ms (dv F D) T ≤ y) (hy : y < 60 * F) :
    right F D (cod F T y).1 (cod F T y).2.1 (cod F T y).2.2.1 (cod F T y).2.2.2 = 0 := by
  obtain ⟨h1, h2, h3⟩ := ok_iff.1 ho
  have hd := dv_bd ho
  have hms := ms_bd hd.1 T
  obtain ⟨_, _, b0, b1, b2, b3⟩ := split_eq (T := T) h1 (by omega) hy
  have e := Int.mul_ediv_add_emod y F
  unfold right cod
  simp only []
  rw [if_pos ⟨by omega, by omega, by omega, by omega⟩, if_neg]
  rintro ⟨c1, c2, c3⟩
  have : ms (dv F D) T = dv F D := by unfold ms; rw [if_neg (by omega)]
  rw [c1] at e
  omega
theorem pre_ms (c d : Int) (T : Nat) : pre c d T - ms d T = c * T - d * (T - T / 10) := by
  have e1 : T = 10 * (T / 10) + T % 10 := by omega
  obtain ⟨a, ha⟩ : ∃ a, a = T / 10 := ⟨_, rfl⟩
  obtain ⟨b, hb⟩ : ∃ b, b = T % 10 := ⟨_, rfl⟩
  have hb10 : b < 10 := by omega
  have hp := pre_form c d a b hb10
  rw [← ha, ← hb] at e1
  rw [← e1] at hp
  have hT : (T : Int) = 10 * (a : Int) + b := by omega
  have hTa : ((T : Int) / 10) = a := by omega
  rw [hp, hTa, hT]
  unfold ms
  rw [← hb]
  split
  · rename_i h0; rw [h0]; simp; grind
  · grind
theorem count_eq {F : Int} {D : Bool} (ho : ok F D = true) {T : Nat} {y : Int} (hT : T < 1440) (hm : ms (dv F D) T ≤ y) (hy : y < 60 * F) :
    code_steps_count.f F D (cod F T y).1 (cod F T y).2.1 (cod F T y).2.2.1 (cod F T y).2.2.2 = some (pre (60 * F) (dv F D) T + (y - ms (dv F D) T)) := by
  obtain ⟨h1, h2, h3⟩ := ok_iff.1 ho
  have hd := dv_bd ho
  have hms := ms_bd hd.1 T
  have hn := num_bd ho hT hm hy
  have ht := ten_bd ho
  have hp := pre_ms (60 * F) (dv F D) T
  obtain ⟨_, _, b0, b1, b2, b3⟩ := split_eq (T := T) h1 (by omega) hy
  have e := Int.mul_ediv_add_emod y F
  unfold code_steps_count.f cod
  rw [dropped_eq ho]
  simp only [Option.bind_some]
  generalize hs : y / F = s at *
  generalize hf : y % F = f at *
  have eT : ((T / 60 : Nat) : Int) * 60 + ((T % 60 : Nat) : Int) = T := by omega
  rw [w64 (x := ((T / 60 : Nat) : Int) * 60) (by omega) (by omega), eT, w64 (x := (T : Int)) (by omega) (by omega), Int.tdiv_eq_ediv_of_nonneg (by omega), w64 (x := (T : Int) / 10) (by omega) (by omega), w64 (x := (T : Int) - T / 10) (by omega) (by omega), w64 (x := (T : Int) * 60) (by omega) (by omega), w64 (x := (T : Int) * 60 + s) (by omega) (by omega)]
  have p1 : ((T : Int) * 60 + s) * F = 60 * F * T + F * s := by grind
  have b4 : 0 ≤ dv F D * ((T : Int) - T / 10) := Int.mul_nonneg hd.1 (by omega)
  have b5 : dv F D * ((T : Int) - T / 10) ≤ 4 * 1440 := Int.mul_le_mul hd.2.1 (by omega) (by omega) (by omega)
  have b6 : 0 ≤ 60 * F * (T : Int) := Int.mul_nonneg (by omega) (by omega)
  have b7 : 60 * F * (T : Int) ≤ 3600 * 1440 := Int.mul_le_mul (by omega) (by omega) (by omega) (by omega)
  rw [p1, w64 (x := 60 * F * T + F * s) (by omega) (by omega), w64 (x := 60 * F * T + F * s + f) (by omega) (by omega), w64 (x := dv F D * ((T : Int) - T / 10)) (by omega) (by omega), w64 (by omega) (by omega)]
  congr 1; omega
/-- The program's Count and the reference's. -/
theorem Count_bad {F : Int} {D : Bool} {h m s f : Int} {e : Int} (he : (if ok F D = true then right F D h m s f else 1) = e) (h0 : e ≠ 0) (k : Nat) : code_Count.f (k + 1) F D h m s f = some (0, e) := by
  unfold code_Count.f
  rw [checked_eq, he]
  simp [h0]
theorem Count_good {F : Int} {D : Bool} (ho : ok F D = true) {T : Nat} {y : Int} (hT : T < 1440) (hm : ms (dv F D) T ≤ y) (hy : y < 60 * F) (k : Nat) :
    code_Count.f (k + 1) F D (cod F T y).1 (cod F T y).2.1 (cod F T y).2.2.1 (cod F T y).2.2.2 = some (pre (60 * F) (dv F D) T + (y - ms (dv F D) T), 0) := by
  unfold code_Count.f
  rw [checked_eq, if_pos ho, place_right ho hT hm hy]
  simp [count_eq ho hT hm hy]
theorem rCount_loop {F : Int} {D : Bool} (ho : ok F D = true) (H : Nat) (hH : H < 24) (s f hh : Int) (r : Nat) : ∀ (k M Z : Nat), M + r = Z → Z < 60 → 0 ≤ s → s < 60 → 0 ≤ f → f < F → ms (dv F D) Z ≤ s * F + f → r < k →
    dioramaref20_Count.l0 k (pre (60 * F) (dv F D) (60 * H + M)) M F D hh Z s f = some (pre (60 * F) (dv F D) (60 * H + Z) + (s * F + f - ms (dv F D) Z), 0) := by
  obtain ⟨h1, h2, h3⟩ := ok_iff.1 ho
  have hd := dv_bd ho
  have ht := ten_bd ho
  induction r with
  | zero =>
    intro k M Z hZ hz s0 s1 f0 f1 hm hk
    obtain ⟨k, rfl⟩ : ∃ j, k = j + 1 := ⟨k - 1, by omega⟩
    obtain rfl : M = Z := by omega
    have hms := ms_bd hd.1 M
    have b := pre_bd ho (T := 60 * H + M) (by omega)
    have p0 : 0 ≤ s * F := Int.mul_nonneg s0 (by omega)
    have p1 : s * F ≤ 59 * F := Int.mul_le_mul_of_nonneg_right (by omega) (by omega)
    simp only [dioramaref20_Count.l0]
    rw [if_neg (by omega), missing_eq ho]
    simp only [Option.bind_some]
    rw [w64 (x := s * F) (by omega) (by omega), w64 (x := pre (60 * F) (dv F D) (60 * H + M) + s * F) (by omega) (by omega), w64 (x := pre (60 * F) (dv F D) (60 * H + M) + s * F + f) (by omega) (by omega), w64 (by omega) (by omega)]
    congr 2; omega
  | succ r ih =>
    intro k M Z hZ hz s0 s1 f0 f1 hm hk
    obtain ⟨k, rfl⟩ : ∃ j, k = j + 1 := ⟨k - 1, by omega⟩
    have b := pre_bd ho (T := 60 * H + M + 1) (by omega)
    have e : pre (60 * F) (dv F D) (60 * H + M + 1) = pre (60 * F) (dv F D) (60 * H + M) + (60 * F - ms (dv F D) (60 * H + M)) := rfl
    rw [ms_mod] at e
    simp only [dioramaref20_Count.l0]
    rw [if_pos (by omega), minute_eq ho]
    simp only [Option.bind_some]
    rw [← e, w64 (by omega) (by omega), w64 (by omega) (by omega)]
    exact ih k (M + 1) Z (by omega) hz s0 s1 f0 f1 hm (by omega)
theorem rCount_eq (F : Int) (D : Bool) (h m s f : Int) {k : Nat} (hk : 64 ≤ k) : dioramaref20_Count.f k F D h m s f = code_Count.f k F D h m s f := by
  obtain ⟨k, rfl⟩ : ∃ j, k = j + 3 := ⟨k - 3, by omega⟩
  cases ho : ok F D with
  | false =>
    rw [Count_bad (e := 1) (by rw [ho]; rfl) (by omega)]
    unfold dioramaref20_Count.f
    rw [rcheck_eq, ho]
    rfl
  | true =>
    obtain ⟨h1, h2, h3⟩ := ok_iff.1 ho
    have hd := dv_bd ho
    by_cases hr : right F D h m s f = 0
    · obtain ⟨T, y, hT, hm, hy, e⟩ := right_place ho hr
      have hms := ms_bd hd.1 T
      obtain ⟨_, _, b0, b1, b2, b3⟩ := split_eq (T := T) h1 (by omega) hy
      have ey := Int.mul_ediv_add_emod y F
      have hG := Count_good ho hT hm hy (k + 2)
      simp only [Prod.mk.injEq, cod] at e
      obtain ⟨rfl, rfl, rfl, rfl⟩ := e
      simp only [cod] at hG
      rw [hG]
      have eT : 60 * (T / 60) + T % 60 = T := by omega
      have eM := ms_mod (d := dv F D) (T / 60) (T % 60)
      rw [eT] at eM
      unfold dioramaref20_Count.f
      rw [rcheck_eq, ho, in_eq, in_eq, in_eq, in_eq, w64 (x := F - 1) (by omega) (by omega)]
      simp only [Option.bind_some, if_true]
      rw [if_pos (by simp only [decide_eq_true_eq]; omega), if_pos (by simp only [decide_eq_true_eq]; omega), if_pos (by simp only [decide_eq_true_eq]; omega), decide_eq_true (by omega)]
      simp only [Bool.not_true, dioramaref20_Count.j0]
      rw [if_neg (by simp)]
      have hE : (y / F) * F + y % F = y := by rw [Int.mul_comm]; exact ey
      have key : dioramaref20_Count.j1 (k + 2) false F D ((T / 60 : Nat) : Int) ((T % 60 : Nat) : Int) (y / F) (y % F) = some (pre (60 * F) (dv F D) T + (y - ms (dv F D) T), 0) := by
        have hp0 := pre_hours (60 * F) (dv F D) (T / 60) 0
        have hb := pre_bd ho (T := 60 * (T / 60)) (by omega)
        have hp00 : pre (60 * F) (dv F D) 0 = 0 := rfl
        rw [hp00, Nat.add_zero, Int.add_zero, pre_hour] at hp0
        have htt : 10 * (60 * F) - 9 * dv F D = ten F D := rfl
        rw [htt] at hp0
        simp only [dioramaref20_Count.j1]
        rw [if_neg (by simp), hour_eq ho (by omega)]
        simp only [Option.bind_some]
        rw [← hp0, w64 (by omega) (by omega)]
        have := rCount_loop ho (T / 60) (by omega) (y / F) (y % F) ((T / 60 : Nat) : Int) (T % 60) (k + 1) 0 (T % 60) (by omega) (by omega) (by omega) (by omega) (by omega) (by omega) (by rw [hE, ← eM]; exact hm) (by omega)
        rw [hE, eT, ← eM] at this
        simpa using this
      by_cases c : y / F = 0
      · rw [if_pos c, missing_eq ho]
        simp only [Option.bind_some]
        rw [decide_eq_false (by rw [← eM]; rw [c] at hE; omega)]
        exact key
      · rw [if_neg c]; exact key
    · rw [Count_bad (e := right F D h m s f) (by rw [ho]; rfl) hr]
      unfold dioramaref20_Count.f right at *
      rw [rcheck_eq, ho, in_eq, in_eq, in_eq, in_eq, w64 (x := F - 1) (by omega) (by omega)]
      simp only [Option.bind_some, if_true, decide_eq_true_eq]
      by_cases a1 : 0 ≤ h ∧ h ≤ 23
      · rw [if_pos a1]
        by_cases a2 : 0 ≤ m ∧ m ≤ 59
        · rw [if_pos a2]
          by_cases a3 : 0 ≤ s ∧ s ≤ 59
          · rw [if_pos a3]
            by_cases a4 : 0 ≤ f ∧ f ≤ F - 1
            · rw [if_pos ⟨a1, a2, a3, a4⟩] at hr ⊢
              have hc : s = 0 ∧ m % 10 ≠ 0 ∧ f < dv F D := by
                by_cases hc : s = 0 ∧ m % 10 ≠ 0 ∧ f < dv F D
                · exact hc
                · rw [if_neg hc] at hr; exact absurd rfl hr
              rw [if_pos hc, decide_eq_true a4]
              simp only [Bool.not_true, dioramaref20_Count.j0]
              rw [if_neg (by simp), if_pos hc.1]
              obtain ⟨mn, rfl⟩ : ∃ mn : Nat, m = mn := ⟨m.toNat, by omega⟩
              rw [missing_eq ho]
              simp only [Option.bind_some]
              have : ms (dv F D) mn = dv F D := by unfold ms; rw [if_neg (by omega)]
              rw [this, decide_eq_true hc.2.2]
              simp [dioramaref20_Count.j1]
            · rw [if_neg (by omega), decide_eq_false a4]
              simp [dioramaref20_Count.j0]
          · rw [if_neg a3, if_neg (by omega)]; simp [dioramaref20_Count.j0]
        · rw [if_neg a2, if_neg (by omega)]; simp [dioramaref20_Count.j0]
      · rw [if_neg a1, if_neg (by omega)]; simp [dioramaref20_Count.j0]
theorem Day_eq (F : Int) (D : Bool) : code_Day.f F D = some (if ok F D = true then (144 * ten F D, 0) else (0, 1)) := by
  unfold code_Day.f
  rw [check_eq]
  simp only [Option.bind_some]
  cases ho : ok F D with
  | false => rfl
  | true => rw [if_pos rfl, if_pos rfl, day_eq ho]; rfl
end Go.Proofs.Ytndbhfbgigefnaa.Mc
