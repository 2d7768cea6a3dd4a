/- Plain arithmetic of time codes: how many numbers stand ahead of a minute, and the way from a number to its code and back.
   Conditions: none. -/
import Derived.RowKit
namespace Go.Proofs.Ytnibipabfdalcaa.Ma
open Go.RowKit

theorem w64 {x : Int} (h0 : -9223372036854775808 ≤ x) (h1 : x ≤ 9223372036854775807) : wrap64 x = x := by unfold wrap64; omega
theorem dm {n q b r : Int} (h : n = q * b + r) (h0 : 0 ≤ r) (h1 : r < b) : n / b = q ∧ n % b = r := by
  have hb : b ≠ 0 := by omega
  constructor
  · rw [h, Int.add_comm, Int.add_mul_ediv_right _ _ hb, Int.ediv_eq_zero_of_lt h0 h1]; omega
  · rw [h, Int.add_comm, Int.add_mul_emod_self_right, Int.emod_eq_of_lt h0 h1]
theorem tdm {n q b r : Int} (h : n = q * b + r) (hq : 0 ≤ q) (h0 : 0 ≤ r) (h1 : r < b) : Int.tdiv n b = q ∧ Int.tmod n b = r := by
  have hn : 0 ≤ n := by
    have : 0 ≤ q * b := Int.mul_nonneg hq (by omega)
    omega
  rw [Int.tdiv_eq_ediv_of_nonneg hn, Int.tmod_eq_emod_of_nonneg hn]
  exact dm h h0 h1

/-- A rate that is valid. -/
def ok (F : Int) (D : Bool) : Bool := decide (1 ≤ F) && (decide (F ≤ 60) && (!D || (decide (F = 30) || decide (F = 60))))
/-- How many numbers are dropped. -/
def dv (F : Int) (D : Bool) : Int := if D = true then F / 15 else 0
theorem ok_iff {F : Int} {D : Bool} : ok F D = true ↔ 1 ≤ F ∧ F ≤ 60 ∧ (D = false ∨ F = 30 ∨ F = 60) := by
  cases D <;> simp [ok]
theorem dv_bd {F : Int} {D : Bool} (h : ok F D = true) : 0 ≤ dv F D ∧ dv F D ≤ 4 ∧ dv F D ≤ F ∧ (D = false → dv F D = 0) := by
  obtain ⟨h1, h2, h3⟩ := ok_iff.1 h
  unfold dv
  cases D
  · simp; omega
  · simp at h3
    simp; omega
/-- What a minute misses. -/
def ms (d : Int) (m : Nat) : Int := if m % 10 = 0 then 0 else d
/-- How many numbers stand ahead of a minute of the day. -/
def pre (c d : Int) : Nat → Int
  | 0 => 0
  | T + 1 => pre c d T + (c - ms d T)
theorem pre_form (c d : Int) (a b : Nat) (hb : b < 10) : pre c d (10 * a + b) = a * (10 * c - 9 * d) + (if b = 0 then 0 else (b * c - (b - 1) * d)) := by
  have step : ∀ (b : Nat), b < 10 → pre c d (10 * a) = a * (10 * c - 9 * d) → pre c d (10 * a + b) = a * (10 * c - 9 * d) + (if b = 0 then 0 else (b * c - (b - 1) * d)) := by
    intro b
    induction b with
    | zero => intro _ h; simpa using h
    | succ b ih =>
      intro hb h
      have e := ih (by omega) h
      show pre c d (10 * a + b) + (c - ms d (10 * a + b)) = _
      rw [e]
      unfold ms
      have e1 : (10 * a + b) % 10 = b := by omega
      rw [e1]
      by_cases h0 : b = 0
      · subst h0; simp
      · rw [if_neg h0, if_neg h0, if_neg (by omega)]
        have : ((b + 1 : Nat) : Int) = b + 1 := by omega
        rw [this]; grind
  have base : ∀ a : Nat, pre c d (10 * a) = a * (10 * c - 9 * d) := by
    intro a
    induction a with
    | zero => simp [pre]
    | succ a ih =>
      have e : 10 * (a + 1) = 10 * a + 10 := by omega
      rw [e]
      simp only [pre, ih, ms]
      have q : ∀ j, j < 10 → (10 * a + j) % 10 = j := fun j hj => by omega
      have q0 : (10 * a) % 10 = 0 := by omega
      rw [q 1 (by omega), q 2 (by omega), q 3 (by omega), q 4 (by omega), q 5 (by omega), q 6 (by omega), q 7 (by omega), q 8 (by omega), q 9 (by omega), q0]
      simp
      grind
  exact step b hb (base a)
theorem pre_mono {c d : Int} (hd : 0 ≤ d) (hc : d ≤ c) (T : Nat) : ∀ U, T ≤ U → pre c d T ≤ pre c d U := by
  intro U h
  induction U with
  | zero => obtain rfl : T = 0 := by omega
            exact Int.le_refl _
  | succ U ih =>
    rcases Nat.lt_or_ge U T with h1 | h1
    · obtain rfl : T = U + 1 := by omega
      exact Int.le_refl _
    · have := ih h1
      have e : pre c d (U + 1) = pre c d U + (c - ms d U) := rfl
      unfold ms at e
      split at e <;> omega
theorem pre_find {c d n : Int} (h0 : 0 ≤ n) : ∀ N : Nat, n < pre c d N → ∃ T, T < N ∧ pre c d T ≤ n ∧ n < pre c d T + (c - ms d T) := by
  intro N
  induction N with
  | zero => intro h; simp [pre] at h; omega
  | succ N ih =>
    intro h
    by_cases h1 : n < pre c d N
    · obtain ⟨T, hT, h2⟩ := ih h1
      exact ⟨T, by omega, h2⟩
    · exact ⟨N, by omega, by omega, h⟩
theorem pre_day (c d : Int) : pre c d 1440 = 144 * (10 * c - 9 * d) := by
  have := pre_form c d 144 0 (by omega)
  simpa using this
theorem pre_hour (c d : Int) : pre c d 60 = 6 * (10 * c - 9 * d) := by
  have := pre_form c d 6 0 (by omega)
  simpa using this
theorem pre_hours (c d : Int) (H M : Nat) : pre c d (60 * H + M) = H * pre c d 60 + pre c d M := by
  have e1 : 60 * H + M = 10 * (6 * H + M / 10) + M % 10 := by omega
  have e2 : M = 10 * (M / 10) + M % 10 := by omega
  rw [e1, pre_form c d _ _ (Nat.mod_lt _ (by omega)), pre_hour]
  conv => rhs; rw [e2, pre_form c d _ _ (Nat.mod_lt _ (by omega))]
  have : ((6 * H + M / 10 : Nat) : Int) = 6 * H + (M / 10 : Nat) := by omega
  rw [this]
  grind
/-- The numbers of one day, by their minute T and their place y in it (numbers that are missing counted). -/
theorem find {c d n : Int} (h0 : 0 ≤ n) (h1 : n < 144 * (10 * c - 9 * d)) : ∃ (T : Nat) (y : Int), T < 1440 ∧ n = pre c d T + (y - ms d T) ∧ ms d T ≤ y ∧ y < c := by
  obtain ⟨T, hT, h2, h3⟩ := pre_find h0 1440 (by rw [pre_day]; exact h1)
  exact ⟨T, n - pre c d T + ms d T, hT, by omega, by omega, by omega⟩
/-- The closed form by which the program goes from a number to its place. -/
theorem place {c d : Int} (hd : 0 ≤ d) (hc : d < c) {T : Nat} {y : Int} (h0 : ms d T ≤ y) (h1 : y < c) :
    (pre c d T + (y - ms d T)) / (10 * c - 9 * d) = T / 10 ∧
    (if T % 10 = 0 then (pre c d T + (y - ms d T)) % (10 * c - 9 * d) < c ∧ pre c d T + (y - ms d T) + (T / 10) * 9 * d = c * T + y
      else c ≤ (pre c d T + (y - ms d T)) % (10 * c - 9 * d) ∧ ((pre c d T + (y - ms d T)) % (10 * c - 9 * d) - c) / (c - d) = ((T % 10 - 1 : Nat) : Int) ∧
        0 ≤ ((pre c d T + (y - ms d T)) % (10 * c - 9 * d) - c) ∧ pre c d T + (y - ms d T) + (T / 10) * 9 * d + d * (1 + ((T % 10 - 1 : Nat) : Int)) = c * T + y) := by
  have e1 : T = 10 * (T / 10) + T % 10 := by omega
  obtain ⟨a, ha⟩ : ∃ a, a = T / 10 := ⟨_, rfl⟩
  obtain ⟨b, hb⟩ : ∃ b, b = T % 10 := ⟨_, rfl⟩
  have hb10 : b < 10 := by omega
  have hm : ms d T = if b = 0 then 0 else d := by unfold ms; rw [hb]
  have hT : (T : Int) = 10 * (a : Int) + b := by omega
  have hp := pre_form c d a b hb10
  rw [← ha, ← hb] at e1
  rw [← e1] at hp
  have hTa : ((T : Int) / 10) = a := by omega
  rw [hTa, ← hb, hp]
  rw [hm] at h0 ⊢
  by_cases h : b = 0
  · subst h
    simp only [if_true] at h0 ⊢
    obtain ⟨q1, q2⟩ := dm (n := (a : Int) * (10 * c - 9 * d) + 0 + (y - 0)) (q := a) (b := 10 * c - 9 * d) (r := y) (by omega) h0 (by omega)
    rw [q1, q2]
    refine ⟨rfl, h1, ?_⟩
    rw [hT]; grind
  · simp only [if_neg h] at h0 ⊢
    have hbd : 0 ≤ (b : Int) - 1 := by omega
    have k1 : 0 ≤ ((b : Int) - 1) * (c - d) := Int.mul_nonneg hbd (by omega)
    have k2 : ((b : Int) - 1) * (c - d) ≤ 8 * (c - d) := Int.mul_le_mul_of_nonneg_right (by omega) (by omega)
    have k3 : (b : Int) * c - (b - 1) * d = c + (b - 1) * (c - d) := by grind
    obtain ⟨q1, q2⟩ := dm (n := (a : Int) * (10 * c - 9 * d) + ((b : Int) * c - (b - 1) * d) + (y - d)) (q := a) (b := 10 * c - 9 * d) (r := c + (b - 1) * (c - d) + (y - d)) (by rw [k3]; omega) (by omega) (by omega)
    rw [q1, q2]
    have hbn : ((b - 1 : Nat) : Int) = (b : Int) - 1 := by omega
    obtain ⟨q3, _⟩ := dm (n := c + ((b : Int) - 1) * (c - d) + (y - d) - c) (q := (b : Int) - 1) (b := c - d) (r := y - d) (by omega) (by omega) (by omega)
    refine ⟨rfl, by omega, by rw [hbn]; exact q3, by omega, ?_⟩
    rw [hT, hbn]; grind
end Go.Proofs.Ytnibipabfdalcaa.Ma
