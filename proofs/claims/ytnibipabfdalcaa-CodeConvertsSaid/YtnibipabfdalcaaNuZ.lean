/- The same time of day at another rate. Plain theorems over the abstract machine.
   Conditions: none. -/
import Derived.Test.YtnibipabfdalcaaNuY
namespace Go.Proofs.Ytnibipabfdalcaa.Nu
open Go Go.RowKit Go.Proofs.Ytnibipabfdalcaa.Am Go.Proofs.Ytnibipabfdalcaa.Af Go.Proofs.Ytnibipabfdalcaa.Md Go.Proofs.Ytnibipabfdalcaa.Ma
set_option linter.unusedVariables false
set_option linter.unusedSimpArgs false
set_option linter.defProp false
set_option maxRecDepth 20000
set_option maxHeartbeats 2000000

theorem cntZ_b {F H M S f : Int} {D : Bool} (hF : 1 ≤ F ∧ F ≤ 60) (hok : okC F H M S f) : 0 ≤ cntZ F D H M S f ∧ cntZ F D H M S f ≤ 6000000 := by
  obtain ⟨⟨h1, h2⟩, h3, h4⟩ := hok
  obtain ⟨m, rfl⟩ : ∃ m : Nat, M = (m : Int) := ⟨M.toNat, by omega⟩
  have hd := miss_b D hF
  rw [← cnt_same h1.1]
  have bH : 0 ≤ H * (3600 * F - 54 * missN F D) ∧ H * (3600 * F - 54 * missN F D) ≤ 23 * 216000 := ⟨Int.mul_nonneg h1.1 (by omega), Int.mul_le_mul h1.2 (by omega) (by omega) (by omega)⟩
  have bS : 0 ≤ S * F ∧ S * F ≤ 59 * 60 := ⟨Int.mul_nonneg h3.1 (by omega), Int.mul_le_mul h3.2 hF.2 (by omega) (by omega)⟩
  have bh := hourN_b hF hd m
  by_cases e : (m : Int) % 10 = 0
  · rw [if_pos e]; omega
  · rw [if_neg e]
    obtain ⟨k, rfl⟩ : ∃ k, m = k + 1 := ⟨m - 1, by omega⟩
    have bk := hourN_b hF hd k
    have : hourN F (missN F D) (k + 1) ≥ 56 := by unfold hourN; split <;> omega
    omega
theorem div_cross {a b c d : Nat} (hb : 0 < b) (hd : 0 < d) (h : a * d = c * b) : a / b = c / d := by
  have e1 : a * d / (b * d) = a / b := Nat.mul_div_mul_right a b hd
  have e2 : c * b / (d * b) = c / d := Nat.mul_div_mul_right c d hb
  rw [← e1, h, Nat.mul_comm b d, e2]
theorem red (a b : Nat) : a = Nat.gcd a b * (a / Nat.gcd a b) ∧ b = Nat.gcd a b * (b / Nat.gcd a b) :=
  ⟨(Nat.mul_div_cancel' (Nat.gcd_dvd_left a b)).symm, (Nat.mul_div_cancel' (Nat.gcd_dvd_right a b)).symm⟩
theorem up_pos {F : Nat} {D : Bool} (hF : 1 ≤ F ∧ F ≤ 60) : 0 < upN F D ∧ upN F D ≤ 60000 := by unfold upN; split <;> omega
theorem dn_pos {D : Bool} : 0 < dnN D ∧ dnN D ≤ 1001 := by unfold dnN; split <;> omega
def cvN (n F : Nat) (D : Bool) (G : Nat) (E : Bool) : Nat := n * dnN D * upN G E / (1 * upN F D * dnN E)
theorem cv_same {n F G : Nat} {D E : Bool} (hF : 1 ≤ F ∧ F ≤ 60) (hG : 1 ≤ G ∧ G ≤ 60) {A B C K g2 p q g4 : Nat} (hA : A = upN F D / rtG F D) (hB : B = dnN D / rtG F D) (hC : C = upN G E / rtG G E) (hK : K = dnN E / rtG G E)
    (hg2 : g2 = Nat.gcd (n * B) (1 * A)) (hp : p = n * B / g2) (hq : q = 1 * A / g2) (hg4 : g4 = Nat.gcd (p * C) (q * K)) : (p * C / g4) / (q * K / g4) = cvN n F D G E := by
  obtain ⟨r1, r2⟩ := red (upN F D) (dnN D)
  obtain ⟨r3, r4⟩ := red (upN G E) (dnN E)
  obtain ⟨r5, r6⟩ := red (n * B) (1 * A)
  obtain ⟨r7, r8⟩ := red (p * C) (q * K)
  rw [← hg4] at r7 r8
  rw [← hg2, ← hp] at r5
  rw [← hg2, ← hq] at r6
  have u1 := up_pos (D := D) hF
  have u2 := up_pos (D := E) hG
  have d1 := dn_pos (D := D)
  have d2 := dn_pos (D := E)
  have r1 : upN F D = rtG F D * A := by rw [hA]; exact r1
  have r2 : dnN D = rtG F D * B := by rw [hB]; exact r2
  have r3 : upN G E = rtG G E * C := by rw [hC]; exact r3
  have r4 : dnN E = rtG G E * K := by rw [hK]; exact r4
  have hA0 : 0 < A := Nat.pos_of_ne_zero fun e => by rw [e, Nat.mul_zero] at r1; omega
  have hK0 : 0 < K := Nat.pos_of_ne_zero fun e => by rw [e, Nat.mul_zero] at r4; omega
  have hq0 : 0 < q := Nat.pos_of_ne_zero fun e => by rw [e, Nat.mul_zero] at r6; omega
  have hqK : 0 < q * K := Nat.mul_pos hq0 hK0
  have hg40 : 0 < g4 := by rw [hg4]; exact Nat.gcd_pos_of_pos_right _ hqK
  have e1 : (p * C / g4) / (q * K / g4) = (p * C) / (q * K) := by
    refine div_cross ?_ hqK ?_
    · exact Nat.pos_of_ne_zero fun e => by rw [e, Nat.mul_zero] at r8; omega
    · conv => lhs; rw [r8]
      conv => rhs; rw [r7]
      generalize p * C / g4 = x
      generalize q * K / g4 = z
      ac_rfl
  rw [e1, cvN]
  refine div_cross hqK (Nat.mul_pos (by omega) (by omega)) ?_
  rw [r1, r2, r3, r4]
  have e2 : n * (rtG F D * B) * (rtG G E * C) * (q * K) = n * B * (rtG F D * rtG G E * C * q * K) := by ac_rfl
  have e3 : p * C * (1 * (rtG F D * A) * (rtG G E * K)) = (1 * A) * (rtG F D * rtG G E * C * p * K) := by ac_rfl
  rw [e2, e3, r5, r6]
  ac_rfl
theorem nb_find {F : Int} {D : Bool} {N : Int} (hF : 1 ≤ F ∧ F ≤ 60) (h0 : 0 ≤ N) (h1 : N < 144 * (600 * F - 9 * missN F D)) : ∃ (T : Nat) (y : Int), T < 1440 ∧ ms (missN F D) T ≤ y ∧ y < 60 * F ∧ pre (60 * F) (missN F D) T + (y - ms (missN F D) T) = N := by
  obtain ⟨T, y, a, b, c, d⟩ := find (c := 60 * F) (d := missN F D) h0 (by omega)
  exact ⟨T, y, a, c, d, b.symm⟩
end Go.Proofs.Ytnibipabfdalcaa.Nu
