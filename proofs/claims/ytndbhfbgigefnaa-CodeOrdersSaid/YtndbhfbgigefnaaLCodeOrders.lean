/- The law CodeOrders, walked: the text of a greater number is greater, by the printed functions and the arithmetic of Mb, Mc, Md.
   Conditions: none. -/
import Derived.Test.YtndbhfbgigefnaaPAx13
import Derived.Test.YtndbhfbgigefnaaMd
namespace Go.Proofs.Ytndbhfbgigefnaa.LCodeOrders
open Go.RowKit Go.Proofs.Ytndbhfbgigefnaa.PA Go.Proofs.Ytndbhfbgigefnaa.Ma Go.Proofs.Ytndbhfbgigefnaa.Mb Go.Proofs.Ytndbhfbgigefnaa.Mc Go.Proofs.Ytndbhfbgigefnaa.Md
set_option linter.unusedVariables false
theorem cod_bd {F : Int} {D : Bool} (ho : ok F D = true) {T : Nat} {y : Int} (hT : T < 1440) (hm : ms (dv F D) T ≤ y) (hy : y < 60 * F) :
    (0 ≤ (cod F T y).1 ∧ (cod F T y).1 < 100) ∧ (0 ≤ (cod F T y).2.1 ∧ (cod F T y).2.1 < 100) ∧ (0 ≤ (cod F T y).2.2.1 ∧ (cod F T y).2.2.1 < 100) ∧ (0 ≤ (cod F T y).2.2.2 ∧ (cod F T y).2.2.2 < 100) := by
  obtain ⟨h1, h2, h3⟩ := ok_iff.1 ho
  have hd := dv_bd ho
  have hms := ms_bd hd.1 T
  obtain ⟨_, _, b0, b1, b2, b3⟩ := split_eq (T := T) h1 (by omega) hy
  unfold cod
  simp only []
  omega
theorem awaken (k : Nat) (hk : 5 ≤ k) (c1 c2 c3 c4 d1 d2 d3 d4 F : Int) (D : Bool) (a b : Int) : dioramalaw20_CodeOrders.j0 (k + 1) a b true F D c1 c2 c3 c4 d1 d2 d3 d4 = some true := by
  simp only [dioramalaw20_CodeOrders.j0, if_true]
  rw [awake_eq hk]; rfl
theorem pure (F : Int) (D : Bool) (a b : Int) : dioramalaw20_CodeOrders.f 70 F D a b = some true := by
  unfold dioramalaw20_CodeOrders.f
  rcases place_of (F := F) (D := D) a with h | ⟨ho, T, y, hT, rfl, hm, hy⟩
  · rw [Code_bad a h]
    rcases place_of (F := F) (D := D) b with h' | ⟨ho, U, z, hU, rfl, hm', hz⟩
    · rw [Code_bad b h']
      simp only [Option.bind_some]
      rw [if_neg (by omega)]
      exact awaken 69 (by omega) _ _ _ _ _ _ _ _ _ _ _ _
    · rw [Code_good ho hU hm' hz]
      simp only [Option.bind_some]
      rw [if_neg (by omega)]
      exact awaken 69 (by omega) _ _ _ _ _ _ _ _ _ _ _ _
  · rw [Code_good ho hT hm hy]
    rcases place_of (F := F) (D := D) b with h' | ⟨_, U, z, hU, rfl, hm', hz⟩
    · rw [Code_bad b h']
      simp only [Option.bind_some]
      rw [if_pos trivial]
      exact awaken 69 (by omega) _ _ _ _ _ _ _ _ _ _ _ _
    · rw [Code_good ho hU hm' hz]
      simp only [Option.bind_some, if_true]
      have e1 : err F D (cod F T y).1 (cod F T y).2.1 (cod F T y).2.2.1 (cod F T y).2.2.2 = 0 := by unfold err; rw [if_pos ho]; exact place_right ho hT hm hy
      have e2 : err F D (cod F U z).1 (cod F U z).2.1 (cod F U z).2.2.1 (cod F U z).2.2.2 = 0 := by unfold err; rw [if_pos ho]; exact place_right ho hU hm' hz
      obtain ⟨a1, a2, a3, a4⟩ := cod_bd ho hT hm hy
      obtain ⟨b1, b2, b3, b4⟩ := cod_bd ho hU hm' hz
      obtain ⟨h1, h2, h3⟩ := ok_iff.1 ho
      have lt := num_lt ho hm hy hm' hz
      have gt := num_lt ho hm' hz hm hy
      have yl := y_lt h1 (y := y) (z := z)
      have yg := y_lt h1 (y := z) (z := y)
      show dioramalaw20_CodeOrders.j0 70 _ _ false F D _ _ _ _ _ _ _ _ = _
      simp only [dioramalaw20_CodeOrders.j0]
      rw [if_neg (by simp), Format_eq, Format_eq, e1, e2]
      simp only [Option.bind_some, if_true]
      rw [txt_less D a1 a2 a3 a4 b1 b2 b3 b4, txt_eq D a1 a2 a3 a4 b1 b2 b3 b4, if_pos, if_pos, awake_eq (by omega)]
      · rfl
      · rw [beq_iff_eq, Bool.eq_iff_iff, beq_iff_eq, decide_eq_true_eq]
        unfold cod
        simp only []
        omega
      · rw [beq_iff_eq, Bool.eq_iff_iff, decide_eq_true_eq, decide_eq_true_eq]
        unfold cod
        simp only []
        omega
theorem walk (a0_0 : Int) (a0_1 : Bool) (a1 a2 : Int) (W : World) (w0_0 : (Lit.int .i64 a0_0).wf = true) (w1 : (Lit.int .i64 a1).wf = true) (w2 : (Lit.int .i64 a2).wf = true) :
    Calls Try.prog 6 #[.agg #[.int .i64 a0_0, .bool a0_1], .int .i64 a1, .int .i64 a2] W fun e w' => e = .returned (.bool true) ∧ Below W.heap.size W w' :=
  dioramalaw20_CodeOrders.calls 70 a0_0 a0_1 a1 a2 true W (pure a0_0 a0_1 a1 a2) rfl
end Go.Proofs.Ytndbhfbgigefnaa.LCodeOrders
