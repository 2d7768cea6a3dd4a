/- The law CodeCounts, walked: number, day and text of any code are the reference's, by the printed functions and the arithmetic of Mb, Mc, Md.
   Conditions: none. -/
import Derived.Test.YtndbhfbgigefnaaPAx15
import Derived.Test.YtndbhfbgigefnaaMd
namespace Go.Proofs.Ytndbhfbgigefnaa.LCodeCounts
open Go.RowKit Go.Proofs.Ytndbhfbgigefnaa.PA Go.Proofs.Ytndbhfbgigefnaa.Mb Go.Proofs.Ytndbhfbgigefnaa.Mc Go.Proofs.Ytndbhfbgigefnaa.Md
set_option linter.unusedVariables false
theorem pure (F : Int) (D : Bool) (h m s f : Int) : dioramalaw20_CodeCounts.f 70 F D h m s f = some true := by
  unfold dioramalaw20_CodeCounts.f
  rw [rCount_eq F D h m s f (by omega), rFormat_eq F D h m s f (by omega), rDay_eq F D (by omega), Day_eq, Format_eq, check_eq, rcheck_eq, awake_eq (by omega)]
  obtain ⟨n, e, hc⟩ := Count_some F D h m s f 69
  rw [hc]
  simp
theorem walk (a0_0 : Int) (a0_1 : Bool) (a1_0 a1_1 a1_2 a1_3 : Int) (W : World) (w0_0 : (Lit.int .i64 a0_0).wf = true) (w1_0 : (Lit.int .i64 a1_0).wf = true) (w1_1 : (Lit.int .i64 a1_1).wf = true) (w1_2 : (Lit.int .i64 a1_2).wf = true) (w1_3 : (Lit.int .i64 a1_3).wf = true) :
    Calls Try.prog 7 #[.agg #[.int .i64 a0_0, .bool a0_1], .agg #[.int .i64 a1_0, .int .i64 a1_1, .int .i64 a1_2, .int .i64 a1_3]] W fun e w' => e = .returned (.bool true) ∧ Below W.heap.size W w' :=
  dioramalaw20_CodeCounts.calls 70 a0_0 a0_1 a1_0 a1_1 a1_2 a1_3 true W (pure a0_0 a0_1 a1_0 a1_1 a1_2 a1_3) rfl
end Go.Proofs.Ytndbhfbgigefnaa.LCodeCounts
