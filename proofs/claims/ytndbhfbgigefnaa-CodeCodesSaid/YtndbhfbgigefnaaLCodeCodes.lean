/- The law CodeCodes, walked: the program's and the reference's code of any number are one, by the printed functions and the arithmetic of Mb.
   Conditions: none. -/
import Derived.Test.YtndbhfbgigefnaaPAx9
import Derived.Test.YtndbhfbgigefnaaMb
namespace Go.Proofs.Ytndbhfbgigefnaa.LCodeCodes
open Go.RowKit Go.Proofs.Ytndbhfbgigefnaa.PA Go.Proofs.Ytndbhfbgigefnaa.Mb
set_option linter.unusedVariables false
theorem pure (F : Int) (D : Bool) (n : Int) : dioramalaw20_CodeCodes.f 61 F D n = some true := by
  obtain ⟨a, b, c, d, e, h1, h2⟩ := codes_agree F D n (Nat.le_refl 61)
  unfold dioramalaw20_CodeCodes.f
  rw [h1, h2, awake_eq (by omega)]
  simp
theorem walk (a0_0 : Int) (a0_1 : Bool) (a1 : Int) (W : World) (w0_0 : (Lit.int .i64 a0_0).wf = true) (w1 : (Lit.int .i64 a1).wf = true) :
    Calls Try.prog 3 #[.agg #[.int .i64 a0_0, .bool a0_1], .int .i64 a1] W fun e w' => e = .returned (.bool true) ∧ Below W.heap.size W w' :=
  dioramalaw20_CodeCodes.calls 61 a0_0 a0_1 a1 true W (pure a0_0 a0_1 a1) rfl
end Go.Proofs.Ytndbhfbgigefnaa.LCodeCodes
