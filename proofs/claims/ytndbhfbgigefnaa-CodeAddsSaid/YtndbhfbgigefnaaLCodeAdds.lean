/- The law CodeAdds, walked: going on and the way between two codes are the reference's.
   Conditions: none. -/
import Derived.Test.YtndbhfbgigefnaaPAx11
import Derived.Test.YtndbhfbgigefnaaMe
namespace Go.Proofs.Ytndbhfbgigefnaa.LCodeAdds
open Go.RowKit Go.Proofs.Ytndbhfbgigefnaa.PA Go.Proofs.Ytndbhfbgigefnaa.Mb Go.Proofs.Ytndbhfbgigefnaa.Me
set_option linter.unusedVariables false
theorem pure (F : Int) (D : Bool) (h m s f h' m' s' f' n : Int) : dioramalaw20_CodeAdds.f 70 F D h m s f h' m' s' f' n = some true := by
  unfold dioramalaw20_CodeAdds.f
  obtain ⟨a, b, c, d, e, hA⟩ := Add_some F D h m s f n 69
  obtain ⟨x, y, hB⟩ := Between_some F D h m s f h' m' s' f' 69
  rw [rAdd_eq F D h m s f n (by omega), rBetween_eq F D h m s f h' m' s' f' (by omega), hA, hB, awake_eq (by omega)]
  simp
theorem walk (a0_0 : Int) (a0_1 : Bool) (a1_0_0 a1_0_1 a1_0_2 a1_0_3 a1_1_0 a1_1_1 a1_1_2 a1_1_3 a2 : Int) (W : World) (w0_0 : (Lit.int .i64 a0_0).wf = true) (w1_0_0 : (Lit.int .i64 a1_0_0).wf = true) (w1_0_1 : (Lit.int .i64 a1_0_1).wf = true) (w1_0_2 : (Lit.int .i64 a1_0_2).wf = true) (w1_0_3 : (Lit.int .i64 a1_0_3).wf = true)
    (w1_1_0 : (Lit.int .i64 a1_1_0).wf = true) (w1_1_1 : (Lit.int .i64 a1_1_1).wf = true) (w1_1_2 : (Lit.int .i64 a1_1_2).wf = true) (w1_1_3 : (Lit.int .i64 a1_1_3).wf = true) (w2 : (Lit.int .i64 a2).wf = true) :
    Calls Try.prog 4 #[.agg #[.int .i64 a0_0, .bool a0_1], .agg #[.int .i64 a1_0_0, .int .i64 a1_0_1, .int .i64 a1_0_2, .int .i64 a1_0_3, .int .i64 a1_1_0, .int .i64 a1_1_1, .int .i64 a1_1_2, .int .i64 a1_1_3], .int .i64 a2] W fun e w' => e = .returned (.bool true) ∧ Below W.heap.size W w' :=
  dioramalaw20_CodeAdds.calls 70 a0_0 a0_1 a1_0_0 a1_0_1 a1_0_2 a1_0_3 a1_1_0 a1_1_1 a1_1_2 a1_1_3 a2 true W (pure a0_0 a0_1 a1_0_0 a1_0_1 a1_0_2 a1_0_3 a1_1_0 a1_1_1 a1_1_2 a1_1_3 a2) rfl
end Go.Proofs.Ytndbhfbgigefnaa.LCodeAdds
