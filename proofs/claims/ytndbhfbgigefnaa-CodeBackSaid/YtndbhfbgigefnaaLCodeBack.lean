/- The law CodeBack, walked: a code's number and its text give the code, and a number's code the number.
   Conditions: none. -/
import Derived.Test.YtndbhfbgigefnaaPAx54
import Derived.Test.YtndbhfbgigefnaaMf
import Derived.Test.YtndbhfbgigefnaaMe
namespace Go.Proofs.Ytndbhfbgigefnaa.LCodeBack
open Go.RowKit Go.Proofs.Ytndbhfbgigefnaa.PA Go.Proofs.Ytndbhfbgigefnaa.Ma Go.Proofs.Ytndbhfbgigefnaa.Mb Go.Proofs.Ytndbhfbgigefnaa.Mc Go.Proofs.Ytndbhfbgigefnaa.Md Go.Proofs.Ytndbhfbgigefnaa.Me Go.Proofs.Ytndbhfbgigefnaa.Mf
set_option linter.unusedVariables false
theorem behind (F : Int) (D : Bool) (n : Int) : dioramalaw20_CodeBack.j0 100 n F D = some true := by
  simp only [dioramalaw20_CodeBack.j0]
  rcases place_of (F := F) (D := D) n with h | ⟨ho, T, y, hT, rfl, hm, hy⟩
  · rw [Code_bad n h]
    simp only [Option.bind_some]
    rw [if_neg (by decide), awake_eq (by omega)]; rfl
  · rw [Code_good ho hT hm hy]
    simp only [Option.bind_some, if_true]
    rw [Count_good ho hT hm hy]
    simp only [Option.bind_some, if_true]
    rw [awake_eq (by omega)]; rfl
theorem pure (F : Int) (D : Bool) (h m s f n : Int) : dioramalaw20_CodeBack.f 100 F D h m s f n = some true := by
  unfold dioramalaw20_CodeBack.f
  rcases code_cases F D h m s f with he | ⟨ho, he, T, y, hp, e⟩
  · rw [Count_bad rfl he]
    simp only [Option.bind_some]
    rw [if_neg (show ¬ (if ok F D = true then right F D h m s f else 1) = 0 from he)]
    exact behind F D n
  · have hG := Count_good ho hp.1 hp.2.1 hp.2.2 99
    rw [← e] at hG
    have hG' : code_Count.f 100 F D h m s f = some (pre (60 * F) (dv F D) T + (y - ms (dv F D) T), 0) := hG
    have hC := Code_good ho hp.1 hp.2.1 hp.2.2
    rw [← e] at hC
    have hC' : code_Code.f F D (pre (60 * F) (dv F D) T + (y - ms (dv F D) T)) = some (h, m, s, f, 0) := hC
    obtain ⟨h1, h2, h3⟩ := ok_iff.1 ho
    have hd := dv_bd ho
    have hms := ms_bd hd.1 T
    obtain ⟨hT, hm, hy⟩ := hp
    obtain ⟨_, _, b0, b1, b2, b3⟩ := split_eq (T := T) h1 (by omega) hy
    have e' := e
    simp only [cod, Prod.mk.injEq] at e'
    obtain ⟨e1, e2, e3, e4⟩ := e'
    rw [hG']
    simp only [Option.bind_some, if_true]
    rw [hC', Format_eq, if_pos he]
    simp only [Option.bind_some]
    rw [Parse_eq F D _ 65, parse_txt he (by omega) (by omega) (by omega) (by omega) ho]
    simp only [Option.bind_some, if_true, beq_self_eq_true, Bool.not_true, Bool.or_self, Bool.false_eq_true, if_false]
    exact behind F D n
theorem walk (a0_0 : Int) (a0_1 : Bool) (a1_0 a1_1 a1_2 a1_3 a2 : Int) (W : World) (w0_0 : (Lit.int .i64 a0_0).wf = true) (w1_0 : (Lit.int .i64 a1_0).wf = true) (w1_1 : (Lit.int .i64 a1_1).wf = true) (w1_2 : (Lit.int .i64 a1_2).wf = true) (w1_3 : (Lit.int .i64 a1_3).wf = true) (w2 : (Lit.int .i64 a2).wf = true) :
    Calls Try.prog 10 #[.agg #[.int .i64 a0_0, .bool a0_1], .agg #[.int .i64 a1_0, .int .i64 a1_1, .int .i64 a1_2, .int .i64 a1_3], .int .i64 a2] W fun e w' => e = .returned (.bool true) ∧ Below W.heap.size W w' :=
  dioramalaw20_CodeBack.calls 100 a0_0 a0_1 a1_0 a1_1 a1_2 a1_3 a2 true W (pure a0_0 a0_1 a1_0 a1_1 a1_2 a1_3 a2) rfl
end Go.Proofs.Ytndbhfbgigefnaa.LCodeBack
