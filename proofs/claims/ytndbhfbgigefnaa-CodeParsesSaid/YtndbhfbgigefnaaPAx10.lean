-- PRINTED by print.py (a twelfth state) out of the translation. Not trusted: Lean checks it.
import Derived.Test.YtndbhfbgigefnaaPAx0
import Derived.Test.YtndbhfbgigefnaaPAx7
import Derived.Test.YtndbhfbgigefnaaPAx8
namespace Go.Proofs.Ytndbhfbgigefnaa.PA
open Go.RowKit Go.Proofs.YtndbhfbgigefnaaW.PrintWords Go.Proofs.YtndbhfbgigefnaaW.PrintLast Go.Proofs.YtndbhfbgigefnaaW.PrintMore
attribute [local go_sem] max2_int min2_int max_two min_two max_three min_three max_four min_four   -- for this text's walks alone
set_option linter.unusedVariables false
set_option linter.unusedSimpArgs false

/-! ### code_steps_code: function 38 -/
def code_steps_code.f (a0_0 : Int) (a0_1 : Bool) (a1 : Int) : Option (Int × Int × Int × Int) := (code_steps_ten.f a0_0 a0_1).bind fun t110 => (if t110 = 0 then (none) else ((code_steps_ten.f a0_0 a0_1).bind fun t111 => (if t111 = 0 then (none) else ((code_steps_dropped.f a0_0 a0_1).bind fun t112 => ((code_steps_dropped.f a0_0 a0_1).bind fun t113 => (if (Int.tmod a1 t111) ≥ (wrap64 (60 * a0_0)) then ((code_steps_dropped.f a0_0 a0_1).bind fun t114 => (if (wrap64 ((wrap64 (60 * a0_0)) - t112)) = 0 then (none) else (if a0_0 = 0 then (none) else (some (wrap64 (Int.tdiv (wrap64 (Int.tdiv (wrap64 ((wrap64 (a1 + (wrap64 ((wrap64 ((wrap64 (Int.tdiv a1 t110)) * 9)) * t113)))) + (wrap64 (t114 * (wrap64 (1 + (wrap64 (Int.tdiv (wrap64 ((Int.tmod a1 t111) - (wrap64 (60 * a0_0)))) (wrap64 ((wrap64 (60 * a0_0)) - t112)))))))))) a0_0)) 3600), Int.tmod (wrap64 (Int.tdiv (wrap64 (Int.tdiv (wrap64 ((wrap64 (a1 + (wrap64 ((wrap64 ((wrap64 (Int.tdiv a1 t110)) * 9)) * t113)))) + (wrap64 (t114 * (wrap64 (1 + (wrap64 (Int.tdiv (wrap64 ((Int.tmod a1 t111) - (wrap64 (60 * a0_0)))) (wrap64 ((wrap64 (60 * a0_0)) - t112)))))))))) a0_0)) 60)) 60, Int.tmod (wrap64 (Int.tdiv (wrap64 ((wrap64 (a1 + (wrap64 ((wrap64 ((wrap64 (Int.tdiv a1 t110)) * 9)) * t113)))) + (wrap64 (t114 * (wrap64 (1 + (wrap64 (Int.tdiv (wrap64 ((Int.tmod a1 t111) - (wrap64 (60 * a0_0)))) (wrap64 ((wrap64 (60 * a0_0)) - t112)))))))))) a0_0)) 60, Int.tmod (wrap64 ((wrap64 (a1 + (wrap64 ((wrap64 ((wrap64 (Int.tdiv a1 t110)) * 9)) * t113)))) + (wrap64 (t114 * (wrap64 (1 + (wrap64 (Int.tdiv (wrap64 ((Int.tmod a1 t111) - (wrap64 (60 * a0_0)))) (wrap64 ((wrap64 (60 * a0_0)) - t112)))))))))) a0_0))))) else (if a0_0 = 0 then (none) else (some (wrap64 (Int.tdiv (wrap64 (Int.tdiv (wrap64 (a1 + (wrap64 ((wrap64 ((wrap64 (Int.tdiv a1 t110)) * 9)) * t113)))) a0_0)) 3600), Int.tmod (wrap64 (Int.tdiv (wrap64 (Int.tdiv (wrap64 (a1 + (wrap64 ((wrap64 ((wrap64 (Int.tdiv a1 t110)) * 9)) * t113)))) a0_0)) 60)) 60, Int.tmod (wrap64 (Int.tdiv (wrap64 (a1 + (wrap64 ((wrap64 ((wrap64 (Int.tdiv a1 t110)) * 9)) * t113)))) a0_0)) 60, Int.tmod (wrap64 (a1 + (wrap64 ((wrap64 ((wrap64 (Int.tdiv a1 t110)) * 9)) * t113)))) a0_0)))))))))
def code_steps_code.T1 : Bool × List (List Nat × List Nat) := (true, [([], []), ([], []), ([1], [1]), ([0, 2], [0, 2]), ([], []), ([], []), ([5, 2], [5]), ([4, 6], [4, 6]), ([3, 6, 0, 1, 2, 3], [3]), ([7, 8, 0, 1, 2, 3, 4, 5, 6, 7, 8], [7])])
def code_steps_code.B1 : List Nat := [0, 0, 2, 7, 0, 0, 38, 118, 111, 511]
theorem code_steps_code.tab1 : rtab .any (opsOf Try.f38 1) = code_steps_code.T1 := by kernel_rfl
theorem code_steps_code.bits1 : waitsOk code_steps_code.T1.2 code_steps_code.B1 = true := by kernel_rfl
def code_steps_code.T2 : Bool × List (List Nat × List Nat) := (true, [([], []), ([0], [0]), ([1], [1]), ([2], [2]), ([], []), ([4], [4]), ([3, 5], [3, 5]), ([6, 5, 0, 1, 2, 3, 4, 5, 6], [6])])
def code_steps_code.B2 : List Nat := [0, 1, 3, 7, 0, 16, 63, 127]
theorem code_steps_code.tab2 : rtab .any (opsOf Try.f38 2) = code_steps_code.T2 := by kernel_rfl
theorem code_steps_code.bits2 : waitsOk code_steps_code.T2.2 code_steps_code.B2 = true := by kernel_rfl
def code_steps_code.T6 : Bool × List (List Nat × List Nat) := (true, [([], []), ([], []), ([1], [1]), ([], []), ([], []), ([3, 4], [3, 4]), ([], []), ([5, 6], [5, 6]), ([7], [7]), ([2, 8], [2, 8]), ([0, 9], [0, 9]), ([10, 2, 0, 1, 2, 3, 4, 5, 6, 7, 8, 9, 10], [0, 10])])
def code_steps_code.B6 : List Nat := [0, 0, 2, 0, 0, 24, 0, 120, 248, 510, 1023, 2047]
theorem code_steps_code.tab6 : rtab .any (opsOf Try.f38 6) = code_steps_code.T6 := by kernel_rfl
theorem code_steps_code.bits6 : waitsOk code_steps_code.T6.2 code_steps_code.B6 = true := by kernel_rfl
set_option maxHeartbeats 8000000 in
set_option maxRecDepth 100000 in
theorem code_steps_code.calls (a0_0 : Int) (a0_1 : Bool) (a1 : Int) (r1 : Int) (r2 : Int) (r3 : Int) (r4 : Int) (w : World) (h : code_steps_code.f a0_0 a0_1 a1 = some (r1, r2, r3, r4)) :
    Calls Try.prog 38 #[.agg #[.int .i64 a0_0, .bool a0_1], .int .i64 a1] w fun e w' => e = .returned (.agg #[.int .i64 r1, .int .i64 r2, .int .i64 r3, .int .i64 r4]) ∧ Below w.heap.size w w' := by
  have hu66 := Try.underlying66
  have hu25 := Try.underlying25
  have HB := Aside0.mk (Below.refl w.heap.size w)
  have H : ((code_steps_ten.f a0_0 a0_1).bind fun t110 => (if t110 = 0 then (none) else ((code_steps_ten.f a0_0 a0_1).bind fun t111 => (if t111 = 0 then (none) else ((code_steps_dropped.f a0_0 a0_1).bind fun t112 => ((code_steps_dropped.f a0_0 a0_1).bind fun t113 => (if (Int.tmod a1 t111) ≥ (wrap64 (60 * a0_0)) then ((code_steps_dropped.f a0_0 a0_1).bind fun t114 => (if (wrap64 ((wrap64 (60 * a0_0)) - t112)) = 0 then (none) else (if a0_0 = 0 then (none) else (some (wrap64 (Int.tdiv (wrap64 (Int.tdiv (wrap64 ((wrap64 (a1 + (wrap64 ((wrap64 ((wrap64 (Int.tdiv a1 t110)) * 9)) * t113)))) + (wrap64 (t114 * (wrap64 (1 + (wrap64 (Int.tdiv (wrap64 ((Int.tmod a1 t111) - (wrap64 (60 * a0_0)))) (wrap64 ((wrap64 (60 * a0_0)) - t112)))))))))) a0_0)) 3600), Int.tmod (wrap64 (Int.tdiv (wrap64 (Int.tdiv (wrap64 ((wrap64 (a1 + (wrap64 ((wrap64 ((wrap64 (Int.tdiv a1 t110)) * 9)) * t113)))) + (wrap64 (t114 * (wrap64 (1 + (wrap64 (Int.tdiv (wrap64 ((Int.tmod a1 t111) - (wrap64 (60 * a0_0)))) (wrap64 ((wrap64 (60 * a0_0)) - t112)))))))))) a0_0)) 60)) 60, Int.tmod (wrap64 (Int.tdiv (wrap64 ((wrap64 (a1 + (wrap64 ((wrap64 ((wrap64 (Int.tdiv a1 t110)) * 9)) * t113)))) + (wrap64 (t114 * (wrap64 (1 + (wrap64 (Int.tdiv (wrap64 ((Int.tmod a1 t111) - (wrap64 (60 * a0_0)))) (wrap64 ((wrap64 (60 * a0_0)) - t112)))))))))) a0_0)) 60, Int.tmod (wrap64 ((wrap64 (a1 + (wrap64 ((wrap64 ((wrap64 (Int.tdiv a1 t110)) * 9)) * t113)))) + (wrap64 (t114 * (wrap64 (1 + (wrap64 (Int.tdiv (wrap64 ((Int.tmod a1 t111) - (wrap64 (60 * a0_0)))) (wrap64 ((wrap64 (60 * a0_0)) - t112)))))))))) a0_0))))) else (if a0_0 = 0 then (none) else (some (wrap64 (Int.tdiv (wrap64 (Int.tdiv (wrap64 (a1 + (wrap64 ((wrap64 ((wrap64 (Int.tdiv a1 t110)) * 9)) * t113)))) a0_0)) 3600), Int.tmod (wrap64 (Int.tdiv (wrap64 (Int.tdiv (wrap64 (a1 + (wrap64 ((wrap64 ((wrap64 (Int.tdiv a1 t110)) * 9)) * t113)))) a0_0)) 60)) 60, Int.tmod (wrap64 (Int.tdiv (wrap64 (a1 + (wrap64 ((wrap64 ((wrap64 (Int.tdiv a1 t110)) * 9)) * t113)))) a0_0)) 60, Int.tmod (wrap64 (a1 + (wrap64 ((wrap64 ((wrap64 (Int.tdiv a1 t110)) * 9)) * t113)))) a0_0)))))))))) = some (r1, r2, r3, r4) := h
  clear h
  replace H := Option.bind_eq_some_iff.mp H
  obtain ⟨t110, A30, H⟩ := H
  replace H : (if t110 = 0 then (none) else ((code_steps_ten.f a0_0 a0_1).bind fun t111 => (if t111 = 0 then (none) else ((code_steps_dropped.f a0_0 a0_1).bind fun t112 => ((code_steps_dropped.f a0_0 a0_1).bind fun t113 => (if (Int.tmod a1 t111) ≥ (wrap64 (60 * a0_0)) then ((code_steps_dropped.f a0_0 a0_1).bind fun t114 => (if (wrap64 ((wrap64 (60 * a0_0)) - t112)) = 0 then (none) else (if a0_0 = 0 then (none) else (some (wrap64 (Int.tdiv (wrap64 (Int.tdiv (wrap64 ((wrap64 (a1 + (wrap64 ((wrap64 ((wrap64 (Int.tdiv a1 t110)) * 9)) * t113)))) + (wrap64 (t114 * (wrap64 (1 + (wrap64 (Int.tdiv (wrap64 ((Int.tmod a1 t111) - (wrap64 (60 * a0_0)))) (wrap64 ((wrap64 (60 * a0_0)) - t112)))))))))) a0_0)) 3600), Int.tmod (wrap64 (Int.tdiv (wrap64 (Int.tdiv (wrap64 ((wrap64 (a1 + (wrap64 ((wrap64 ((wrap64 (Int.tdiv a1 t110)) * 9)) * t113)))) + (wrap64 (t114 * (wrap64 (1 + (wrap64 (Int.tdiv (wrap64 ((Int.tmod a1 t111) - (wrap64 (60 * a0_0)))) (wrap64 ((wrap64 (60 * a0_0)) - t112)))))))))) a0_0)) 60)) 60, Int.tmod (wrap64 (Int.tdiv (wrap64 ((wrap64 (a1 + (wrap64 ((wrap64 ((wrap64 (Int.tdiv a1 t110)) * 9)) * t113)))) + (wrap64 (t114 * (wrap64 (1 + (wrap64 (Int.tdiv (wrap64 ((Int.tmod a1 t111) - (wrap64 (60 * a0_0)))) (wrap64 ((wrap64 (60 * a0_0)) - t112)))))))))) a0_0)) 60, Int.tmod (wrap64 ((wrap64 (a1 + (wrap64 ((wrap64 ((wrap64 (Int.tdiv a1 t110)) * 9)) * t113)))) + (wrap64 (t114 * (wrap64 (1 + (wrap64 (Int.tdiv (wrap64 ((Int.tmod a1 t111) - (wrap64 (60 * a0_0)))) (wrap64 ((wrap64 (60 * a0_0)) - t112)))))))))) a0_0))))) else (if a0_0 = 0 then (none) else (some (wrap64 (Int.tdiv (wrap64 (Int.tdiv (wrap64 (a1 + (wrap64 ((wrap64 ((wrap64 (Int.tdiv a1 t110)) * 9)) * t113)))) a0_0)) 3600), Int.tmod (wrap64 (Int.tdiv (wrap64 (Int.tdiv (wrap64 (a1 + (wrap64 ((wrap64 ((wrap64 (Int.tdiv a1 t110)) * 9)) * t113)))) a0_0)) 60)) 60, Int.tmod (wrap64 (Int.tdiv (wrap64 (a1 + (wrap64 ((wrap64 ((wrap64 (Int.tdiv a1 t110)) * 9)) * t113)))) a0_0)) 60, Int.tmod (wrap64 (a1 + (wrap64 ((wrap64 ((wrap64 (Int.tdiv a1 t110)) * 9)) * t113)))) a0_0))))))))) = some (r1, r2, r3, r4) := H
  have A3 := Aside0.mk A30
  clear A30
  by_cases c4 : t110 = 0
  · rw [if_pos c4] at H
    exact absurd H (by simp)
  · rw [if_neg c4] at H
    have c4b0 : (t110 == 0) = false := beq_eq_false_iff_ne.mpr c4
    have c4b1 : (t110 != 0) = true := bne_iff_ne.mpr c4
    replace H := Option.bind_eq_some_iff.mp H
    obtain ⟨t111, A50, H⟩ := H
    replace H : (if t111 = 0 then (none) else ((code_steps_dropped.f a0_0 a0_1).bind fun t112 => ((code_steps_dropped.f a0_0 a0_1).bind fun t113 => (if (Int.tmod a1 t111) ≥ (wrap64 (60 * a0_0)) then ((code_steps_dropped.f a0_0 a0_1).bind fun t114 => (if (wrap64 ((wrap64 (60 * a0_0)) - t112)) = 0 then (none) else (if a0_0 = 0 then (none) else (some (wrap64 (Int.tdiv (wrap64 (Int.tdiv (wrap64 ((wrap64 (a1 + (wrap64 ((wrap64 ((wrap64 (Int.tdiv a1 t110)) * 9)) * t113)))) + (wrap64 (t114 * (wrap64 (1 + (wrap64 (Int.tdiv (wrap64 ((Int.tmod a1 t111) - (wrap64 (60 * a0_0)))) (wrap64 ((wrap64 (60 * a0_0)) - t112)))))))))) a0_0)) 3600), Int.tmod (wrap64 (Int.tdiv (wrap64 (Int.tdiv (wrap64 ((wrap64 (a1 + (wrap64 ((wrap64 ((wrap64 (Int.tdiv a1 t110)) * 9)) * t113)))) + (wrap64 (t114 * (wrap64 (1 + (wrap64 (Int.tdiv (wrap64 ((Int.tmod a1 t111) - (wrap64 (60 * a0_0)))) (wrap64 ((wrap64 (60 * a0_0)) - t112)))))))))) a0_0)) 60)) 60, Int.tmod (wrap64 (Int.tdiv (wrap64 ((wrap64 (a1 + (wrap64 ((wrap64 ((wrap64 (Int.tdiv a1 t110)) * 9)) * t113)))) + (wrap64 (t114 * (wrap64 (1 + (wrap64 (Int.tdiv (wrap64 ((Int.tmod a1 t111) - (wrap64 (60 * a0_0)))) (wrap64 ((wrap64 (60 * a0_0)) - t112)))))))))) a0_0)) 60, Int.tmod (wrap64 ((wrap64 (a1 + (wrap64 ((wrap64 ((wrap64 (Int.tdiv a1 t110)) * 9)) * t113)))) + (wrap64 (t114 * (wrap64 (1 + (wrap64 (Int.tdiv (wrap64 ((Int.tmod a1 t111) - (wrap64 (60 * a0_0)))) (wrap64 ((wrap64 (60 * a0_0)) - t112)))))))))) a0_0))))) else (if a0_0 = 0 then (none) else (some (wrap64 (Int.tdiv (wrap64 (Int.tdiv (wrap64 (a1 + (wrap64 ((wrap64 ((wrap64 (Int.tdiv a1 t110)) * 9)) * t113)))) a0_0)) 3600), Int.tmod (wrap64 (Int.tdiv (wrap64 (Int.tdiv (wrap64 (a1 + (wrap64 ((wrap64 ((wrap64 (Int.tdiv a1 t110)) * 9)) * t113)))) a0_0)) 60)) 60, Int.tmod (wrap64 (Int.tdiv (wrap64 (a1 + (wrap64 ((wrap64 ((wrap64 (Int.tdiv a1 t110)) * 9)) * t113)))) a0_0)) 60, Int.tmod (wrap64 (a1 + (wrap64 ((wrap64 ((wrap64 (Int.tdiv a1 t110)) * 9)) * t113)))) a0_0))))))) = some (r1, r2, r3, r4) := H
    have A5 := Aside0.mk A50
    clear A50
    by_cases c6 : t111 = 0
    · rw [if_pos c6] at H
      exact absurd H (by simp)
    · rw [if_neg c6] at H
      have c6b0 : (t111 == 0) = false := beq_eq_false_iff_ne.mpr c6
      have c6b1 : (t111 != 0) = true := bne_iff_ne.mpr c6
      replace H := Option.bind_eq_some_iff.mp H
      obtain ⟨t112, A70, H⟩ := H
      replace H : ((code_steps_dropped.f a0_0 a0_1).bind fun t113 => (if (Int.tmod a1 t111) ≥ (wrap64 (60 * a0_0)) then ((code_steps_dropped.f a0_0 a0_1).bind fun t114 => (if (wrap64 ((wrap64 (60 * a0_0)) - t112)) = 0 then (none) else (if a0_0 = 0 then (none) else (some (wrap64 (Int.tdiv (wrap64 (Int.tdiv (wrap64 ((wrap64 (a1 + (wrap64 ((wrap64 ((wrap64 (Int.tdiv a1 t110)) * 9)) * t113)))) + (wrap64 (t114 * (wrap64 (1 + (wrap64 (Int.tdiv (wrap64 ((Int.tmod a1 t111) - (wrap64 (60 * a0_0)))) (wrap64 ((wrap64 (60 * a0_0)) - t112)))))))))) a0_0)) 3600), Int.tmod (wrap64 (Int.tdiv (wrap64 (Int.tdiv (wrap64 ((wrap64 (a1 + (wrap64 ((wrap64 ((wrap64 (Int.tdiv a1 t110)) * 9)) * t113)))) + (wrap64 (t114 * (wrap64 (1 + (wrap64 (Int.tdiv (wrap64 ((Int.tmod a1 t111) - (wrap64 (60 * a0_0)))) (wrap64 ((wrap64 (60 * a0_0)) - t112)))))))))) a0_0)) 60)) 60, Int.tmod (wrap64 (Int.tdiv (wrap64 ((wrap64 (a1 + (wrap64 ((wrap64 ((wrap64 (Int.tdiv a1 t110)) * 9)) * t113)))) + (wrap64 (t114 * (wrap64 (1 + (wrap64 (Int.tdiv (wrap64 ((Int.tmod a1 t111) - (wrap64 (60 * a0_0)))) (wrap64 ((wrap64 (60 * a0_0)) - t112)))))))))) a0_0)) 60, Int.tmod (wrap64 ((wrap64 (a1 + (wrap64 ((wrap64 ((wrap64 (Int.tdiv a1 t110)) * 9)) * t113)))) + (wrap64 (t114 * (wrap64 (1 + (wrap64 (Int.tdiv (wrap64 ((Int.tmod a1 t111) - (wrap64 (60 * a0_0)))) (wrap64 ((wrap64 (60 * a0_0)) - t112)))))))))) a0_0))))) else (if a0_0 = 0 then (none) else (some (wrap64 (Int.tdiv (wrap64 (Int.tdiv (wrap64 (a1 + (wrap64 ((wrap64 ((wrap64 (Int.tdiv a1 t110)) * 9)) * t113)))) a0_0)) 3600), Int.tmod (wrap64 (Int.tdiv (wrap64 (Int.tdiv (wrap64 (a1 + (wrap64 ((wrap64 ((wrap64 (Int.tdiv a1 t110)) * 9)) * t113)))) a0_0)) 60)) 60, Int.tmod (wrap64 (Int.tdiv (wrap64 (a1 + (wrap64 ((wrap64 ((wrap64 (Int.tdiv a1 t110)) * 9)) * t113)))) a0_0)) 60, Int.tmod (wrap64 (a1 + (wrap64 ((wrap64 ((wrap64 (Int.tdiv a1 t110)) * 9)) * t113)))) a0_0))))) = some (r1, r2, r3, r4) := H
      have A7 := Aside0.mk A70
      clear A70
      replace H := Option.bind_eq_some_iff.mp H
      obtain ⟨t113, A80, H⟩ := H
      replace H : (if (Int.tmod a1 t111) ≥ (wrap64 (60 * a0_0)) then ((code_steps_dropped.f a0_0 a0_1).bind fun t114 => (if (wrap64 ((wrap64 (60 * a0_0)) - t112)) = 0 then (none) else (if a0_0 = 0 then (none) else (some (wrap64 (Int.tdiv (wrap64 (Int.tdiv (wrap64 ((wrap64 (a1 + (wrap64 ((wrap64 ((wrap64 (Int.tdiv a1 t110)) * 9)) * t113)))) + (wrap64 (t114 * (wrap64 (1 + (wrap64 (Int.tdiv (wrap64 ((Int.tmod a1 t111) - (wrap64 (60 * a0_0)))) (wrap64 ((wrap64 (60 * a0_0)) - t112)))))))))) a0_0)) 3600), Int.tmod (wrap64 (Int.tdiv (wrap64 (Int.tdiv (wrap64 ((wrap64 (a1 + (wrap64 ((wrap64 ((wrap64 (Int.tdiv a1 t110)) * 9)) * t113)))) + (wrap64 (t114 * (wrap64 (1 + (wrap64 (Int.tdiv (wrap64 ((Int.tmod a1 t111) - (wrap64 (60 * a0_0)))) (wrap64 ((wrap64 (60 * a0_0)) - t112)))))))))) a0_0)) 60)) 60, Int.tmod (wrap64 (Int.tdiv (wrap64 ((wrap64 (a1 + (wrap64 ((wrap64 ((wrap64 (Int.tdiv a1 t110)) * 9)) * t113)))) + (wrap64 (t114 * (wrap64 (1 + (wrap64 (Int.tdiv (wrap64 ((Int.tmod a1 t111) - (wrap64 (60 * a0_0)))) (wrap64 ((wrap64 (60 * a0_0)) - t112)))))))))) a0_0)) 60, Int.tmod (wrap64 ((wrap64 (a1 + (wrap64 ((wrap64 ((wrap64 (Int.tdiv a1 t110)) * 9)) * t113)))) + (wrap64 (t114 * (wrap64 (1 + (wrap64 (Int.tdiv (wrap64 ((Int.tmod a1 t111) - (wrap64 (60 * a0_0)))) (wrap64 ((wrap64 (60 * a0_0)) - t112)))))))))) a0_0))))) else (if a0_0 = 0 then (none) else (some (wrap64 (Int.tdiv (wrap64 (Int.tdiv (wrap64 (a1 + (wrap64 ((wrap64 ((wrap64 (Int.tdiv a1 t110)) * 9)) * t113)))) a0_0)) 3600), Int.tmod (wrap64 (Int.tdiv (wrap64 (Int.tdiv (wrap64 (a1 + (wrap64 ((wrap64 ((wrap64 (Int.tdiv a1 t110)) * 9)) * t113)))) a0_0)) 60)) 60, Int.tmod (wrap64 (Int.tdiv (wrap64 (a1 + (wrap64 ((wrap64 ((wrap64 (Int.tdiv a1 t110)) * 9)) * t113)))) a0_0)) 60, Int.tmod (wrap64 (a1 + (wrap64 ((wrap64 ((wrap64 (Int.tdiv a1 t110)) * 9)) * t113)))) a0_0)))) = some (r1, r2, r3, r4) := H
      have A8 := Aside0.mk A80
      clear A80
      by_cases c9 : (Int.tmod a1 t111) ≥ (wrap64 (60 * a0_0))
      · rw [if_pos c9] at H
        have c9b0 : decide ((wrap64 (60 * a0_0)) ≤ (Int.tmod a1 t111)) = true := decide_eq_true c9
        clear c9
        replace H := Option.bind_eq_some_iff.mp H
        obtain ⟨t114, A100, H⟩ := H
        replace H : (if (wrap64 ((wrap64 (60 * a0_0)) - t112)) = 0 then (none) else (if a0_0 = 0 then (none) else (some (wrap64 (Int.tdiv (wrap64 (Int.tdiv (wrap64 ((wrap64 (a1 + (wrap64 ((wrap64 ((wrap64 (Int.tdiv a1 t110)) * 9)) * t113)))) + (wrap64 (t114 * (wrap64 (1 + (wrap64 (Int.tdiv (wrap64 ((Int.tmod a1 t111) - (wrap64 (60 * a0_0)))) (wrap64 ((wrap64 (60 * a0_0)) - t112)))))))))) a0_0)) 3600), Int.tmod (wrap64 (Int.tdiv (wrap64 (Int.tdiv (wrap64 ((wrap64 (a1 + (wrap64 ((wrap64 ((wrap64 (Int.tdiv a1 t110)) * 9)) * t113)))) + (wrap64 (t114 * (wrap64 (1 + (wrap64 (Int.tdiv (wrap64 ((Int.tmod a1 t111) - (wrap64 (60 * a0_0)))) (wrap64 ((wrap64 (60 * a0_0)) - t112)))))))))) a0_0)) 60)) 60, Int.tmod (wrap64 (Int.tdiv (wrap64 ((wrap64 (a1 + (wrap64 ((wrap64 ((wrap64 (Int.tdiv a1 t110)) * 9)) * t113)))) + (wrap64 (t114 * (wrap64 (1 + (wrap64 (Int.tdiv (wrap64 ((Int.tmod a1 t111) - (wrap64 (60 * a0_0)))) (wrap64 ((wrap64 (60 * a0_0)) - t112)))))))))) a0_0)) 60, Int.tmod (wrap64 ((wrap64 (a1 + (wrap64 ((wrap64 ((wrap64 (Int.tdiv a1 t110)) * 9)) * t113)))) + (wrap64 (t114 * (wrap64 (1 + (wrap64 (Int.tdiv (wrap64 ((Int.tmod a1 t111) - (wrap64 (60 * a0_0)))) (wrap64 ((wrap64 (60 * a0_0)) - t112)))))))))) a0_0)))) = some (r1, r2, r3, r4) := H
        have A10 := Aside0.mk A100
        clear A100
        by_cases c11 : (wrap64 ((wrap64 (60 * a0_0)) - t112)) = 0
        · rw [if_pos c11] at H
          exact absurd H (by simp)
        · rw [if_neg c11] at H
          have c11b0 : ((wrap64 ((wrap64 (60 * a0_0)) - t112)) == 0) = false := beq_eq_false_iff_ne.mpr c11
          have c11b1 : ((wrap64 ((wrap64 (60 * a0_0)) - t112)) != 0) = true := bne_iff_ne.mpr c11
          by_cases c12 : a0_0 = 0
          · rw [if_pos c12] at H
            exact absurd H (by simp)
          · rw [if_neg c12] at H
            have c12b0 : (a0_0 == 0) = false := beq_eq_false_iff_ne.mpr c12
            have c12b1 : (a0_0 != 0) = true := bne_iff_ne.mpr c12
            simp only [Option.some.injEq, Prod.mk.injEq] at H
            obtain ⟨rfl, rfl, rfl, rfl⟩ := H
            go_enter Try.func38, Try.ntmps38
            try go_wp2_with (first | ((with_reducible refine gate_dst (N := 2) rfl ?_); refine box_event ?hg (N := 2) ?hd (cs := #[.int .i64 a0_0, .bool a0_1]) (t := 66) ?hr ?_; (case hd => rfl); (case hg => rfl); (case hr => first | (go_simp; done) | (go_simp; rfl)); intro gb108 hg w13 hbox hb; have n0_ := Aside0.mk (below_step (by repeat (first | (with_reducible first | exact HB.out | apply below_alloc | apply pw_below_drewN | apply below_drew1) | exact HB.out)) hb); have n1_ := Aside0.mk (hbox); have n2_ := Aside0.mk ((by rw [hg]; exact (below_size (by repeat (first | (with_reducible first | exact HB.out | apply below_alloc | apply pw_below_drewN | apply below_drew1) | exact HB.out))) : w.heap.size ≤ gb108)); have n3_ := Aside0.mk ((by rw [hg]; exact (below_size (by repeat (first | (with_reducible first | exact HB.out | apply below_alloc | apply pw_below_drewN | apply below_drew1) | exact HB.out))) : w.heap.size ≤ gb108)); clear HB; have HB := n0_; have BK108 := n1_; have GW108 := n2_; have GE108 := n3_; clear n0_ n1_ n2_ n3_; clear hb hbox hg) | ((with_reducible refine gate_dst (N := 4) rfl ?_); refine box_event ?hg (N := 4) ?hd (cs := #[.int .i64 0, .int .i64 0, .int .i64 0, .int .i64 0]) (t := 25) ?hr ?_; (case hd => rfl); (case hg => rfl); (case hr => first | (go_simp; done) | (go_simp; rfl)); intro gb109 hg w14 hbox hb; have n0_ := Aside0.mk (blk_below (g := gb108) (o := .cells #[.int .i64 a0_0, .bool a0_1] 66 (0, 0)) (by (with_reducible repeat (first | refine blk_drewN ?_ _ | refine blk_drew ?_ | refine blk_alloc ?_ _)); exact BK108.out) hb); have n1_ := Aside0.mk (below_step (by repeat (first | (with_reducible first | exact HB.out | apply below_alloc | apply pw_below_drewN | apply below_drew1 | refine below_set ?_ GE108.out) | exact HB.out)) hb); have n2_ := Aside0.mk (hbox); have n3_ := Aside0.mk ((by rw [hg]; exact (below_size (by repeat (first | (with_reducible first | exact HB.out | apply below_alloc | apply pw_below_drewN | apply below_drew1 | refine below_set ?_ GE108.out) | exact HB.out))) : w.heap.size ≤ gb109)); have n4_ := Aside0.mk ((by rw [hg]; exact (below_size (by repeat (first | (with_reducible first | exact HB.out | apply below_alloc | apply pw_below_drewN | apply below_drew1 | refine below_set ?_ GE108.out) | exact HB.out))) : w.heap.size ≤ gb109)); have n5_ := Aside0.mk ((by rw [hg]; exact Nat.ne_of_lt (blk_lt (g := gb108) (o := .cells #[.int .i64 a0_0, .bool a0_1] 66 (0, 0)) (by (with_reducible repeat (first | refine blk_drewN ?_ _ | refine blk_drew ?_ | refine blk_alloc ?_ _)); exact BK108.out)) : gb108 ≠ gb109)); have n6_ := Aside0.mk ((by rw [hg]; exact Nat.ne_of_gt (blk_lt (g := gb108) (o := .cells #[.int .i64 a0_0, .bool a0_1] 66 (0, 0)) (by (with_reducible repeat (first | refine blk_drewN ?_ _ | refine blk_drew ?_ | refine blk_alloc ?_ _)); exact BK108.out)) : gb109 ≠ gb108)); clear BK108; clear HB; have BK108 := n0_; have HB := n1_; have BK109 := n2_; have GW109 := n3_; have GE109 := n4_; have NB108_109 := n5_; have NB109_108 := n6_; clear n0_ n1_ n2_ n3_ n4_ n5_ n6_; clear hb hbox hg))
            have n0_ := Aside0.mk (blk_drew BK108.out)
            have n1_ := Aside0.mk (blk_drew BK109.out)
            have n2_ := Aside0.mk (below_drew1 HB.out)
            clear BK108
            clear BK109
            clear HB
            have BK108 := n0_
            have BK109 := n1_
            have HB := n2_
            clear n0_ n1_ n2_
            refine start_ (n := 10) (S := fun w' => w'.cell? ⟨gb108, 0, none⟩ = some (.int .i64 a0_0) ∧ w'.cell? ⟨gb108, 1, none⟩ = some (.bool a0_1)) (ds := []) #[false, false, false, false, false, false, false, false, false, false] (by kernel_rfl) rfl rfl ⟨(blk_cell BK108.out 0).trans rfl, (blk_cell BK108.out 1).trans rfl⟩ (fun hHeld => ?_); refine with_tabW code_steps_code.tab1 code_steps_code.bits1 (fun HT_ HW_ => ?_)
            generalize w14.drew = w15 at BK108 BK109 HB hHeld ⊢
            refine pure_ (i := 0) (N := some 10) (v := ?_) (a' := ?_) #[true, false, false, false, false, false, false, false, false, false] rfl rfl (any_of HT_.out (by kernel_rfl)) (fun _ _ _ h => h) (Or.inl ⟨by rfl, ?_⟩) ?_ ?_
            rotate_left
            · intro w'
              go_simp
              with_reducible rfl
            rotate_left
            · simp only [Act.put, List.setIfInBounds_toArray, List.set_cons_zero, List.set_cons_succ, i64_w, i32_w]
              rfl
            refine pure_ (i := 4) (N := some 14) (v := ?_) (a' := ?_) #[true, false, false, false, true, false, false, false, false, false] rfl rfl (any_of HT_.out (by kernel_rfl)) (fun _ _ _ h => h) (Or.inl ⟨by rfl, ?_⟩) ?_ ?_
            rotate_left
            · intro w'
              go_simp
              with_reducible rfl
            rotate_left
            · simp only [Act.put, List.setIfInBounds_toArray, List.set_cons_zero, List.set_cons_succ, i64_w, i32_w]
              rfl
            refine take_ (i := 1) (N := some 11) (v := ?_) (a' := ?_) #[true, true, false, false, true, false, false, false, false, false] rfl rfl (take_ofW HT_.out HW_.out (by kernel_rfl)) (fun _ _ _ h => h) (Or.inl ⟨by rfl, ?_⟩) hHeld ?_ ?_
            rotate_left
            · rintro w' ⟨s0, s1⟩
              go_simp
              with_reducible rfl
            rotate_left
            · simp only [Act.put, List.setIfInBounds_toArray, List.set_cons_zero, List.set_cons_succ, i64_w, i32_w]
              rfl
            refine take_ (i := 5) (N := some 15) (v := ?_) (a' := ?_) #[true, true, false, false, true, true, false, false, false, false] rfl rfl (take_ofW HT_.out HW_.out (by kernel_rfl)) (fun _ _ _ h => h) (Or.inl ⟨by rfl, ?_⟩) hHeld ?_ ?_
            rotate_left
            · rintro w' ⟨s0, s1⟩
              go_simp
              with_reducible rfl
            rotate_left
            · simp only [Act.put, List.setIfInBounds_toArray, List.set_cons_zero, List.set_cons_succ, i64_w, i32_w]
              rfl
            refine one_ (i := 2) (N := some 12) #[true, true, true, false, true, true, false, false, false, false] rfl rfl (one_of HT_.out (by kernel_rfl)) (by decide) (fun K hK => ?_)
            refine goes_ Try.func60 (by kernel_rfl) rfl #[.agg #[.int .i64 a0_0, .bool a0_1]] (by rfl) rfl rfl (by (try simp only [List.map_toArray, List.map_cons, List.map_nil]); first | done | rfl | (simp only [List.length_drop, List.length_take]; rfl)) ?_
            with_reducible refine (code_steps_ten.calls a0_0 a0_1 t110 _ A3.out).mono ?_
            rintro e w16 ⟨rfl, hb⟩
            refine ⟨_, rfl, ?_⟩
            have n0_ := Aside0.mk (blk_below (g := gb108) (o := .cells #[.int .i64 a0_0, .bool a0_1] 66 (0, 0)) (by (with_reducible repeat (first | refine blk_drewN ?_ _ | refine blk_drew ?_ | refine blk_alloc ?_ _)); exact BK108.out) hb)
            have n1_ := Aside0.mk (blk_below (g := gb109) (o := .cells #[.int .i64 0, .int .i64 0, .int .i64 0, .int .i64 0] 25 (0, 0)) (by (with_reducible repeat (first | refine blk_drewN ?_ _ | refine blk_drew ?_ | refine blk_alloc ?_ _)); exact BK109.out) hb)
            have n2_ := Aside0.mk (below_step (by repeat (first | (with_reducible first | exact HB.out | apply below_alloc | apply pw_below_drewN | apply below_drew1 | refine below_set ?_ GE108.out | refine below_set ?_ GE109.out) | exact HB.out)) hb)
            clear BK108
            clear BK109
            clear HB
            have BK108 := n0_
            have BK109 := n1_
            have HB := n2_
            clear n0_ n1_ n2_
            (try clear hb)
            (try clear hb2)
            (try clear hk)
            (try clear hi)
            refine hK.out _ _ ⟨(blk_cell BK108.out 0).trans rfl, (blk_cell BK108.out 1).trans rfl⟩ (fun hHeld => ?_)
            clear hK K
            refine norm_ (a' := ?_) ?_ ?_
            rotate_left
            · show Act.put _ (some 12) _ = _
              simp only [Act.put, List.setIfInBounds_toArray, List.set_cons_zero, List.set_cons_succ, i64_w, i32_w]
              rfl
            refine pure_ (i := 3) (N := some 13) (v := ?_) (a' := ?_) #[true, true, true, true, true, true, false, false, false, false] rfl rfl (any_of HT_.out (by kernel_rfl)) (fun _ _ _ h => h) (Or.inl ⟨by rfl, ?_⟩) ?_ ?_
            rotate_left
            · intro w'
              go_simp
              with_reducible rfl
            rotate_left
            · simp only [Act.put, List.setIfInBounds_toArray, List.set_cons_zero, List.set_cons_succ, i64_w, i32_w]
              rfl
            refine one_ (i := 6) (N := some 16) #[true, true, true, true, true, true, true, false, false, false] rfl rfl (one_of HT_.out (by kernel_rfl)) (by decide) (fun K hK => ?_)
            refine goes_ Try.func60 (by kernel_rfl) rfl #[.agg #[.int .i64 a0_0, .bool a0_1]] (by rfl) rfl rfl (by (try simp only [List.map_toArray, List.map_cons, List.map_nil]); first | done | rfl | (simp only [List.length_drop, List.length_take]; rfl)) ?_
            with_reducible refine (code_steps_ten.calls a0_0 a0_1 t111 _ A5.out).mono ?_
            rintro e w17 ⟨rfl, hb⟩
            refine ⟨_, rfl, ?_⟩
            have n0_ := Aside0.mk (blk_below (g := gb108) (o := .cells #[.int .i64 a0_0, .bool a0_1] 66 (0, 0)) (by (with_reducible repeat (first | refine blk_drewN ?_ _ | refine blk_drew ?_ | refine blk_alloc ?_ _)); exact BK108.out) hb)
            have n1_ := Aside0.mk (blk_below (g := gb109) (o := .cells #[.int .i64 0, .int .i64 0, .int .i64 0, .int .i64 0] 25 (0, 0)) (by (with_reducible repeat (first | refine blk_drewN ?_ _ | refine blk_drew ?_ | refine blk_alloc ?_ _)); exact BK109.out) hb)
            have n2_ := Aside0.mk (below_step (by repeat (first | (with_reducible first | exact HB.out | apply below_alloc | apply pw_below_drewN | apply below_drew1 | refine below_set ?_ GE108.out | refine below_set ?_ GE109.out) | exact HB.out)) hb)
            clear BK108
            clear BK109
            clear HB
            have BK108 := n0_
            have BK109 := n1_
            have HB := n2_
            clear n0_ n1_ n2_
            (try clear hb)
            (try clear hb2)
            (try clear hk)
            (try clear hi)
            refine hK.out _ _ ⟨(blk_cell BK108.out 0).trans rfl, (blk_cell BK108.out 1).trans rfl⟩ (fun hHeld => ?_)
            clear hK K
            refine norm_ (a' := ?_) ?_ ?_
            rotate_left
            · show Act.put _ (some 16) _ = _
              simp only [Act.put, List.setIfInBounds_toArray, List.set_cons_zero, List.set_cons_succ, i64_w, i32_w]
              rfl
            refine pure_ (i := 7) (N := some 17) (v := ?_) (a' := ?_) #[true, true, true, true, true, true, true, true, false, false] rfl rfl (any_of HT_.out (by kernel_rfl)) (fun _ _ _ h => h) (Or.inl ⟨by rfl, ?_⟩) ?_ ?_
            rotate_left
            · intro w'
              go_simp
              with_reducible rfl
            rotate_left
            · simp only [Act.put, List.setIfInBounds_toArray, List.set_cons_zero, List.set_cons_succ, i64_w, i32_w]
              rfl
            refine pure_ (i := 8) (N := some 5) (v := ?_) (a' := ?_) #[true, true, true, true, true, true, true, true, true, false] rfl rfl (any_of HT_.out (by kernel_rfl)) (fun _ _ _ h => h) (Or.inl ⟨by rfl, ?_⟩) ?_ ?_
            rotate_left
            · intro w'
              go_simp
              with_reducible rfl
            rotate_left
            · simp only [Act.put, List.setIfInBounds_toArray, List.set_cons_zero, List.set_cons_succ, i64_w, i32_w]
              rfl
            refine pure_ (i := 9) (N := some 6) (v := ?_) (a' := ?_) #[true, true, true, true, true, true, true, true, true, true] rfl rfl (any_of HT_.out (by kernel_rfl)) (fun _ _ _ h => h) (Or.inl ⟨by rfl, ?_⟩) ?_ ?_
            rotate_left
            · intro w'
              go_simp
              with_reducible rfl
            rotate_left
            · simp only [Act.put, List.setIfInBounds_toArray, List.set_cons_zero, List.set_cons_succ, i64_w, i32_w]
              rfl
            refine done_ (done_of HT_.out (by kernel_rfl)) ?_
            try go_wp2
            have n0_ := Aside0.mk (blk_drew BK108.out)
            have n1_ := Aside0.mk (blk_drew BK109.out)
            have n2_ := Aside0.mk (below_drew1 HB.out)
            clear BK108
            clear BK109
            clear HB
            have BK108 := n0_
            have BK109 := n1_
            have HB := n2_
            clear n0_ n1_ n2_
            refine start_ (n := 8) (S := fun w' => w'.cell? ⟨gb108, 0, none⟩ = some (.int .i64 a0_0) ∧ w'.cell? ⟨gb108, 1, none⟩ = some (.bool a0_1)) (ds := []) #[false, false, false, false, false, false, false, false] (by kernel_rfl) rfl rfl ⟨(blk_cell BK108.out 0).trans rfl, (blk_cell BK108.out 1).trans rfl⟩ (fun hHeld => ?_); refine with_tabW code_steps_code.tab2 code_steps_code.bits2 (fun HT_ HW_ => ?_)
            generalize w17.drew = w18 at BK108 BK109 HB hHeld ⊢
            refine pure_ (i := 0) (N := some 18) (v := ?_) (a' := ?_) #[true, false, false, false, false, false, false, false] rfl rfl (any_of HT_.out (by kernel_rfl)) (fun _ _ _ h => h) (Or.inl ⟨by rfl, ?_⟩) ?_ ?_
            rotate_left
            · intro w'
              go_simp
              with_reducible rfl
            rotate_left
            · simp only [Act.put, List.setIfInBounds_toArray, List.set_cons_zero, List.set_cons_succ, i64_w, i32_w]
              rfl
            refine pure_ (i := 1) (N := some 19) (v := ?_) (a' := ?_) #[true, true, false, false, false, false, false, false] rfl rfl (any_of HT_.out (by kernel_rfl)) (fun _ _ _ h => h) (Or.inl ⟨by rfl, ?_⟩) ?_ ?_
            rotate_left
            · intro w'
              go_simp
              with_reducible rfl
            rotate_left
            · simp only [Act.put, List.setIfInBounds_toArray, List.set_cons_zero, List.set_cons_succ, i64_w, i32_w]
              rfl
            refine take_ (i := 2) (N := some 20) (v := ?_) (a' := ?_) #[true, true, true, false, false, false, false, false] rfl rfl (take_ofW HT_.out HW_.out (by kernel_rfl)) (fun _ _ _ h => h) (Or.inl ⟨by rfl, ?_⟩) hHeld ?_ ?_
            rotate_left
            · rintro w' ⟨s0, s1⟩
              go_simp
              with_reducible rfl
            rotate_left
            · simp only [Act.put, List.setIfInBounds_toArray, List.set_cons_zero, List.set_cons_succ, i64_w, i32_w]
              rfl
            refine pure_ (i := 3) (N := some 21) (v := ?_) (a' := ?_) #[true, true, true, true, false, false, false, false] rfl rfl (any_of HT_.out (by kernel_rfl)) (fun _ _ _ h => h) (Or.inl ⟨by rfl, ?_⟩) ?_ ?_
            rotate_left
            · intro w'
              go_simp
              with_reducible rfl
            rotate_left
            · simp only [Act.put, List.setIfInBounds_toArray, List.set_cons_zero, List.set_cons_succ, i64_w, i32_w]
              rfl
            refine take_ (i := 4) (N := some 22) (v := ?_) (a' := ?_) #[true, true, true, true, true, false, false, false] rfl rfl (take_ofW HT_.out HW_.out (by kernel_rfl)) (fun _ _ _ h => h) (Or.inl ⟨by rfl, ?_⟩) hHeld ?_ ?_
            rotate_left
            · rintro w' ⟨s0, s1⟩
              go_simp
              with_reducible rfl
            rotate_left
            · simp only [Act.put, List.setIfInBounds_toArray, List.set_cons_zero, List.set_cons_succ, i64_w, i32_w]
              rfl
            refine one_ (i := 5) (N := some 23) #[true, true, true, true, true, true, false, false] rfl rfl (one_of HT_.out (by kernel_rfl)) (by decide) (fun K hK => ?_)
            refine goes_ Try.func61 (by kernel_rfl) rfl #[.agg #[.int .i64 a0_0, .bool a0_1]] (by rfl) rfl rfl (by (try simp only [List.map_toArray, List.map_cons, List.map_nil]); first | done | rfl | (simp only [List.length_drop, List.length_take]; rfl)) ?_
            with_reducible refine (code_steps_dropped.calls a0_0 a0_1 t112 _ A7.out).mono ?_
            rintro e w19 ⟨rfl, hb⟩
            refine ⟨_, rfl, ?_⟩
            have n0_ := Aside0.mk (blk_below (g := gb108) (o := .cells #[.int .i64 a0_0, .bool a0_1] 66 (0, 0)) (by (with_reducible repeat (first | refine blk_drewN ?_ _ | refine blk_drew ?_ | refine blk_alloc ?_ _)); exact BK108.out) hb)
            have n1_ := Aside0.mk (blk_below (g := gb109) (o := .cells #[.int .i64 0, .int .i64 0, .int .i64 0, .int .i64 0] 25 (0, 0)) (by (with_reducible repeat (first | refine blk_drewN ?_ _ | refine blk_drew ?_ | refine blk_alloc ?_ _)); exact BK109.out) hb)
            have n2_ := Aside0.mk (below_step (by repeat (first | (with_reducible first | exact HB.out | apply below_alloc | apply pw_below_drewN | apply below_drew1 | refine below_set ?_ GE108.out | refine below_set ?_ GE109.out) | exact HB.out)) hb)
            clear BK108
            clear BK109
            clear HB
            have BK108 := n0_
            have BK109 := n1_
            have HB := n2_
            clear n0_ n1_ n2_
            (try clear hb)
            (try clear hb2)
            (try clear hk)
            (try clear hi)
            refine hK.out _ _ ⟨(blk_cell BK108.out 0).trans rfl, (blk_cell BK108.out 1).trans rfl⟩ (fun hHeld => ?_)
            clear hK K
            refine norm_ (a' := ?_) ?_ ?_
            rotate_left
            · show Act.put _ (some 23) _ = _
              simp only [Act.put, List.setIfInBounds_toArray, List.set_cons_zero, List.set_cons_succ, i64_w, i32_w]
              rfl
            refine pure_ (i := 6) (N := some 24) (v := ?_) (a' := ?_) #[true, true, true, true, true, true, true, false] rfl rfl (any_of HT_.out (by kernel_rfl)) (fun _ _ _ h => h) (Or.inl ⟨by rfl, ?_⟩) ?_ ?_
            rotate_left
            · intro w'
              go_simp
              with_reducible rfl
            rotate_left
            · simp only [Act.put, List.setIfInBounds_toArray, List.set_cons_zero, List.set_cons_succ, i64_w, i32_w]
              rfl
            refine pure_ (i := 7) (N := some 7) (v := ?_) (a' := ?_) #[true, true, true, true, true, true, true, true] rfl rfl (any_of HT_.out (by kernel_rfl)) (fun _ _ _ h => h) (Or.inl ⟨by rfl, ?_⟩) ?_ ?_
            rotate_left
            · intro w'
              go_simp
              with_reducible rfl
            rotate_left
            · simp only [Act.put, List.setIfInBounds_toArray, List.set_cons_zero, List.set_cons_succ, i64_w, i32_w]
              rfl
            refine done_ (done_of HT_.out (by kernel_rfl)) ?_
            have hnb20 := NB108_109.out
            have hnc20 := NB109_108.out
            have hcz21_0 : w19.cell? ⟨gb108, 0, none⟩ = some (.int .i64 a0_0) := (blk_cell BK108.out 0).trans rfl
            have hcz21_1 : w19.cell? ⟨gb108, 1, none⟩ = some (.bool a0_1) := (blk_cell BK108.out 1).trans rfl
            have hfz21_0 := blk_frozen BK108.out 0
            have hfz21_1 := blk_frozen BK108.out 1
            try go_wp2_with (first | ((with_reducible refine gate_callee (f := 61) rfl ?_); refine goesL_ (some 29) rfl rfl Try.func61 (by kernel_rfl) rfl #[.agg #[.int .i64 a0_0, .bool a0_1]] rfl (by (try simp only [List.map_toArray, List.map_cons, List.map_nil]); first | done | rfl | (simp only [List.length_drop, List.length_take]; rfl)) ?_; (with_reducible refine (code_steps_dropped.calls a0_0 a0_1 t113 _ A8.out).mono ?_); rintro e w22 ⟨rfl, hb⟩; refine ⟨_, rfl, ?_⟩; have n0_ := Aside0.mk (blk_below (g := gb108) (o := .cells #[.int .i64 a0_0, .bool a0_1] 66 (0, 0)) (by (with_reducible repeat (first | refine blk_drewN ?_ _ | refine blk_drew ?_ | refine blk_alloc ?_ _)); exact BK108.out) hb); have n1_ := Aside0.mk (blk_below (g := gb109) (o := .cells #[.int .i64 0, .int .i64 0, .int .i64 0, .int .i64 0] 25 (0, 0)) (by (with_reducible repeat (first | refine blk_drewN ?_ _ | refine blk_drew ?_ | refine blk_alloc ?_ _)); exact BK109.out) hb); have n2_ := Aside0.mk (below_step (by repeat (first | (with_reducible first | exact HB.out | apply below_alloc | apply pw_below_drewN | apply below_drew1 | refine below_set ?_ GE108.out | refine below_set ?_ GE109.out) | exact HB.out)) hb); clear BK108; clear BK109; clear HB; have BK108 := n0_; have BK109 := n1_; have HB := n2_; clear n0_ n1_ n2_; (try clear hb); (try clear hb2); (try clear hk); (try clear hi); have hcz23_0 : w22.cell? ⟨gb108, 0, none⟩ = some (.int .i64 a0_0) := (blk_cell BK108.out 0).trans rfl; have hcz23_1 : w22.cell? ⟨gb108, 1, none⟩ = some (.bool a0_1) := (blk_cell BK108.out 1).trans rfl; have hfz23_0 := blk_frozen BK108.out 0; have hfz23_1 := blk_frozen BK108.out 1))
            have n0_ := Aside0.mk (blk_drew BK108.out)
            have n1_ := Aside0.mk (blk_drew BK109.out)
            have n2_ := Aside0.mk (below_drew1 HB.out)
            clear BK108
            clear BK109
            clear HB
            have BK108 := n0_
            have BK109 := n1_
            have HB := n2_
            clear n0_ n1_ n2_
            refine start_ (n := 12) (S := fun w' => w'.cell? ⟨gb108, 0, none⟩ = some (.int .i64 a0_0) ∧ w'.cell? ⟨gb108, 1, none⟩ = some (.bool a0_1)) (ds := []) #[false, false, false, false, false, false, false, false, false, false, false, false] (by kernel_rfl) rfl rfl ⟨(blk_cell BK108.out 0).trans rfl, (blk_cell BK108.out 1).trans rfl⟩ (fun hHeld => ?_); refine with_tabW code_steps_code.tab6 code_steps_code.bits6 (fun HT_ HW_ => ?_)
            generalize w22.drew = w24 at BK108 BK109 HB hHeld ⊢
            refine pure_ (i := 0) (N := some 39) (v := ?_) (a' := ?_) #[true, false, false, false, false, false, false, false, false, false, false, false] rfl rfl (any_of HT_.out (by kernel_rfl)) (fun _ _ _ h => h) (Or.inl ⟨by rfl, ?_⟩) ?_ ?_
            rotate_left
            · intro w'
              go_simp
              with_reducible rfl
            rotate_left
            · simp only [Act.put, List.setIfInBounds_toArray, List.set_cons_zero, List.set_cons_succ, i64_w, i32_w]
              rfl
            refine pure_ (i := 3) (N := some 42) (v := ?_) (a' := ?_) #[true, false, false, true, false, false, false, false, false, false, false, false] rfl rfl (any_of HT_.out (by kernel_rfl)) (fun _ _ _ h => h) (Or.inl ⟨by rfl, ?_⟩) ?_ ?_
            rotate_left
            · intro w'
              go_simp
              with_reducible rfl
            rotate_left
            · simp only [Act.put, List.setIfInBounds_toArray, List.set_cons_zero, List.set_cons_succ, i64_w, i32_w]
              rfl
            refine pure_ (i := 4) (N := some 43) (v := ?_) (a' := ?_) #[true, false, false, true, true, false, false, false, false, false, false, false] rfl rfl (any_of HT_.out (by kernel_rfl)) (fun _ _ _ h => h) (Or.inl ⟨by rfl, ?_⟩) ?_ ?_
            rotate_left
            · intro w'
              go_simp
              with_reducible rfl
            rotate_left
            · simp only [Act.put, List.setIfInBounds_toArray, List.set_cons_zero, List.set_cons_succ, i64_w, i32_w]
              rfl
            refine pure_ (i := 5) (N := some 44) (v := ?_) (a' := ?_) #[true, false, false, true, true, true, false, false, false, false, false, false] rfl rfl (any_of HT_.out (by kernel_rfl)) (fun _ _ _ h => h) (Or.inl ⟨by rfl, ?_⟩) ?_ ?_
            rotate_left
            · intro w'
              go_simp
              with_reducible rfl
            rotate_left
            · simp only [Act.put, List.setIfInBounds_toArray, List.set_cons_zero, List.set_cons_succ, i64_w, i32_w]
              rfl
            refine pure_ (i := 6) (N := some 45) (v := ?_) (a' := ?_) #[true, false, false, true, true, true, true, false, false, false, false, false] rfl rfl (any_of HT_.out (by kernel_rfl)) (fun _ _ _ h => h) (Or.inl ⟨by rfl, ?_⟩) ?_ ?_
            rotate_left
            · intro w'
              go_simp
              with_reducible rfl
            rotate_left
            · simp only [Act.put, List.setIfInBounds_toArray, List.set_cons_zero, List.set_cons_succ, i64_w, i32_w]
              rfl
            refine pure_ (i := 7) (N := some 46) (v := ?_) (a' := ?_) #[true, false, false, true, true, true, true, true, false, false, false, false] rfl rfl (any_of HT_.out (by kernel_rfl)) (fun _ _ _ h => h) (Or.inl ⟨by rfl, ?_⟩) ?_ ?_
            rotate_left
            · intro w'
              go_simp
              with_reducible rfl
            rotate_left
            · simp only [Act.put, List.setIfInBounds_toArray, List.set_cons_zero, List.set_cons_succ, i64_w, i32_w]
              rfl
            refine pure_ (i := 8) (N := some 47) (v := ?_) (a' := ?_) #[true, false, false, true, true, true, true, true, true, false, false, false] rfl rfl (any_of HT_.out (by kernel_rfl)) (fun _ _ _ h => h) (Or.inl ⟨by rfl, ?_⟩) ?_ ?_
            rotate_left
            · intro w'
              go_simp
              with_reducible rfl
            rotate_left
            · simp only [Act.put, List.setIfInBounds_toArray, List.set_cons_zero, List.set_cons_succ, i64_w, i32_w]
              rfl
            refine take_ (i := 1) (N := some 40) (v := ?_) (a' := ?_) #[true, true, false, true, true, true, true, true, true, false, false, false] rfl rfl (take_ofW HT_.out HW_.out (by kernel_rfl)) (fun _ _ _ h => h) (Or.inl ⟨by rfl, ?_⟩) hHeld ?_ ?_
            rotate_left
            · rintro w' ⟨s0, s1⟩
              go_simp
              with_reducible rfl
            rotate_left
            · simp only [Act.put, List.setIfInBounds_toArray, List.set_cons_zero, List.set_cons_succ, i64_w, i32_w]
              rfl
            refine one_ (i := 2) (N := some 41) #[true, true, true, true, true, true, true, true, true, false, false, false] rfl rfl (one_of HT_.out (by kernel_rfl)) (by decide) (fun K hK => ?_)
            refine goes_ Try.func61 (by kernel_rfl) rfl #[.agg #[.int .i64 a0_0, .bool a0_1]] (by rfl) rfl rfl (by (try simp only [List.map_toArray, List.map_cons, List.map_nil]); first | done | rfl | (simp only [List.length_drop, List.length_take]; rfl)) ?_
            with_reducible refine (code_steps_dropped.calls a0_0 a0_1 t114 _ A10.out).mono ?_
            rintro e w25 ⟨rfl, hb⟩
            refine ⟨_, rfl, ?_⟩
            have n0_ := Aside0.mk (blk_below (g := gb108) (o := .cells #[.int .i64 a0_0, .bool a0_1] 66 (0, 0)) (by (with_reducible repeat (first | refine blk_drewN ?_ _ | refine blk_drew ?_ | refine blk_alloc ?_ _)); exact BK108.out) hb)
            have n1_ := Aside0.mk (blk_below (g := gb109) (o := .cells #[.int .i64 0, .int .i64 0, .int .i64 0, .int .i64 0] 25 (0, 0)) (by (with_reducible repeat (first | refine blk_drewN ?_ _ | refine blk_drew ?_ | refine blk_alloc ?_ _)); exact BK109.out) hb)
            have n2_ := Aside0.mk (below_step (by repeat (first | (with_reducible first | exact HB.out | apply below_alloc | apply pw_below_drewN | apply below_drew1 | refine below_set ?_ GE108.out | refine below_set ?_ GE109.out) | exact HB.out)) hb)
            clear BK108
            clear BK109
            clear HB
            have BK108 := n0_
            have BK109 := n1_
            have HB := n2_
            clear n0_ n1_ n2_
            (try clear hb)
            (try clear hb2)
            (try clear hk)
            (try clear hi)
            refine hK.out _ _ ⟨(blk_cell BK108.out 0).trans rfl, (blk_cell BK108.out 1).trans rfl⟩ (fun hHeld => ?_)
            clear hK K
            refine norm_ (a' := ?_) ?_ ?_
            rotate_left
            · show Act.put _ (some 41) _ = _
              simp only [Act.put, List.setIfInBounds_toArray, List.set_cons_zero, List.set_cons_succ, i64_w, i32_w]
              rfl
            refine pure_ (i := 9) (N := some 48) (v := ?_) (a' := ?_) #[true, true, true, true, true, true, true, true, true, true, false, false] rfl rfl (any_of HT_.out (by kernel_rfl)) (fun _ _ _ h => h) (Or.inl ⟨by rfl, ?_⟩) ?_ ?_
            rotate_left
            · intro w'
              go_simp
              with_reducible rfl
            rotate_left
            · simp only [Act.put, List.setIfInBounds_toArray, List.set_cons_zero, List.set_cons_succ, i64_w, i32_w]
              rfl
            refine pure_ (i := 10) (N := some 49) (v := ?_) (a' := ?_) #[true, true, true, true, true, true, true, true, true, true, true, false] rfl rfl (any_of HT_.out (by kernel_rfl)) (fun _ _ _ h => h) (Or.inl ⟨by rfl, ?_⟩) ?_ ?_
            rotate_left
            · intro w'
              go_simp
              with_reducible rfl
            rotate_left
            · simp only [Act.put, List.setIfInBounds_toArray, List.set_cons_zero, List.set_cons_succ, i64_w, i32_w]
              rfl
            refine pure_ (i := 11) (N := some 1) (v := ?_) (a' := ?_) #[true, true, true, true, true, true, true, true, true, true, true, true] rfl rfl (any_of HT_.out (by kernel_rfl)) (fun _ _ _ h => h) (Or.inl ⟨by rfl, ?_⟩) ?_ ?_
            rotate_left
            · intro w'
              go_simp
              with_reducible rfl
            rotate_left
            · simp only [Act.put, List.setIfInBounds_toArray, List.set_cons_zero, List.set_cons_succ, i64_w, i32_w]
              rfl
            refine done_ (done_of HT_.out (by kernel_rfl)) ?_
            have hcz26_0 : w25.cell? ⟨gb108, 0, none⟩ = some (.int .i64 a0_0) := (blk_cell BK108.out 0).trans rfl
            have hcz26_1 : w25.cell? ⟨gb108, 1, none⟩ = some (.bool a0_1) := (blk_cell BK108.out 1).trans rfl
            have hfz26_0 := blk_frozen BK108.out 0
            have hfz26_1 := blk_frozen BK108.out 1
            have hcz27_0 : w25.cell? ⟨gb109, 0, none⟩ = some (.int .i64 0) := (blk_cell BK109.out 0).trans rfl
            have hcz27_1 : w25.cell? ⟨gb109, 1, none⟩ = some (.int .i64 0) := (blk_cell BK109.out 1).trans rfl
            have hcz27_2 : w25.cell? ⟨gb109, 2, none⟩ = some (.int .i64 0) := (blk_cell BK109.out 2).trans rfl
            have hcz27_3 : w25.cell? ⟨gb109, 3, none⟩ = some (.int .i64 0) := (blk_cell BK109.out 3).trans rfl
            have hfz27_0 := blk_frozen BK109.out 0
            have hfz27_1 := blk_frozen BK109.out 1
            have hfz27_2 := blk_frozen BK109.out 2
            have hfz27_3 := blk_frozen BK109.out 3
            try go_wp2
            refine bodyPost_ret (results_cell_row rfl _ _ gb109 25 #[.int .i64 (wrap64 (Int.tdiv (wrap64 (Int.tdiv (wrap64 ((wrap64 (a1 + (wrap64 ((wrap64 ((wrap64 (Int.tdiv a1 t110)) * 9)) * t113)))) + (wrap64 (t114 * (wrap64 (1 + (wrap64 (Int.tdiv (wrap64 ((Int.tmod a1 t111) - (wrap64 (60 * a0_0)))) (wrap64 ((wrap64 (60 * a0_0)) - t112)))))))))) a0_0)) 3600)), .int .i64 (Int.tmod (wrap64 (Int.tdiv (wrap64 (Int.tdiv (wrap64 ((wrap64 (a1 + (wrap64 ((wrap64 ((wrap64 (Int.tdiv a1 t110)) * 9)) * t113)))) + (wrap64 (t114 * (wrap64 (1 + (wrap64 (Int.tdiv (wrap64 ((Int.tmod a1 t111) - (wrap64 (60 * a0_0)))) (wrap64 ((wrap64 (60 * a0_0)) - t112)))))))))) a0_0)) 60)) 60), .int .i64 (Int.tmod (wrap64 (Int.tdiv (wrap64 ((wrap64 (a1 + (wrap64 ((wrap64 ((wrap64 (Int.tdiv a1 t110)) * 9)) * t113)))) + (wrap64 (t114 * (wrap64 (1 + (wrap64 (Int.tdiv (wrap64 ((Int.tmod a1 t111) - (wrap64 (60 * a0_0)))) (wrap64 ((wrap64 (60 * a0_0)) - t112)))))))))) a0_0)) 60), .int .i64 (Int.tmod (wrap64 ((wrap64 (a1 + (wrap64 ((wrap64 ((wrap64 (Int.tdiv a1 t110)) * 9)) * t113)))) + (wrap64 (t114 * (wrap64 (1 + (wrap64 (Int.tdiv (wrap64 ((Int.tmod a1 t111) - (wrap64 (60 * a0_0)))) (wrap64 ((wrap64 (60 * a0_0)) - t112)))))))))) a0_0)] (0, 0) _ rfl (by (with_reducible repeat (first | refine blk_drewN ?_ _ | refine blk_drew ?_ | refine blk_alloc ?_ _)); refine blk_put (cs := #[.int .i64 (wrap64 (Int.tdiv (wrap64 (Int.tdiv (wrap64 ((wrap64 (a1 + (wrap64 ((wrap64 ((wrap64 (Int.tdiv a1 t110)) * 9)) * t113)))) + (wrap64 (t114 * (wrap64 (1 + (wrap64 (Int.tdiv (wrap64 ((Int.tmod a1 t111) - (wrap64 (60 * a0_0)))) (wrap64 ((wrap64 (60 * a0_0)) - t112)))))))))) a0_0)) 3600)), .int .i64 (Int.tmod (wrap64 (Int.tdiv (wrap64 (Int.tdiv (wrap64 ((wrap64 (a1 + (wrap64 ((wrap64 ((wrap64 (Int.tdiv a1 t110)) * 9)) * t113)))) + (wrap64 (t114 * (wrap64 (1 + (wrap64 (Int.tdiv (wrap64 ((Int.tmod a1 t111) - (wrap64 (60 * a0_0)))) (wrap64 ((wrap64 (60 * a0_0)) - t112)))))))))) a0_0)) 60)) 60), .int .i64 (Int.tmod (wrap64 (Int.tdiv (wrap64 ((wrap64 (a1 + (wrap64 ((wrap64 ((wrap64 (Int.tdiv a1 t110)) * 9)) * t113)))) + (wrap64 (t114 * (wrap64 (1 + (wrap64 (Int.tdiv (wrap64 ((Int.tmod a1 t111) - (wrap64 (60 * a0_0)))) (wrap64 ((wrap64 (60 * a0_0)) - t112)))))))))) a0_0)) 60), .int .i64 0]) ?_ 3 _ rfl; (with_reducible repeat (first | refine blk_drewN ?_ _ | refine blk_drew ?_ | refine blk_alloc ?_ _)); refine blk_put (cs := #[.int .i64 (wrap64 (Int.tdiv (wrap64 (Int.tdiv (wrap64 ((wrap64 (a1 + (wrap64 ((wrap64 ((wrap64 (Int.tdiv a1 t110)) * 9)) * t113)))) + (wrap64 (t114 * (wrap64 (1 + (wrap64 (Int.tdiv (wrap64 ((Int.tmod a1 t111) - (wrap64 (60 * a0_0)))) (wrap64 ((wrap64 (60 * a0_0)) - t112)))))))))) a0_0)) 3600)), .int .i64 (Int.tmod (wrap64 (Int.tdiv (wrap64 (Int.tdiv (wrap64 ((wrap64 (a1 + (wrap64 ((wrap64 ((wrap64 (Int.tdiv a1 t110)) * 9)) * t113)))) + (wrap64 (t114 * (wrap64 (1 + (wrap64 (Int.tdiv (wrap64 ((Int.tmod a1 t111) - (wrap64 (60 * a0_0)))) (wrap64 ((wrap64 (60 * a0_0)) - t112)))))))))) a0_0)) 60)) 60), .int .i64 0, .int .i64 0]) ?_ 2 _ rfl; (with_reducible repeat (first | refine blk_drewN ?_ _ | refine blk_drew ?_ | refine blk_alloc ?_ _)); refine blk_put (cs := #[.int .i64 (wrap64 (Int.tdiv (wrap64 (Int.tdiv (wrap64 ((wrap64 (a1 + (wrap64 ((wrap64 ((wrap64 (Int.tdiv a1 t110)) * 9)) * t113)))) + (wrap64 (t114 * (wrap64 (1 + (wrap64 (Int.tdiv (wrap64 ((Int.tmod a1 t111) - (wrap64 (60 * a0_0)))) (wrap64 ((wrap64 (60 * a0_0)) - t112)))))))))) a0_0)) 3600)), .int .i64 0, .int .i64 0, .int .i64 0]) ?_ 1 _ rfl; (with_reducible repeat (first | refine blk_drewN ?_ _ | refine blk_drew ?_ | refine blk_alloc ?_ _)); refine blk_put (cs := #[.int .i64 0, .int .i64 0, .int .i64 0, .int .i64 0]) ?_ 0 _ rfl; (with_reducible repeat (first | refine blk_drewN ?_ _ | refine blk_drew ?_ | refine blk_alloc ?_ _)); exact BK109.out) Try.underlying25 rfl (by kernel_rfl)) rfl ?_
            exact ⟨by first | rfl | (simp [errW_none, errW_some] <;> rfl) | (simp [*, errW_none, errW_some] <;> rfl), by repeat (first | (with_reducible first | exact HB.out | apply below_alloc | apply pw_below_drewN | apply below_drew1 | refine below_set ?_ GE108.out | refine below_set ?_ GE109.out) | exact HB.out)⟩
      · rw [if_neg c9] at H
        have c9b0 : decide ((wrap64 (60 * a0_0)) ≤ (Int.tmod a1 t111)) = false := decide_eq_false c9
        clear c9
        by_cases c28 : a0_0 = 0
        · rw [if_pos c28] at H
          exact absurd H (by simp)
        · rw [if_neg c28] at H
          have c28b0 : (a0_0 == 0) = false := beq_eq_false_iff_ne.mpr c28
          have c28b1 : (a0_0 != 0) = true := bne_iff_ne.mpr c28
          simp only [Option.some.injEq, Prod.mk.injEq] at H
          obtain ⟨rfl, rfl, rfl, rfl⟩ := H
          go_enter Try.func38, Try.ntmps38
          try go_wp2_with (first | ((with_reducible refine gate_dst (N := 2) rfl ?_); refine box_event ?hg (N := 2) ?hd (cs := #[.int .i64 a0_0, .bool a0_1]) (t := 66) ?hr ?_; (case hd => rfl); (case hg => rfl); (case hr => first | (go_simp; done) | (go_simp; rfl)); intro gb108 hg w29 hbox hb; have n0_ := Aside0.mk (below_step (by repeat (first | (with_reducible first | exact HB.out | apply below_alloc | apply pw_below_drewN | apply below_drew1) | exact HB.out)) hb); have n1_ := Aside0.mk (hbox); have n2_ := Aside0.mk ((by rw [hg]; exact (below_size (by repeat (first | (with_reducible first | exact HB.out | apply below_alloc | apply pw_below_drewN | apply below_drew1) | exact HB.out))) : w.heap.size ≤ gb108)); have n3_ := Aside0.mk ((by rw [hg]; exact (below_size (by repeat (first | (with_reducible first | exact HB.out | apply below_alloc | apply pw_below_drewN | apply below_drew1) | exact HB.out))) : w.heap.size ≤ gb108)); clear HB; have HB := n0_; have BK108 := n1_; have GW108 := n2_; have GE108 := n3_; clear n0_ n1_ n2_ n3_; clear hb hbox hg) | ((with_reducible refine gate_dst (N := 4) rfl ?_); refine box_event ?hg (N := 4) ?hd (cs := #[.int .i64 0, .int .i64 0, .int .i64 0, .int .i64 0]) (t := 25) ?hr ?_; (case hd => rfl); (case hg => rfl); (case hr => first | (go_simp; done) | (go_simp; rfl)); intro gb109 hg w30 hbox hb; have n0_ := Aside0.mk (blk_below (g := gb108) (o := .cells #[.int .i64 a0_0, .bool a0_1] 66 (0, 0)) (by (with_reducible repeat (first | refine blk_drewN ?_ _ | refine blk_drew ?_ | refine blk_alloc ?_ _)); exact BK108.out) hb); have n1_ := Aside0.mk (below_step (by repeat (first | (with_reducible first | exact HB.out | apply below_alloc | apply pw_below_drewN | apply below_drew1 | refine below_set ?_ GE108.out) | exact HB.out)) hb); have n2_ := Aside0.mk (hbox); have n3_ := Aside0.mk ((by rw [hg]; exact (below_size (by repeat (first | (with_reducible first | exact HB.out | apply below_alloc | apply pw_below_drewN | apply below_drew1 | refine below_set ?_ GE108.out) | exact HB.out))) : w.heap.size ≤ gb109)); have n4_ := Aside0.mk ((by rw [hg]; exact (below_size (by repeat (first | (with_reducible first | exact HB.out | apply below_alloc | apply pw_below_drewN | apply below_drew1 | refine below_set ?_ GE108.out) | exact HB.out))) : w.heap.size ≤ gb109)); have n5_ := Aside0.mk ((by rw [hg]; exact Nat.ne_of_lt (blk_lt (g := gb108) (o := .cells #[.int .i64 a0_0, .bool a0_1] 66 (0, 0)) (by (with_reducible repeat (first | refine blk_drewN ?_ _ | refine blk_drew ?_ | refine blk_alloc ?_ _)); exact BK108.out)) : gb108 ≠ gb109)); have n6_ := Aside0.mk ((by rw [hg]; exact Nat.ne_of_gt (blk_lt (g := gb108) (o := .cells #[.int .i64 a0_0, .bool a0_1] 66 (0, 0)) (by (with_reducible repeat (first | refine blk_drewN ?_ _ | refine blk_drew ?_ | refine blk_alloc ?_ _)); exact BK108.out)) : gb109 ≠ gb108)); clear BK108; clear HB; have BK108 := n0_; have HB := n1_; have BK109 := n2_; have GW109 := n3_; have GE109 := n4_; have NB108_109 := n5_; have NB109_108 := n6_; clear n0_ n1_ n2_ n3_ n4_ n5_ n6_; clear hb hbox hg))
          have n0_ := Aside0.mk (blk_drew BK108.out)
          have n1_ := Aside0.mk (blk_drew BK109.out)
          have n2_ := Aside0.mk (below_drew1 HB.out)
          clear BK108
          clear BK109
          clear HB
          have BK108 := n0_
          have BK109 := n1_
          have HB := n2_
          clear n0_ n1_ n2_
          refine start_ (n := 10) (S := fun w' => w'.cell? ⟨gb108, 0, none⟩ = some (.int .i64 a0_0) ∧ w'.cell? ⟨gb108, 1, none⟩ = some (.bool a0_1)) (ds := []) #[false, false, false, false, false, false, false, false, false, false] (by kernel_rfl) rfl rfl ⟨(blk_cell BK108.out 0).trans rfl, (blk_cell BK108.out 1).trans rfl⟩ (fun hHeld => ?_); refine with_tabW code_steps_code.tab1 code_steps_code.bits1 (fun HT_ HW_ => ?_)
          generalize w30.drew = w31 at BK108 BK109 HB hHeld ⊢
          refine pure_ (i := 0) (N := some 10) (v := ?_) (a' := ?_) #[true, false, false, false, false, false, false, false, false, false] rfl rfl (any_of HT_.out (by kernel_rfl)) (fun _ _ _ h => h) (Or.inl ⟨by rfl, ?_⟩) ?_ ?_
          rotate_left
          · intro w'
            go_simp
            with_reducible rfl
          rotate_left
          · simp only [Act.put, List.setIfInBounds_toArray, List.set_cons_zero, List.set_cons_succ, i64_w, i32_w]
            rfl
          refine pure_ (i := 4) (N := some 14) (v := ?_) (a' := ?_) #[true, false, false, false, true, false, false, false, false, false] rfl rfl (any_of HT_.out (by kernel_rfl)) (fun _ _ _ h => h) (Or.inl ⟨by rfl, ?_⟩) ?_ ?_
          rotate_left
          · intro w'
            go_simp
            with_reducible rfl
          rotate_left
          · simp only [Act.put, List.setIfInBounds_toArray, List.set_cons_zero, List.set_cons_succ, i64_w, i32_w]
            rfl
          refine take_ (i := 1) (N := some 11) (v := ?_) (a' := ?_) #[true, true, false, false, true, false, false, false, false, false] rfl rfl (take_ofW HT_.out HW_.out (by kernel_rfl)) (fun _ _ _ h => h) (Or.inl ⟨by rfl, ?_⟩) hHeld ?_ ?_
          rotate_left
          · rintro w' ⟨s0, s1⟩
            go_simp
            with_reducible rfl
          rotate_left
          · simp only [Act.put, List.setIfInBounds_toArray, List.set_cons_zero, List.set_cons_succ, i64_w, i32_w]
            rfl
          refine take_ (i := 5) (N := some 15) (v := ?_) (a' := ?_) #[true, true, false, false, true, true, false, false, false, false] rfl rfl (take_ofW HT_.out HW_.out (by kernel_rfl)) (fun _ _ _ h => h) (Or.inl ⟨by rfl, ?_⟩) hHeld ?_ ?_
          rotate_left
          · rintro w' ⟨s0, s1⟩
            go_simp
            with_reducible rfl
          rotate_left
          · simp only [Act.put, List.setIfInBounds_toArray, List.set_cons_zero, List.set_cons_succ, i64_w, i32_w]
            rfl
          refine one_ (i := 2) (N := some 12) #[true, true, true, false, true, true, false, false, false, false] rfl rfl (one_of HT_.out (by kernel_rfl)) (by decide) (fun K hK => ?_)
          refine goes_ Try.func60 (by kernel_rfl) rfl #[.agg #[.int .i64 a0_0, .bool a0_1]] (by rfl) rfl rfl (by (try simp only [List.map_toArray, List.map_cons, List.map_nil]); first | done | rfl | (simp only [List.length_drop, List.length_take]; rfl)) ?_
          with_reducible refine (code_steps_ten.calls a0_0 a0_1 t110 _ A3.out).mono ?_
          rintro e w32 ⟨rfl, hb⟩
          refine ⟨_, rfl, ?_⟩
          have n0_ := Aside0.mk (blk_below (g := gb108) (o := .cells #[.int .i64 a0_0, .bool a0_1] 66 (0, 0)) (by (with_reducible repeat (first | refine blk_drewN ?_ _ | refine blk_drew ?_ | refine blk_alloc ?_ _)); exact BK108.out) hb)
          have n1_ := Aside0.mk (blk_below (g := gb109) (o := .cells #[.int .i64 0, .int .i64 0, .int .i64 0, .int .i64 0] 25 (0, 0)) (by (with_reducible repeat (first | refine blk_drewN ?_ _ | refine blk_drew ?_ | refine blk_alloc ?_ _)); exact BK109.out) hb)
          have n2_ := Aside0.mk (below_step (by repeat (first | (with_reducible first | exact HB.out | apply below_alloc | apply pw_below_drewN | apply below_drew1 | refine below_set ?_ GE108.out | refine below_set ?_ GE109.out) | exact HB.out)) hb)
          clear BK108
          clear BK109
          clear HB
          have BK108 := n0_
          have BK109 := n1_
          have HB := n2_
          clear n0_ n1_ n2_
          (try clear hb)
          (try clear hb2)
          (try clear hk)
          (try clear hi)
          refine hK.out _ _ ⟨(blk_cell BK108.out 0).trans rfl, (blk_cell BK108.out 1).trans rfl⟩ (fun hHeld => ?_)
          clear hK K
          refine norm_ (a' := ?_) ?_ ?_
          rotate_left
          · show Act.put _ (some 12) _ = _
            simp only [Act.put, List.setIfInBounds_toArray, List.set_cons_zero, List.set_cons_succ, i64_w, i32_w]
            rfl
          refine pure_ (i := 3) (N := some 13) (v := ?_) (a' := ?_) #[true, true, true, true, true, true, false, false, false, false] rfl rfl (any_of HT_.out (by kernel_rfl)) (fun _ _ _ h => h) (Or.inl ⟨by rfl, ?_⟩) ?_ ?_
          rotate_left
          · intro w'
            go_simp
            with_reducible rfl
          rotate_left
          · simp only [Act.put, List.setIfInBounds_toArray, List.set_cons_zero, List.set_cons_succ, i64_w, i32_w]
            rfl
          refine one_ (i := 6) (N := some 16) #[true, true, true, true, true, true, true, false, false, false] rfl rfl (one_of HT_.out (by kernel_rfl)) (by decide) (fun K hK => ?_)
          refine goes_ Try.func60 (by kernel_rfl) rfl #[.agg #[.int .i64 a0_0, .bool a0_1]] (by rfl) rfl rfl (by (try simp only [List.map_toArray, List.map_cons, List.map_nil]); first | done | rfl | (simp only [List.length_drop, List.length_take]; rfl)) ?_
          with_reducible refine (code_steps_ten.calls a0_0 a0_1 t111 _ A5.out).mono ?_
          rintro e w33 ⟨rfl, hb⟩
          refine ⟨_, rfl, ?_⟩
          have n0_ := Aside0.mk (blk_below (g := gb108) (o := .cells #[.int .i64 a0_0, .bool a0_1] 66 (0, 0)) (by (with_reducible repeat (first | refine blk_drewN ?_ _ | refine blk_drew ?_ | refine blk_alloc ?_ _)); exact BK108.out) hb)
          have n1_ := Aside0.mk (blk_below (g := gb109) (o := .cells #[.int .i64 0, .int .i64 0, .int .i64 0, .int .i64 0] 25 (0, 0)) (by (with_reducible repeat (first | refine blk_drewN ?_ _ | refine blk_drew ?_ | refine blk_alloc ?_ _)); exact BK109.out) hb)
          have n2_ := Aside0.mk (below_step (by repeat (first | (with_reducible first | exact HB.out | apply below_alloc | apply pw_below_drewN | apply below_drew1 | refine below_set ?_ GE108.out | refine below_set ?_ GE109.out) | exact HB.out)) hb)
          clear BK108
          clear BK109
          clear HB
          have BK108 := n0_
          have BK109 := n1_
          have HB := n2_
          clear n0_ n1_ n2_
          (try clear hb)
          (try clear hb2)
          (try clear hk)
          (try clear hi)
          refine hK.out _ _ ⟨(blk_cell BK108.out 0).trans rfl, (blk_cell BK108.out 1).trans rfl⟩ (fun hHeld => ?_)
          clear hK K
          refine norm_ (a' := ?_) ?_ ?_
          rotate_left
          · show Act.put _ (some 16) _ = _
            simp only [Act.put, List.setIfInBounds_toArray, List.set_cons_zero, List.set_cons_succ, i64_w, i32_w]
            rfl
          refine pure_ (i := 7) (N := some 17) (v := ?_) (a' := ?_) #[true, true, true, true, true, true, true, true, false, false] rfl rfl (any_of HT_.out (by kernel_rfl)) (fun _ _ _ h => h) (Or.inl ⟨by rfl, ?_⟩) ?_ ?_
          rotate_left
          · intro w'
            go_simp
            with_reducible rfl
          rotate_left
          · simp only [Act.put, List.setIfInBounds_toArray, List.set_cons_zero, List.set_cons_succ, i64_w, i32_w]
            rfl
          refine pure_ (i := 8) (N := some 5) (v := ?_) (a' := ?_) #[true, true, true, true, true, true, true, true, true, false] rfl rfl (any_of HT_.out (by kernel_rfl)) (fun _ _ _ h => h) (Or.inl ⟨by rfl, ?_⟩) ?_ ?_
          rotate_left
          · intro w'
            go_simp
            with_reducible rfl
          rotate_left
          · simp only [Act.put, List.setIfInBounds_toArray, List.set_cons_zero, List.set_cons_succ, i64_w, i32_w]
            rfl
          refine pure_ (i := 9) (N := some 6) (v := ?_) (a' := ?_) #[true, true, true, true, true, true, true, true, true, true] rfl rfl (any_of HT_.out (by kernel_rfl)) (fun _ _ _ h => h) (Or.inl ⟨by rfl, ?_⟩) ?_ ?_
          rotate_left
          · intro w'
            go_simp
            with_reducible rfl
          rotate_left
          · simp only [Act.put, List.setIfInBounds_toArray, List.set_cons_zero, List.set_cons_succ, i64_w, i32_w]
            rfl
          refine done_ (done_of HT_.out (by kernel_rfl)) ?_
          try go_wp2
          have n0_ := Aside0.mk (blk_drew BK108.out)
          have n1_ := Aside0.mk (blk_drew BK109.out)
          have n2_ := Aside0.mk (below_drew1 HB.out)
          clear BK108
          clear BK109
          clear HB
          have BK108 := n0_
          have BK109 := n1_
          have HB := n2_
          clear n0_ n1_ n2_
          refine start_ (n := 8) (S := fun w' => w'.cell? ⟨gb108, 0, none⟩ = some (.int .i64 a0_0) ∧ w'.cell? ⟨gb108, 1, none⟩ = some (.bool a0_1)) (ds := []) #[false, false, false, false, false, false, false, false] (by kernel_rfl) rfl rfl ⟨(blk_cell BK108.out 0).trans rfl, (blk_cell BK108.out 1).trans rfl⟩ (fun hHeld => ?_); refine with_tabW code_steps_code.tab2 code_steps_code.bits2 (fun HT_ HW_ => ?_)
          generalize w33.drew = w34 at BK108 BK109 HB hHeld ⊢
          refine pure_ (i := 0) (N := some 18) (v := ?_) (a' := ?_) #[true, false, false, false, false, false, false, false] rfl rfl (any_of HT_.out (by kernel_rfl)) (fun _ _ _ h => h) (Or.inl ⟨by rfl, ?_⟩) ?_ ?_
          rotate_left
          · intro w'
            go_simp
            with_reducible rfl
          rotate_left
          · simp only [Act.put, List.setIfInBounds_toArray, List.set_cons_zero, List.set_cons_succ, i64_w, i32_w]
            rfl
          refine pure_ (i := 1) (N := some 19) (v := ?_) (a' := ?_) #[true, true, false, false, false, false, false, false] rfl rfl (any_of HT_.out (by kernel_rfl)) (fun _ _ _ h => h) (Or.inl ⟨by rfl, ?_⟩) ?_ ?_
          rotate_left
          · intro w'
            go_simp
            with_reducible rfl
          rotate_left
          · simp only [Act.put, List.setIfInBounds_toArray, List.set_cons_zero, List.set_cons_succ, i64_w, i32_w]
            rfl
          refine take_ (i := 2) (N := some 20) (v := ?_) (a' := ?_) #[true, true, true, false, false, false, false, false] rfl rfl (take_ofW HT_.out HW_.out (by kernel_rfl)) (fun _ _ _ h => h) (Or.inl ⟨by rfl, ?_⟩) hHeld ?_ ?_
          rotate_left
          · rintro w' ⟨s0, s1⟩
            go_simp
            with_reducible rfl
          rotate_left
          · simp only [Act.put, List.setIfInBounds_toArray, List.set_cons_zero, List.set_cons_succ, i64_w, i32_w]
            rfl
          refine pure_ (i := 3) (N := some 21) (v := ?_) (a' := ?_) #[true, true, true, true, false, false, false, false] rfl rfl (any_of HT_.out (by kernel_rfl)) (fun _ _ _ h => h) (Or.inl ⟨by rfl, ?_⟩) ?_ ?_
          rotate_left
          · intro w'
            go_simp
            with_reducible rfl
          rotate_left
          · simp only [Act.put, List.setIfInBounds_toArray, List.set_cons_zero, List.set_cons_succ, i64_w, i32_w]
            rfl
          refine take_ (i := 4) (N := some 22) (v := ?_) (a' := ?_) #[true, true, true, true, true, false, false, false] rfl rfl (take_ofW HT_.out HW_.out (by kernel_rfl)) (fun _ _ _ h => h) (Or.inl ⟨by rfl, ?_⟩) hHeld ?_ ?_
          rotate_left
          · rintro w' ⟨s0, s1⟩
            go_simp
            with_reducible rfl
          rotate_left
          · simp only [Act.put, List.setIfInBounds_toArray, List.set_cons_zero, List.set_cons_succ, i64_w, i32_w]
            rfl
          refine one_ (i := 5) (N := some 23) #[true, true, true, true, true, true, false, false] rfl rfl (one_of HT_.out (by kernel_rfl)) (by decide) (fun K hK => ?_)
          refine goes_ Try.func61 (by kernel_rfl) rfl #[.agg #[.int .i64 a0_0, .bool a0_1]] (by rfl) rfl rfl (by (try simp only [List.map_toArray, List.map_cons, List.map_nil]); first | done | rfl | (simp only [List.length_drop, List.length_take]; rfl)) ?_
          with_reducible refine (code_steps_dropped.calls a0_0 a0_1 t112 _ A7.out).mono ?_
          rintro e w35 ⟨rfl, hb⟩
          refine ⟨_, rfl, ?_⟩
          have n0_ := Aside0.mk (blk_below (g := gb108) (o := .cells #[.int .i64 a0_0, .bool a0_1] 66 (0, 0)) (by (with_reducible repeat (first | refine blk_drewN ?_ _ | refine blk_drew ?_ | refine blk_alloc ?_ _)); exact BK108.out) hb)
          have n1_ := Aside0.mk (blk_below (g := gb109) (o := .cells #[.int .i64 0, .int .i64 0, .int .i64 0, .int .i64 0] 25 (0, 0)) (by (with_reducible repeat (first | refine blk_drewN ?_ _ | refine blk_drew ?_ | refine blk_alloc ?_ _)); exact BK109.out) hb)
          have n2_ := Aside0.mk (below_step (by repeat (first | (with_reducible first | exact HB.out | apply below_alloc | apply pw_below_drewN | apply below_drew1 | refine below_set ?_ GE108.out | refine below_set ?_ GE109.out) | exact HB.out)) hb)
          clear BK108
          clear BK109
          clear HB
          have BK108 := n0_
          have BK109 := n1_
          have HB := n2_
          clear n0_ n1_ n2_
          (try clear hb)
          (try clear hb2)
          (try clear hk)
          (try clear hi)
          refine hK.out _ _ ⟨(blk_cell BK108.out 0).trans rfl, (blk_cell BK108.out 1).trans rfl⟩ (fun hHeld => ?_)
          clear hK K
          refine norm_ (a' := ?_) ?_ ?_
          rotate_left
          · show Act.put _ (some 23) _ = _
            simp only [Act.put, List.setIfInBounds_toArray, List.set_cons_zero, List.set_cons_succ, i64_w, i32_w]
            rfl
          refine pure_ (i := 6) (N := some 24) (v := ?_) (a' := ?_) #[true, true, true, true, true, true, true, false] rfl rfl (any_of HT_.out (by kernel_rfl)) (fun _ _ _ h => h) (Or.inl ⟨by rfl, ?_⟩) ?_ ?_
          rotate_left
          · intro w'
            go_simp
            with_reducible rfl
          rotate_left
          · simp only [Act.put, List.setIfInBounds_toArray, List.set_cons_zero, List.set_cons_succ, i64_w, i32_w]
            rfl
          refine pure_ (i := 7) (N := some 7) (v := ?_) (a' := ?_) #[true, true, true, true, true, true, true, true] rfl rfl (any_of HT_.out (by kernel_rfl)) (fun _ _ _ h => h) (Or.inl ⟨by rfl, ?_⟩) ?_ ?_
          rotate_left
          · intro w'
            go_simp
            with_reducible rfl
          rotate_left
          · simp only [Act.put, List.setIfInBounds_toArray, List.set_cons_zero, List.set_cons_succ, i64_w, i32_w]
            rfl
          refine done_ (done_of HT_.out (by kernel_rfl)) ?_
          have hnb36 := NB108_109.out
          have hnc36 := NB109_108.out
          have hcz37_0 : w35.cell? ⟨gb108, 0, none⟩ = some (.int .i64 a0_0) := (blk_cell BK108.out 0).trans rfl
          have hcz37_1 : w35.cell? ⟨gb108, 1, none⟩ = some (.bool a0_1) := (blk_cell BK108.out 1).trans rfl
          have hfz37_0 := blk_frozen BK108.out 0
          have hfz37_1 := blk_frozen BK108.out 1
          try go_wp2_with (first | ((with_reducible refine gate_callee (f := 61) rfl ?_); refine goesL_ (some 29) rfl rfl Try.func61 (by kernel_rfl) rfl #[.agg #[.int .i64 a0_0, .bool a0_1]] rfl (by (try simp only [List.map_toArray, List.map_cons, List.map_nil]); first | done | rfl | (simp only [List.length_drop, List.length_take]; rfl)) ?_; (with_reducible refine (code_steps_dropped.calls a0_0 a0_1 t113 _ A8.out).mono ?_); rintro e w38 ⟨rfl, hb⟩; refine ⟨_, rfl, ?_⟩; have n0_ := Aside0.mk (blk_below (g := gb108) (o := .cells #[.int .i64 a0_0, .bool a0_1] 66 (0, 0)) (by (with_reducible repeat (first | refine blk_drewN ?_ _ | refine blk_drew ?_ | refine blk_alloc ?_ _)); exact BK108.out) hb); have n1_ := Aside0.mk (blk_below (g := gb109) (o := .cells #[.int .i64 0, .int .i64 0, .int .i64 0, .int .i64 0] 25 (0, 0)) (by (with_reducible repeat (first | refine blk_drewN ?_ _ | refine blk_drew ?_ | refine blk_alloc ?_ _)); exact BK109.out) hb); have n2_ := Aside0.mk (below_step (by repeat (first | (with_reducible first | exact HB.out | apply below_alloc | apply pw_below_drewN | apply below_drew1 | refine below_set ?_ GE108.out | refine below_set ?_ GE109.out) | exact HB.out)) hb); clear BK108; clear BK109; clear HB; have BK108 := n0_; have BK109 := n1_; have HB := n2_; clear n0_ n1_ n2_; (try clear hb); (try clear hb2); (try clear hk); (try clear hi); have hcz39_0 : w38.cell? ⟨gb108, 0, none⟩ = some (.int .i64 a0_0) := (blk_cell BK108.out 0).trans rfl; have hcz39_1 : w38.cell? ⟨gb108, 1, none⟩ = some (.bool a0_1) := (blk_cell BK108.out 1).trans rfl; have hfz39_0 := blk_frozen BK108.out 0; have hfz39_1 := blk_frozen BK108.out 1; have hcz40_0 : w38.cell? ⟨gb109, 0, none⟩ = some (.int .i64 0) := (blk_cell BK109.out 0).trans rfl; have hcz40_1 : w38.cell? ⟨gb109, 1, none⟩ = some (.int .i64 0) := (blk_cell BK109.out 1).trans rfl; have hcz40_2 : w38.cell? ⟨gb109, 2, none⟩ = some (.int .i64 0) := (blk_cell BK109.out 2).trans rfl; have hcz40_3 : w38.cell? ⟨gb109, 3, none⟩ = some (.int .i64 0) := (blk_cell BK109.out 3).trans rfl; have hfz40_0 := blk_frozen BK109.out 0; have hfz40_1 := blk_frozen BK109.out 1; have hfz40_2 := blk_frozen BK109.out 2; have hfz40_3 := blk_frozen BK109.out 3))
          refine bodyPost_ret (results_cell_row rfl _ _ gb109 25 #[.int .i64 (wrap64 (Int.tdiv (wrap64 (Int.tdiv (wrap64 (a1 + (wrap64 ((wrap64 ((wrap64 (Int.tdiv a1 t110)) * 9)) * t113)))) a0_0)) 3600)), .int .i64 (Int.tmod (wrap64 (Int.tdiv (wrap64 (Int.tdiv (wrap64 (a1 + (wrap64 ((wrap64 ((wrap64 (Int.tdiv a1 t110)) * 9)) * t113)))) a0_0)) 60)) 60), .int .i64 (Int.tmod (wrap64 (Int.tdiv (wrap64 (a1 + (wrap64 ((wrap64 ((wrap64 (Int.tdiv a1 t110)) * 9)) * t113)))) a0_0)) 60), .int .i64 (Int.tmod (wrap64 (a1 + (wrap64 ((wrap64 ((wrap64 (Int.tdiv a1 t110)) * 9)) * t113)))) a0_0)] (0, 0) _ rfl (by (with_reducible repeat (first | refine blk_drewN ?_ _ | refine blk_drew ?_ | refine blk_alloc ?_ _)); refine blk_put (cs := #[.int .i64 (wrap64 (Int.tdiv (wrap64 (Int.tdiv (wrap64 (a1 + (wrap64 ((wrap64 ((wrap64 (Int.tdiv a1 t110)) * 9)) * t113)))) a0_0)) 3600)), .int .i64 (Int.tmod (wrap64 (Int.tdiv (wrap64 (Int.tdiv (wrap64 (a1 + (wrap64 ((wrap64 ((wrap64 (Int.tdiv a1 t110)) * 9)) * t113)))) a0_0)) 60)) 60), .int .i64 (Int.tmod (wrap64 (Int.tdiv (wrap64 (a1 + (wrap64 ((wrap64 ((wrap64 (Int.tdiv a1 t110)) * 9)) * t113)))) a0_0)) 60), .int .i64 0]) ?_ 3 _ rfl; (with_reducible repeat (first | refine blk_drewN ?_ _ | refine blk_drew ?_ | refine blk_alloc ?_ _)); refine blk_put (cs := #[.int .i64 (wrap64 (Int.tdiv (wrap64 (Int.tdiv (wrap64 (a1 + (wrap64 ((wrap64 ((wrap64 (Int.tdiv a1 t110)) * 9)) * t113)))) a0_0)) 3600)), .int .i64 (Int.tmod (wrap64 (Int.tdiv (wrap64 (Int.tdiv (wrap64 (a1 + (wrap64 ((wrap64 ((wrap64 (Int.tdiv a1 t110)) * 9)) * t113)))) a0_0)) 60)) 60), .int .i64 0, .int .i64 0]) ?_ 2 _ rfl; (with_reducible repeat (first | refine blk_drewN ?_ _ | refine blk_drew ?_ | refine blk_alloc ?_ _)); refine blk_put (cs := #[.int .i64 (wrap64 (Int.tdiv (wrap64 (Int.tdiv (wrap64 (a1 + (wrap64 ((wrap64 ((wrap64 (Int.tdiv a1 t110)) * 9)) * t113)))) a0_0)) 3600)), .int .i64 0, .int .i64 0, .int .i64 0]) ?_ 1 _ rfl; (with_reducible repeat (first | refine blk_drewN ?_ _ | refine blk_drew ?_ | refine blk_alloc ?_ _)); refine blk_put (cs := #[.int .i64 0, .int .i64 0, .int .i64 0, .int .i64 0]) ?_ 0 _ rfl; (with_reducible repeat (first | refine blk_drewN ?_ _ | refine blk_drew ?_ | refine blk_alloc ?_ _)); exact BK109.out) Try.underlying25 rfl (by kernel_rfl)) rfl ?_
          exact ⟨by first | rfl | (simp [errW_none, errW_some] <;> rfl) | (simp [*, errW_none, errW_some] <;> rfl), by repeat (first | (with_reducible first | exact HB.out | apply below_alloc | apply pw_below_drewN | apply below_drew1 | refine below_set ?_ GE108.out | refine below_set ?_ GE109.out) | exact HB.out)⟩

end Go.Proofs.Ytndbhfbgigefnaa.PA
