-- PRINTED by print.py (a twelfth state) out of the translation. Not trusted: Lean checks it.
import Derived.Test.YtndbhfbgigefnaaPAx0
import Derived.Test.YtndbhfbgigefnaaPAx2
import Derived.Test.YtndbhfbgigefnaaPAx11
import Derived.Test.YtndbhfbgigefnaaPAx24
import Derived.Test.YtndbhfbgigefnaaPAx36
import Derived.Test.YtndbhfbgigefnaaPAx38
import Derived.Test.YtndbhfbgigefnaaPAx43
namespace Go.Proofs.Ytndbhfbgigefnaa.PA
open Go.RowKit Go.Proofs.YtndbhfbgigefnaaW.PrintWords Go.Proofs.YtndbhfbgigefnaaW.PrintLast Go.Proofs.YtndbhfbgigefnaaW.PrintMore
attribute [local go_sem] max2_int min2_int max_two min_two max_three min_three max_four min_four   -- for this text's walks alone
set_option linter.unusedVariables false
set_option linter.unusedSimpArgs false

attribute [local go_sem high] eqA25
/-! ### dioramalaw20_CodeBack: function 10 -/
def dioramalaw20_CodeBack.j0 : Nat → Int → Int → Bool → Option (Bool)
  | 0, _, _, _ => none
  | k + 1, x2, x459000, x459001 => (code_Code.f x459000 x459001 x2).bind fun bt476 => (if bt476.2.2.2.2 = 0 then ((code_Count.f k x459000 x459001 bt476.1 bt476.2.1 bt476.2.2.1 bt476.2.2.2.1).bind fun bt482 => (if bt482.2 = 0 then (if bt482.1 = x2 then ((dioramalaw20_awake.f k).bind fun t484 => (some t484)) else (some false)) else (some false))) else ((dioramalaw20_awake.f k).bind fun t485 => (some t485)))
def dioramalaw20_CodeBack.f (k : Nat) (a0_0 : Int) (a0_1 : Bool) (a1_0 : Int) (a1_1 : Int) (a1_2 : Int) (a1_3 : Int) (a2 : Int) : Option (Bool) := (code_Count.f k a0_0 a0_1 a1_0 a1_1 a1_2 a1_3).bind fun bt460 => (if bt460.2 = 0 then ((code_Code.f a0_0 a0_1 bt460.1).bind fun bt462 => ((code_Format.f k a0_0 a0_1 a1_0 a1_1 a1_2 a1_3).bind fun bt468 => ((code_Parse.f k a0_0 a0_1 bt468.1).bind fun bt470 => (if bt462.2.2.2.2 = 0 then (if (!(bt462.1 == a1_0) || (!(bt462.2.1 == a1_1) || (!(bt462.2.2.1 == a1_2) || (!(bt462.2.2.2.1 == a1_3))))) = true then (some false) else (if bt468.2 = 0 then (if bt470.2.2.2.2 = 0 then (if (!(bt470.1 == a1_0) || (!(bt470.2.1 == a1_1) || (!(bt470.2.2.1 == a1_2) || (!(bt470.2.2.2.1 == a1_3))))) = true then (some false) else (dioramalaw20_CodeBack.j0 k a2 a0_0 a0_1)) else (some false)) else (some false))) else (some false))))) else (dioramalaw20_CodeBack.j0 k a2 a0_0 a0_1))
theorem dioramalaw20_CodeBack.mono_l : ∀ k, (∀ y0 y1 y2, LeO (dioramalaw20_CodeBack.j0 k y0 y1 y2) (dioramalaw20_CodeBack.j0 (k + 1) y0 y1 y2))
  | 0 => fun _ _ _ r h => by simp [dioramalaw20_CodeBack.j0] at h
  | k + 1 => by
    have ih0 := dioramalaw20_CodeBack.mono_l k
    · intro y0 y1 y2
      unfold dioramalaw20_CodeBack.j0
      repeat' first
      | (with_reducible exact ih0 _ _ _)
      | (with_reducible exact code_Count.mono _ _ _ _ _ _ _)
      | (with_reducible exact code_Format.mono _ _ _ _ _ _ _)
      | (with_reducible exact code_Parse.mono _ _ _ _)
      | (with_reducible exact dioramalaw20_awake.mono _)
      | (with_reducible exact LeO.refl _)
      | (with_reducible exact LeO.none _)
      | (with_reducible refine LeO.ite ?_ ?_)
      | (with_reducible refine LeO.bind ?_ (fun _ => ?_))
      | exact ih0 _ _ _
      | exact code_Count.mono _ _ _ _ _ _ _
      | exact code_Format.mono _ _ _ _ _ _ _
      | exact code_Parse.mono _ _ _ _
      | exact dioramalaw20_awake.mono _
      | exact LeO.none _
      | refine LeO.ite ?_ ?_
      | refine LeO.bind ?_ (fun _ => ?_)
theorem dioramalaw20_CodeBack.mono : ∀ a0 a1 a2 a3 a4 a5 a6 k, LeO (dioramalaw20_CodeBack.f k a0 a1 a2 a3 a4 a5 a6) (dioramalaw20_CodeBack.f (k + 1) a0 a1 a2 a3 a4 a5 a6) := by
  intro a0 a1 a2 a3 a4 a5 a6 k
  have ih0 := dioramalaw20_CodeBack.mono_l k
  unfold dioramalaw20_CodeBack.f
  repeat' first
      | (with_reducible exact ih0 _ _ _)
      | (with_reducible exact code_Count.mono _ _ _ _ _ _ _)
      | (with_reducible exact code_Format.mono _ _ _ _ _ _ _)
      | (with_reducible exact code_Parse.mono _ _ _ _)
      | (with_reducible exact dioramalaw20_awake.mono _)
      | (with_reducible exact LeO.refl _)
      | (with_reducible exact LeO.none _)
      | (with_reducible refine LeO.ite ?_ ?_)
      | (with_reducible refine LeO.bind ?_ (fun _ => ?_))
      | exact ih0 _ _ _
      | exact code_Count.mono _ _ _ _ _ _ _
      | exact code_Format.mono _ _ _ _ _ _ _
      | exact code_Parse.mono _ _ _ _
      | exact dioramalaw20_awake.mono _
      | exact LeO.none _
      | refine LeO.ite ?_ ?_
      | refine LeO.bind ?_ (fun _ => ?_)
set_option maxHeartbeats 8000000 in
set_option maxRecDepth 100000 in
theorem dioramalaw20_CodeBack.calls (k : Nat) (a0_0 : Int) (a0_1 : Bool) (a1_0 : Int) (a1_1 : Int) (a1_2 : Int) (a1_3 : Int) (a2 : Int) (r : Bool) (w : World) (h : dioramalaw20_CodeBack.f k a0_0 a0_1 a1_0 a1_1 a1_2 a1_3 a2 = some r) (hrt : r = true) :
    Calls Try.prog 10 #[.agg #[.int .i64 a0_0, .bool a0_1], .agg #[.int .i64 a1_0, .int .i64 a1_1, .int .i64 a1_2, .int .i64 a1_3], .int .i64 a2] w fun e w' => e = .returned (.bool r) ∧ Below w.heap.size w w' := by
  have hu23 := Try.underlying23
  have hu25 := Try.underlying25
  have HB := Aside0.mk (Below.refl w.heap.size w)
  have H : ((code_Count.f k a0_0 a0_1 a1_0 a1_1 a1_2 a1_3).bind fun bt460 => (if bt460.2 = 0 then ((code_Code.f a0_0 a0_1 bt460.1).bind fun bt462 => ((code_Format.f k a0_0 a0_1 a1_0 a1_1 a1_2 a1_3).bind fun bt468 => ((code_Parse.f k a0_0 a0_1 bt468.1).bind fun bt470 => (if bt462.2.2.2.2 = 0 then (if (!(bt462.1 == a1_0) || (!(bt462.2.1 == a1_1) || (!(bt462.2.2.1 == a1_2) || (!(bt462.2.2.2.1 == a1_3))))) = true then (some false) else (if bt468.2 = 0 then (if bt470.2.2.2.2 = 0 then (if (!(bt470.1 == a1_0) || (!(bt470.2.1 == a1_1) || (!(bt470.2.2.1 == a1_2) || (!(bt470.2.2.2.1 == a1_3))))) = true then (some false) else (dioramalaw20_CodeBack.j0 k a2 a0_0 a0_1)) else (some false)) else (some false))) else (some false))))) else (dioramalaw20_CodeBack.j0 k a2 a0_0 a0_1))) = some r := h
  clear h
  replace H := Option.bind_eq_some_iff.mp H
  obtain ⟨⟨t460, t461⟩, A40, H⟩ := H
  replace H : (if t461 = 0 then ((code_Code.f a0_0 a0_1 t460).bind fun bt462 => ((code_Format.f k a0_0 a0_1 a1_0 a1_1 a1_2 a1_3).bind fun bt468 => ((code_Parse.f k a0_0 a0_1 bt468.1).bind fun bt470 => (if bt462.2.2.2.2 = 0 then (if (!(bt462.1 == a1_0) || (!(bt462.2.1 == a1_1) || (!(bt462.2.2.1 == a1_2) || (!(bt462.2.2.2.1 == a1_3))))) = true then (some false) else (if bt468.2 = 0 then (if bt470.2.2.2.2 = 0 then (if (!(bt470.1 == a1_0) || (!(bt470.2.1 == a1_1) || (!(bt470.2.2.1 == a1_2) || (!(bt470.2.2.2.1 == a1_3))))) = true then (some false) else (dioramalaw20_CodeBack.j0 k a2 a0_0 a0_1)) else (some false)) else (some false))) else (some false))))) else (dioramalaw20_CodeBack.j0 k a2 a0_0 a0_1)) = some r := H
  have A4 := Aside0.mk A40
  clear A40
  have HC5 := Aside0.mk H
  clear H
  go_enter Try.func10, Try.ntmps10
  go_upto_if 26 with (first | ((with_reducible refine gate_dst (N := 3) rfl ?_); refine box_event ?hg (N := 3) ?hd (cs := #[.int .i64 a0_0, .bool a0_1]) (t := 23) ?hr ?_; (case hd => rfl); (case hg => rfl); (case hr => first | (go_simp; done) | (go_simp; rfl)); intro gb458 hg w6 hbox hb; have n0_ := Aside0.mk (below_step (by repeat (first | (with_reducible first | exact HB.out | apply below_alloc | apply pw_below_drewN | apply below_drew1) | exact HB.out)) hb); have n1_ := Aside0.mk (hbox); have n2_ := Aside0.mk ((by rw [hg]; exact (below_size (by repeat (first | (with_reducible first | exact HB.out | apply below_alloc | apply pw_below_drewN | apply below_drew1) | exact HB.out))) : w.heap.size ≤ gb458)); have n3_ := Aside0.mk ((by rw [hg]; exact (below_size (by repeat (first | (with_reducible first | exact HB.out | apply below_alloc | apply pw_below_drewN | apply below_drew1) | exact HB.out))) : w.heap.size ≤ gb458)); clear HB; have HB := n0_; have BK458 := n1_; have GW458 := n2_; have GE458 := n3_; clear n0_ n1_ n2_ n3_; clear hb hbox hg) | ((with_reducible refine gate_dst (N := 4) rfl ?_); refine box_event ?hg (N := 4) ?hd (cs := #[.int .i64 a1_0, .int .i64 a1_1, .int .i64 a1_2, .int .i64 a1_3]) (t := 25) ?hr ?_; (case hd => rfl); (case hg => rfl); (case hr => first | (go_simp; done) | (go_simp; rfl)); intro gb459 hg w7 hbox hb; have n0_ := Aside0.mk (blk_below (g := gb458) (o := .cells #[.int .i64 a0_0, .bool a0_1] 23 (0, 0)) (by (with_reducible repeat (first | refine blk_drewN ?_ _ | refine blk_drew ?_ | refine blk_alloc ?_ _)); exact BK458.out) hb); have n1_ := Aside0.mk (below_step (by repeat (first | (with_reducible first | exact HB.out | apply below_alloc | apply pw_below_drewN | apply below_drew1 | refine below_set ?_ GE458.out) | exact HB.out)) hb); have n2_ := Aside0.mk (hbox); have n3_ := Aside0.mk ((by rw [hg]; exact (below_size (by repeat (first | (with_reducible first | exact HB.out | apply below_alloc | apply pw_below_drewN | apply below_drew1 | refine below_set ?_ GE458.out) | exact HB.out))) : w.heap.size ≤ gb459)); have n4_ := Aside0.mk ((by rw [hg]; exact (below_size (by repeat (first | (with_reducible first | exact HB.out | apply below_alloc | apply pw_below_drewN | apply below_drew1 | refine below_set ?_ GE458.out) | exact HB.out))) : w.heap.size ≤ gb459)); have n5_ := Aside0.mk ((by rw [hg]; exact Nat.ne_of_lt (blk_lt (g := gb458) (o := .cells #[.int .i64 a0_0, .bool a0_1] 23 (0, 0)) (by (with_reducible repeat (first | refine blk_drewN ?_ _ | refine blk_drew ?_ | refine blk_alloc ?_ _)); exact BK458.out)) : gb458 ≠ gb459)); have n6_ := Aside0.mk ((by rw [hg]; exact Nat.ne_of_gt (blk_lt (g := gb458) (o := .cells #[.int .i64 a0_0, .bool a0_1] 23 (0, 0)) (by (with_reducible repeat (first | refine blk_drewN ?_ _ | refine blk_drew ?_ | refine blk_alloc ?_ _)); exact BK458.out)) : gb459 ≠ gb458)); clear BK458; clear HB; have BK458 := n0_; have HB := n1_; have BK459 := n2_; have GW459 := n3_; have GE459 := n4_; have NB458_459 := n5_; have NB459_458 := n6_; clear n0_ n1_ n2_ n3_ n4_ n5_ n6_; clear hb hbox hg; have hnb8 := NB458_459.out; have hnc8 := NB459_458.out; have hcz9_0 : w7.cell? ⟨gb458, 0, none⟩ = some (.int .i64 a0_0) := (blk_cell BK458.out 0).trans rfl; have hcz9_1 : w7.cell? ⟨gb458, 1, none⟩ = some (.bool a0_1) := (blk_cell BK458.out 1).trans rfl; have hfz9_0 := blk_frozen BK458.out 0; have hfz9_1 := blk_frozen BK458.out 1; have hcz10_0 : w7.cell? ⟨gb459, 0, none⟩ = some (.int .i64 a1_0) := (blk_cell BK459.out 0).trans rfl; have hcz10_1 : w7.cell? ⟨gb459, 1, none⟩ = some (.int .i64 a1_1) := (blk_cell BK459.out 1).trans rfl; have hcz10_2 : w7.cell? ⟨gb459, 2, none⟩ = some (.int .i64 a1_2) := (blk_cell BK459.out 2).trans rfl; have hcz10_3 : w7.cell? ⟨gb459, 3, none⟩ = some (.int .i64 a1_3) := (blk_cell BK459.out 3).trans rfl; have hfz10_0 := blk_frozen BK459.out 0; have hfz10_1 := blk_frozen BK459.out 1; have hfz10_2 := blk_frozen BK459.out 2; have hfz10_3 := blk_frozen BK459.out 3) | ((with_reducible refine gate_callee (f := 21) rfl ?_); refine goesL_ (some 22) rfl rfl Try.func21 (by kernel_rfl) rfl #[.agg #[.int .i64 a0_0, .bool a0_1], .agg #[.int .i64 a1_0, .int .i64 a1_1, .int .i64 a1_2, .int .i64 a1_3]] rfl (by (try simp only [List.map_toArray, List.map_cons, List.map_nil]); first | done | rfl | (simp only [List.length_drop, List.length_take]; rfl)) ?_; (with_reducible refine (code_Count.calls k a0_0 a0_1 a1_0 a1_1 a1_2 a1_3 t460 t461 _ A4.out).mono ?_); rintro e w11 ⟨rfl, hb⟩; refine ⟨_, rfl, ?_⟩; have n0_ := Aside0.mk (blk_below (g := gb458) (o := .cells #[.int .i64 a0_0, .bool a0_1] 23 (0, 0)) (by (with_reducible repeat (first | refine blk_drewN ?_ _ | refine blk_drew ?_ | refine blk_alloc ?_ _)); exact BK458.out) hb); have n1_ := Aside0.mk (blk_below (g := gb459) (o := .cells #[.int .i64 a1_0, .int .i64 a1_1, .int .i64 a1_2, .int .i64 a1_3] 25 (0, 0)) (by (with_reducible repeat (first | refine blk_drewN ?_ _ | refine blk_drew ?_ | refine blk_alloc ?_ _)); exact BK459.out) hb); have n2_ := Aside0.mk (below_step (by repeat (first | (with_reducible first | exact HB.out | apply below_alloc | apply pw_below_drewN | apply below_drew1 | refine below_set ?_ GE458.out | refine below_set ?_ GE459.out) | exact HB.out)) hb); clear BK458; clear BK459; clear HB; have BK458 := n0_; have BK459 := n1_; have HB := n2_; clear n0_ n1_ n2_; (try clear hb); (try clear hb2); (try clear hk); (try clear hi)))
  (try simp only [Act.put, List.setIfInBounds_toArray, List.set_cons_zero, List.set_cons_succ])
  go_cut [] (fun wc => ∃ (kq : Nat), Aside0 (dioramalaw20_CodeBack.j0 kq a2 a0_0 a0_1 = some r) ∧ Aside0 (kq ≤ k) ∧ Aside0 (wc.heap[gb458]? = some (.cells #[.int .i64 a0_0, .bool a0_1] 23 (0, 0))) ∧ Aside0 (wc.heap[gb459]? = some (.cells #[.int .i64 a1_0, .int .i64 a1_1, .int .i64 a1_2, .int .i64 a1_3] 25 (0, 0))) ∧ Aside0 (Below w.heap.size w wc))
  case first =>
    have H := HC5.out
    clear HC5
    by_cases c12 : t461 = 0
    · rw [if_pos c12] at H
      have c12b0 : (t461 == 0) = true := beq_iff_eq.mpr c12
      have c12b1 : (t461 != 0) = false := bne_eq_false_iff_eq.mpr c12
      clear c12
      (first | rw [c12b0] | (simp only [i64_w, i32_w]; rw [c12b0]) | skip)
      replace H := Option.bind_eq_some_iff.mp H
      obtain ⟨⟨t462, t463, t464, t465, t466⟩, A130, H⟩ := H
      replace H : ((code_Format.f k a0_0 a0_1 a1_0 a1_1 a1_2 a1_3).bind fun bt468 => ((code_Parse.f k a0_0 a0_1 bt468.1).bind fun bt470 => (if t466 = 0 then (if (!(t462 == a1_0) || (!(t463 == a1_1) || (!(t464 == a1_2) || (!(t465 == a1_3))))) = true then (some false) else (if bt468.2 = 0 then (if bt470.2.2.2.2 = 0 then (if (!(bt470.1 == a1_0) || (!(bt470.2.1 == a1_1) || (!(bt470.2.2.1 == a1_2) || (!(bt470.2.2.2.1 == a1_3))))) = true then (some false) else (dioramalaw20_CodeBack.j0 k a2 a0_0 a0_1)) else (some false)) else (some false))) else (some false)))) = some r := H
      have A13 := Aside0.mk A130
      clear A130
      replace H := Option.bind_eq_some_iff.mp H
      obtain ⟨⟨t468, t469⟩, A140, H⟩ := H
      replace H : ((code_Parse.f k a0_0 a0_1 t468).bind fun bt470 => (if t466 = 0 then (if (!(t462 == a1_0) || (!(t463 == a1_1) || (!(t464 == a1_2) || (!(t465 == a1_3))))) = true then (some false) else (if t469 = 0 then (if bt470.2.2.2.2 = 0 then (if (!(bt470.1 == a1_0) || (!(bt470.2.1 == a1_1) || (!(bt470.2.2.1 == a1_2) || (!(bt470.2.2.2.1 == a1_3))))) = true then (some false) else (dioramalaw20_CodeBack.j0 k a2 a0_0 a0_1)) else (some false)) else (some false))) else (some false))) = some r := H
      have A14 := Aside0.mk A140
      clear A140
      replace H := Option.bind_eq_some_iff.mp H
      obtain ⟨⟨t470, t471, t472, t473, t474⟩, A150, H⟩ := H
      replace H : (if t466 = 0 then (if (!(t462 == a1_0) || (!(t463 == a1_1) || (!(t464 == a1_2) || (!(t465 == a1_3))))) = true then (some false) else (if t469 = 0 then (if t474 = 0 then (if (!(t470 == a1_0) || (!(t471 == a1_1) || (!(t472 == a1_2) || (!(t473 == a1_3))))) = true then (some false) else (dioramalaw20_CodeBack.j0 k a2 a0_0 a0_1)) else (some false)) else (some false))) else (some false)) = some r := H
      have A15 := Aside0.mk A150
      clear A150
      by_cases c16 : t466 = 0
      · rw [if_pos c16] at H
        have c16b0 : (t466 == 0) = true := beq_iff_eq.mpr c16
        have c16b1 : (t466 != 0) = false := bne_eq_false_iff_eq.mpr c16
        clear c16
        by_cases c17 : (!(t462 == a1_0) || (!(t463 == a1_1) || (!(t464 == a1_2) || (!(t465 == a1_3))))) = true
        · rw [if_pos c17] at H
          have c17b0 : (!(t462 == a1_0) || (!(t463 == a1_1) || (!(t464 == a1_2) || (!(t465 == a1_3))))) = true := c17
          clear c17
          exact absurd (Option.some.inj H) (by rw [hrt]; exact Bool.noConfusion)
        · rw [if_neg c17] at H
          have c17b0 : (!(t462 == a1_0) || (!(t463 == a1_1) || (!(t464 == a1_2) || (!(t465 == a1_3))))) = false := by simpa using c17
          clear c17
          by_cases c18 : t469 = 0
          · rw [if_pos c18] at H
            have c18b0 : (t469 == 0) = true := beq_iff_eq.mpr c18
            have c18b1 : (t469 != 0) = false := bne_eq_false_iff_eq.mpr c18
            clear c18
            by_cases c19 : t474 = 0
            · rw [if_pos c19] at H
              have c19b0 : (t474 == 0) = true := beq_iff_eq.mpr c19
              have c19b1 : (t474 != 0) = false := bne_eq_false_iff_eq.mpr c19
              clear c19
              by_cases c20 : (!(t470 == a1_0) || (!(t471 == a1_1) || (!(t472 == a1_2) || (!(t473 == a1_3))))) = true
              · rw [if_pos c20] at H
                have c20b0 : (!(t470 == a1_0) || (!(t471 == a1_1) || (!(t472 == a1_2) || (!(t473 == a1_3))))) = true := c20
                clear c20
                exact absurd (Option.some.inj H) (by rw [hrt]; exact Bool.noConfusion)
              · rw [if_neg c20] at H
                have c20b0 : (!(t470 == a1_0) || (!(t471 == a1_1) || (!(t472 == a1_2) || (!(t473 == a1_3))))) = false := by simpa using c20
                clear c20
                have H' := Aside0.mk H
                clear H
                have hnb21 := NB458_459.out
                have hnc21 := NB459_458.out
                have hcz22_0 : w11.cell? ⟨gb458, 0, none⟩ = some (.int .i64 a0_0) := (blk_cell BK458.out 0).trans rfl
                have hcz22_1 : w11.cell? ⟨gb458, 1, none⟩ = some (.bool a0_1) := (blk_cell BK458.out 1).trans rfl
                have hfz22_0 := blk_frozen BK458.out 0
                have hfz22_1 := blk_frozen BK458.out 1
                go_wp2_with (first | ((with_reducible refine gate_callee (f := 12) rfl ?_); refine goesL_ (some 30) rfl rfl Try.func12 (by kernel_rfl) rfl #[.agg #[.int .i64 a0_0, .bool a0_1], .int .i64 t460] rfl (by (try simp only [List.map_toArray, List.map_cons, List.map_nil]); first | done | rfl | (simp only [List.length_drop, List.length_take]; rfl)) ?_; (with_reducible refine (code_Code.calls a0_0 a0_1 t460 t462 t463 t464 t465 t466 _ A13.out).mono ?_); rintro e w23 ⟨rfl, hb⟩; refine ⟨_, rfl, ?_⟩; have n0_ := Aside0.mk (blk_below (g := gb458) (o := .cells #[.int .i64 a0_0, .bool a0_1] 23 (0, 0)) (by (with_reducible repeat (first | refine blk_drewN ?_ _ | refine blk_drew ?_ | refine blk_alloc ?_ _)); exact BK458.out) hb); have n1_ := Aside0.mk (blk_below (g := gb459) (o := .cells #[.int .i64 a1_0, .int .i64 a1_1, .int .i64 a1_2, .int .i64 a1_3] 25 (0, 0)) (by (with_reducible repeat (first | refine blk_drewN ?_ _ | refine blk_drew ?_ | refine blk_alloc ?_ _)); exact BK459.out) hb); have n2_ := Aside0.mk (below_step (by repeat (first | (with_reducible first | exact HB.out | apply below_alloc | apply pw_below_drewN | apply below_drew1 | refine below_set ?_ GE458.out | refine below_set ?_ GE459.out) | exact HB.out)) hb); clear BK458; clear BK459; clear HB; have BK458 := n0_; have BK459 := n1_; have HB := n2_; clear n0_ n1_ n2_; (try clear hb); (try clear hb2); (try clear hk); (try clear hi)) | ((with_reducible refine gate_dst (N := 9) rfl ?_); refine box_event ?hg (N := 9) ?hd (cs := #[.int .i64 0, .int .i64 0, .int .i64 0, .int .i64 0]) (t := 25) ?hr ?_; (case hd => rfl); (case hg => rfl); (case hr => first | (go_simp; done) | (go_simp; rfl)); intro gb467 hg w24 hbox hb; have n0_ := Aside0.mk (blk_below (g := gb458) (o := .cells #[.int .i64 a0_0, .bool a0_1] 23 (0, 0)) (by (with_reducible repeat (first | refine blk_drewN ?_ _ | refine blk_drew ?_ | refine blk_alloc ?_ _)); exact BK458.out) hb); have n1_ := Aside0.mk (blk_below (g := gb459) (o := .cells #[.int .i64 a1_0, .int .i64 a1_1, .int .i64 a1_2, .int .i64 a1_3] 25 (0, 0)) (by (with_reducible repeat (first | refine blk_drewN ?_ _ | refine blk_drew ?_ | refine blk_alloc ?_ _)); exact BK459.out) hb); have n2_ := Aside0.mk (below_step (by repeat (first | (with_reducible first | exact HB.out | apply below_alloc | apply pw_below_drewN | apply below_drew1 | refine below_set ?_ GE458.out | refine below_set ?_ GE459.out) | exact HB.out)) hb); have n3_ := Aside0.mk (hbox); have n4_ := Aside0.mk ((by rw [hg]; exact (below_size (by repeat (first | (with_reducible first | exact HB.out | apply below_alloc | apply pw_below_drewN | apply below_drew1 | refine below_set ?_ GE458.out | refine below_set ?_ GE459.out) | exact HB.out))) : w.heap.size ≤ gb467)); have n5_ := Aside0.mk ((by rw [hg]; exact (below_size (by repeat (first | (with_reducible first | exact HB.out | apply below_alloc | apply pw_below_drewN | apply below_drew1 | refine below_set ?_ GE458.out | refine below_set ?_ GE459.out) | exact HB.out))) : w.heap.size ≤ gb467)); have n6_ := Aside0.mk ((by rw [hg]; exact Nat.ne_of_lt (blk_lt (g := gb458) (o := .cells #[.int .i64 a0_0, .bool a0_1] 23 (0, 0)) (by (with_reducible repeat (first | refine blk_drewN ?_ _ | refine blk_drew ?_ | refine blk_alloc ?_ _)); exact BK458.out)) : gb458 ≠ gb467)); have n7_ := Aside0.mk ((by rw [hg]; exact Nat.ne_of_gt (blk_lt (g := gb458) (o := .cells #[.int .i64 a0_0, .bool a0_1] 23 (0, 0)) (by (with_reducible repeat (first | refine blk_drewN ?_ _ | refine blk_drew ?_ | refine blk_alloc ?_ _)); exact BK458.out)) : gb467 ≠ gb458)); have n8_ := Aside0.mk ((by rw [hg]; exact Nat.ne_of_lt (blk_lt (g := gb459) (o := .cells #[.int .i64 a1_0, .int .i64 a1_1, .int .i64 a1_2, .int .i64 a1_3] 25 (0, 0)) (by (with_reducible repeat (first | refine blk_drewN ?_ _ | refine blk_drew ?_ | refine blk_alloc ?_ _)); exact BK459.out)) : gb459 ≠ gb467)); have n9_ := Aside0.mk ((by rw [hg]; exact Nat.ne_of_gt (blk_lt (g := gb459) (o := .cells #[.int .i64 a1_0, .int .i64 a1_1, .int .i64 a1_2, .int .i64 a1_3] 25 (0, 0)) (by (with_reducible repeat (first | refine blk_drewN ?_ _ | refine blk_drew ?_ | refine blk_alloc ?_ _)); exact BK459.out)) : gb467 ≠ gb459)); clear BK458; clear BK459; clear HB; have BK458 := n0_; have BK459 := n1_; have HB := n2_; have BK467 := n3_; have GW467 := n4_; have GE467 := n5_; have NB458_467 := n6_; have NB467_458 := n7_; have NB459_467 := n8_; have NB467_459 := n9_; clear n0_ n1_ n2_ n3_ n4_ n5_ n6_ n7_ n8_ n9_; clear hb hbox hg; have hnb25 := NB467_458.out; have hnc25 := NB458_467.out; have hnb26 := NB467_459.out; have hnc26 := NB459_467.out; have hcz27_0 : w24.cell? ⟨gb467, 0, none⟩ = some (.int .i64 0) := (blk_cell BK467.out 0).trans rfl; have hcz27_1 : w24.cell? ⟨gb467, 1, none⟩ = some (.int .i64 0) := (blk_cell BK467.out 1).trans rfl; have hcz27_2 : w24.cell? ⟨gb467, 2, none⟩ = some (.int .i64 0) := (blk_cell BK467.out 2).trans rfl; have hcz27_3 : w24.cell? ⟨gb467, 3, none⟩ = some (.int .i64 0) := (blk_cell BK467.out 3).trans rfl; have hfz27_0 := blk_frozen BK467.out 0; have hfz27_1 := blk_frozen BK467.out 1; have hfz27_2 := blk_frozen BK467.out 2; have hfz27_3 := blk_frozen BK467.out 3; have hcz28_0 : w24.cell? ⟨gb458, 0, none⟩ = some (.int .i64 a0_0) := (blk_cell BK458.out 0).trans rfl; have hcz28_1 : w24.cell? ⟨gb458, 1, none⟩ = some (.bool a0_1) := (blk_cell BK458.out 1).trans rfl; have hfz28_0 := blk_frozen BK458.out 0; have hfz28_1 := blk_frozen BK458.out 1; have hcz29_0 : w24.cell? ⟨gb459, 0, none⟩ = some (.int .i64 a1_0) := (blk_cell BK459.out 0).trans rfl; have hcz29_1 : w24.cell? ⟨gb459, 1, none⟩ = some (.int .i64 a1_1) := (blk_cell BK459.out 1).trans rfl; have hcz29_2 : w24.cell? ⟨gb459, 2, none⟩ = some (.int .i64 a1_2) := (blk_cell BK459.out 2).trans rfl; have hcz29_3 : w24.cell? ⟨gb459, 3, none⟩ = some (.int .i64 a1_3) := (blk_cell BK459.out 3).trans rfl; have hfz29_0 := blk_frozen BK459.out 0; have hfz29_1 := blk_frozen BK459.out 1; have hfz29_2 := blk_frozen BK459.out 2; have hfz29_3 := blk_frozen BK459.out 3) | ((with_reducible refine gate_callee (f := 20) rfl ?_); refine goesL_ (some 36) rfl rfl Try.func20 (by kernel_rfl) rfl #[.agg #[.int .i64 a0_0, .bool a0_1], .agg #[.int .i64 a1_0, .int .i64 a1_1, .int .i64 a1_2, .int .i64 a1_3]] rfl (by (try simp only [List.map_toArray, List.map_cons, List.map_nil]); first | done | rfl | (simp only [List.length_drop, List.length_take]; rfl)) ?_; (with_reducible refine (code_Format.calls k a0_0 a0_1 a1_0 a1_1 a1_2 a1_3 t468 t469 _ A14.out).mono ?_); rintro e w30 ⟨rfl, hb⟩; refine ⟨_, rfl, ?_⟩; have n0_ := Aside0.mk (blk_below (g := gb458) (o := .cells #[.int .i64 a0_0, .bool a0_1] 23 (0, 0)) (by (with_reducible repeat (first | refine blk_drewN ?_ _ | refine blk_drew ?_ | refine blk_alloc ?_ _)); refine blk_far ?_ NB458_467.out _; (with_reducible repeat (first | refine blk_drewN ?_ _ | refine blk_drew ?_ | refine blk_alloc ?_ _)); refine blk_far ?_ NB458_467.out _; (with_reducible repeat (first | refine blk_drewN ?_ _ | refine blk_drew ?_ | refine blk_alloc ?_ _)); refine blk_far ?_ NB458_467.out _; (with_reducible repeat (first | refine blk_drewN ?_ _ | refine blk_drew ?_ | refine blk_alloc ?_ _)); refine blk_far ?_ NB458_467.out _; (with_reducible repeat (first | refine blk_drewN ?_ _ | refine blk_drew ?_ | refine blk_alloc ?_ _)); exact BK458.out) hb); have n1_ := Aside0.mk (blk_below (g := gb459) (o := .cells #[.int .i64 a1_0, .int .i64 a1_1, .int .i64 a1_2, .int .i64 a1_3] 25 (0, 0)) (by (with_reducible repeat (first | refine blk_drewN ?_ _ | refine blk_drew ?_ | refine blk_alloc ?_ _)); refine blk_far ?_ NB459_467.out _; (with_reducible repeat (first | refine blk_drewN ?_ _ | refine blk_drew ?_ | refine blk_alloc ?_ _)); refine blk_far ?_ NB459_467.out _; (with_reducible repeat (first | refine blk_drewN ?_ _ | refine blk_drew ?_ | refine blk_alloc ?_ _)); refine blk_far ?_ NB459_467.out _; (with_reducible repeat (first | refine blk_drewN ?_ _ | refine blk_drew ?_ | refine blk_alloc ?_ _)); refine blk_far ?_ NB459_467.out _; (with_reducible repeat (first | refine blk_drewN ?_ _ | refine blk_drew ?_ | refine blk_alloc ?_ _)); exact BK459.out) hb); have n2_ := Aside0.mk (blk_below (g := gb467) (o := .cells #[.int .i64 t462, .int .i64 t463, .int .i64 t464, .int .i64 t465] 25 (0, 0)) (by (with_reducible repeat (first | refine blk_drewN ?_ _ | refine blk_drew ?_ | refine blk_alloc ?_ _)); refine blk_put (cs := #[.int .i64 t462, .int .i64 t463, .int .i64 t464, .int .i64 0]) ?_ 3 _ rfl; (with_reducible repeat (first | refine blk_drewN ?_ _ | refine blk_drew ?_ | refine blk_alloc ?_ _)); refine blk_put (cs := #[.int .i64 t462, .int .i64 t463, .int .i64 0, .int .i64 0]) ?_ 2 _ rfl; (with_reducible repeat (first | refine blk_drewN ?_ _ | refine blk_drew ?_ | refine blk_alloc ?_ _)); refine blk_put (cs := #[.int .i64 t462, .int .i64 0, .int .i64 0, .int .i64 0]) ?_ 1 _ rfl; (with_reducible repeat (first | refine blk_drewN ?_ _ | refine blk_drew ?_ | refine blk_alloc ?_ _)); refine blk_put (cs := #[.int .i64 0, .int .i64 0, .int .i64 0, .int .i64 0]) ?_ 0 _ rfl; (with_reducible repeat (first | refine blk_drewN ?_ _ | refine blk_drew ?_ | refine blk_alloc ?_ _)); exact BK467.out) hb); have n3_ := Aside0.mk (below_step (by repeat (first | (with_reducible first | exact HB.out | apply below_alloc | apply pw_below_drewN | apply below_drew1 | refine below_set ?_ GE458.out | refine below_set ?_ GE459.out | refine below_set ?_ GE467.out) | exact HB.out)) hb); clear BK458; clear BK459; clear BK467; clear HB; have BK458 := n0_; have BK459 := n1_; have BK467 := n2_; have HB := n3_; clear n0_ n1_ n2_ n3_; (try clear hb); (try clear hb2); (try clear hk); (try clear hi); have hcz31_0 : w30.cell? ⟨gb458, 0, none⟩ = some (.int .i64 a0_0) := (blk_cell BK458.out 0).trans rfl; have hcz31_1 : w30.cell? ⟨gb458, 1, none⟩ = some (.bool a0_1) := (blk_cell BK458.out 1).trans rfl; have hfz31_0 := blk_frozen BK458.out 0; have hfz31_1 := blk_frozen BK458.out 1) | ((with_reducible refine gate_callee (f := 27) rfl ?_); refine goesL_ (some 42) rfl rfl Try.func27 (by kernel_rfl) rfl #[.agg #[.int .i64 a0_0, .bool a0_1], .string t468] rfl (by (try simp only [List.map_toArray, List.map_cons, List.map_nil]); first | done | rfl | (simp only [List.length_drop, List.length_take]; rfl)) ?_; (with_reducible refine (code_Parse.calls k a0_0 a0_1 t468 t470 t471 t472 t473 t474 _ A15.out).mono ?_); rintro e w32 ⟨rfl, hb⟩; refine ⟨_, rfl, ?_⟩; have n0_ := Aside0.mk (blk_below (g := gb458) (o := .cells #[.int .i64 a0_0, .bool a0_1] 23 (0, 0)) (by (with_reducible repeat (first | refine blk_drewN ?_ _ | refine blk_drew ?_ | refine blk_alloc ?_ _)); exact BK458.out) hb); have n1_ := Aside0.mk (blk_below (g := gb459) (o := .cells #[.int .i64 a1_0, .int .i64 a1_1, .int .i64 a1_2, .int .i64 a1_3] 25 (0, 0)) (by (with_reducible repeat (first | refine blk_drewN ?_ _ | refine blk_drew ?_ | refine blk_alloc ?_ _)); exact BK459.out) hb); have n2_ := Aside0.mk (blk_below (g := gb467) (o := .cells #[.int .i64 t462, .int .i64 t463, .int .i64 t464, .int .i64 t465] 25 (0, 0)) (by (with_reducible repeat (first | refine blk_drewN ?_ _ | refine blk_drew ?_ | refine blk_alloc ?_ _)); exact BK467.out) hb); have n3_ := Aside0.mk (below_step (by repeat (first | (with_reducible first | exact HB.out | apply below_alloc | apply pw_below_drewN | apply below_drew1 | refine below_set ?_ GE458.out | refine below_set ?_ GE459.out | refine below_set ?_ GE467.out) | exact HB.out)) hb); clear BK458; clear BK459; clear BK467; clear HB; have BK458 := n0_; have BK459 := n1_; have BK467 := n2_; have HB := n3_; clear n0_ n1_ n2_ n3_; (try clear hb); (try clear hb2); (try clear hk); (try clear hi)) | ((with_reducible refine gate_dst (N := 13) rfl ?_); refine box_event ?hg (N := 13) ?hd (cs := #[.int .i64 0, .int .i64 0, .int .i64 0, .int .i64 0]) (t := 25) ?hr ?_; (case hd => rfl); (case hg => rfl); (case hr => first | (go_simp; done) | (go_simp; rfl)); intro gb475 hg w33 hbox hb; have n0_ := Aside0.mk (blk_below (g := gb458) (o := .cells #[.int .i64 a0_0, .bool a0_1] 23 (0, 0)) (by (with_reducible repeat (first | refine blk_drewN ?_ _ | refine blk_drew ?_ | refine blk_alloc ?_ _)); exact BK458.out) hb); have n1_ := Aside0.mk (blk_below (g := gb459) (o := .cells #[.int .i64 a1_0, .int .i64 a1_1, .int .i64 a1_2, .int .i64 a1_3] 25 (0, 0)) (by (with_reducible repeat (first | refine blk_drewN ?_ _ | refine blk_drew ?_ | refine blk_alloc ?_ _)); exact BK459.out) hb); have n2_ := Aside0.mk (blk_below (g := gb467) (o := .cells #[.int .i64 t462, .int .i64 t463, .int .i64 t464, .int .i64 t465] 25 (0, 0)) (by (with_reducible repeat (first | refine blk_drewN ?_ _ | refine blk_drew ?_ | refine blk_alloc ?_ _)); exact BK467.out) hb); have n3_ := Aside0.mk (below_step (by repeat (first | (with_reducible first | exact HB.out | apply below_alloc | apply pw_below_drewN | apply below_drew1 | refine below_set ?_ GE458.out | refine below_set ?_ GE459.out | refine below_set ?_ GE467.out) | exact HB.out)) hb); have n4_ := Aside0.mk (hbox); have n5_ := Aside0.mk ((by rw [hg]; exact (below_size (by repeat (first | (with_reducible first | exact HB.out | apply below_alloc | apply pw_below_drewN | apply below_drew1 | refine below_set ?_ GE458.out | refine below_set ?_ GE459.out | refine below_set ?_ GE467.out) | exact HB.out))) : w.heap.size ≤ gb475)); have n6_ := Aside0.mk ((by rw [hg]; exact (below_size (by repeat (first | (with_reducible first | exact HB.out | apply below_alloc | apply pw_below_drewN | apply below_drew1 | refine below_set ?_ GE458.out | refine below_set ?_ GE459.out | refine below_set ?_ GE467.out) | exact HB.out))) : w.heap.size ≤ gb475)); have n7_ := Aside0.mk ((by rw [hg]; exact Nat.ne_of_lt (blk_lt (g := gb458) (o := .cells #[.int .i64 a0_0, .bool a0_1] 23 (0, 0)) (by (with_reducible repeat (first | refine blk_drewN ?_ _ | refine blk_drew ?_ | refine blk_alloc ?_ _)); exact BK458.out)) : gb458 ≠ gb475)); have n8_ := Aside0.mk ((by rw [hg]; exact Nat.ne_of_gt (blk_lt (g := gb458) (o := .cells #[.int .i64 a0_0, .bool a0_1] 23 (0, 0)) (by (with_reducible repeat (first | refine blk_drewN ?_ _ | refine blk_drew ?_ | refine blk_alloc ?_ _)); exact BK458.out)) : gb475 ≠ gb458)); have n9_ := Aside0.mk ((by rw [hg]; exact Nat.ne_of_lt (blk_lt (g := gb459) (o := .cells #[.int .i64 a1_0, .int .i64 a1_1, .int .i64 a1_2, .int .i64 a1_3] 25 (0, 0)) (by (with_reducible repeat (first | refine blk_drewN ?_ _ | refine blk_drew ?_ | refine blk_alloc ?_ _)); exact BK459.out)) : gb459 ≠ gb475)); have n10_ := Aside0.mk ((by rw [hg]; exact Nat.ne_of_gt (blk_lt (g := gb459) (o := .cells #[.int .i64 a1_0, .int .i64 a1_1, .int .i64 a1_2, .int .i64 a1_3] 25 (0, 0)) (by (with_reducible repeat (first | refine blk_drewN ?_ _ | refine blk_drew ?_ | refine blk_alloc ?_ _)); exact BK459.out)) : gb475 ≠ gb459)); have n11_ := Aside0.mk ((by rw [hg]; exact Nat.ne_of_lt (blk_lt (g := gb467) (o := .cells #[.int .i64 t462, .int .i64 t463, .int .i64 t464, .int .i64 t465] 25 (0, 0)) (by (with_reducible repeat (first | refine blk_drewN ?_ _ | refine blk_drew ?_ | refine blk_alloc ?_ _)); exact BK467.out)) : gb467 ≠ gb475)); have n12_ := Aside0.mk ((by rw [hg]; exact Nat.ne_of_gt (blk_lt (g := gb467) (o := .cells #[.int .i64 t462, .int .i64 t463, .int .i64 t464, .int .i64 t465] 25 (0, 0)) (by (with_reducible repeat (first | refine blk_drewN ?_ _ | refine blk_drew ?_ | refine blk_alloc ?_ _)); exact BK467.out)) : gb475 ≠ gb467)); clear BK458; clear BK459; clear BK467; clear HB; have BK458 := n0_; have BK459 := n1_; have BK467 := n2_; have HB := n3_; have BK475 := n4_; have GW475 := n5_; have GE475 := n6_; have NB458_475 := n7_; have NB475_458 := n8_; have NB459_475 := n9_; have NB475_459 := n10_; have NB467_475 := n11_; have NB475_467 := n12_; clear n0_ n1_ n2_ n3_ n4_ n5_ n6_ n7_ n8_ n9_ n10_ n11_ n12_; clear hb hbox hg; have hnb34 := NB475_458.out; have hnc34 := NB458_475.out; have hnb35 := NB475_459.out; have hnc35 := NB459_475.out; have hnb36 := NB475_467.out; have hnc36 := NB467_475.out; have hcz37_0 : w33.cell? ⟨gb475, 0, none⟩ = some (.int .i64 0) := (blk_cell BK475.out 0).trans rfl; have hcz37_1 : w33.cell? ⟨gb475, 1, none⟩ = some (.int .i64 0) := (blk_cell BK475.out 1).trans rfl; have hcz37_2 : w33.cell? ⟨gb475, 2, none⟩ = some (.int .i64 0) := (blk_cell BK475.out 2).trans rfl; have hcz37_3 : w33.cell? ⟨gb475, 3, none⟩ = some (.int .i64 0) := (blk_cell BK475.out 3).trans rfl; have hfz37_0 := blk_frozen BK475.out 0; have hfz37_1 := blk_frozen BK475.out 1; have hfz37_2 := blk_frozen BK475.out 2; have hfz37_3 := blk_frozen BK475.out 3; have hcz38_0 : w33.cell? ⟨gb467, 0, none⟩ = some (.int .i64 t462) := (blk_cell BK467.out 0).trans rfl; have hcz38_1 : w33.cell? ⟨gb467, 1, none⟩ = some (.int .i64 t463) := (blk_cell BK467.out 1).trans rfl; have hcz38_2 : w33.cell? ⟨gb467, 2, none⟩ = some (.int .i64 t464) := (blk_cell BK467.out 2).trans rfl; have hcz38_3 : w33.cell? ⟨gb467, 3, none⟩ = some (.int .i64 t465) := (blk_cell BK467.out 3).trans rfl; have hfz38_0 := blk_frozen BK467.out 0; have hfz38_1 := blk_frozen BK467.out 1; have hfz38_2 := blk_frozen BK467.out 2; have hfz38_3 := blk_frozen BK467.out 3; have hcz39_0 : w33.cell? ⟨gb459, 0, none⟩ = some (.int .i64 a1_0) := (blk_cell BK459.out 0).trans rfl; have hcz39_1 : w33.cell? ⟨gb459, 1, none⟩ = some (.int .i64 a1_1) := (blk_cell BK459.out 1).trans rfl; have hcz39_2 : w33.cell? ⟨gb459, 2, none⟩ = some (.int .i64 a1_2) := (blk_cell BK459.out 2).trans rfl; have hcz39_3 : w33.cell? ⟨gb459, 3, none⟩ = some (.int .i64 a1_3) := (blk_cell BK459.out 3).trans rfl; have hfz39_0 := blk_frozen BK459.out 0; have hfz39_1 := blk_frozen BK459.out 1; have hfz39_2 := blk_frozen BK459.out 2; have hfz39_3 := blk_frozen BK459.out 3))
                go_meet
                case rel => exact ⟨_, H', ⟨by first | omega | exact Nat.le_refl _⟩, ⟨by (with_reducible repeat (first | refine blk_drewN ?_ _ | refine blk_drew ?_ | refine blk_alloc ?_ _)); refine blk_far ?_ NB458_475.out _; (with_reducible repeat (first | refine blk_drewN ?_ _ | refine blk_drew ?_ | refine blk_alloc ?_ _)); refine blk_far ?_ NB458_475.out _; (with_reducible repeat (first | refine blk_drewN ?_ _ | refine blk_drew ?_ | refine blk_alloc ?_ _)); refine blk_far ?_ NB458_475.out _; (with_reducible repeat (first | refine blk_drewN ?_ _ | refine blk_drew ?_ | refine blk_alloc ?_ _)); refine blk_far ?_ NB458_475.out _; (with_reducible repeat (first | refine blk_drewN ?_ _ | refine blk_drew ?_ | refine blk_alloc ?_ _)); exact BK458.out⟩, ⟨by (with_reducible repeat (first | refine blk_drewN ?_ _ | refine blk_drew ?_ | refine blk_alloc ?_ _)); refine blk_far ?_ NB459_475.out _; (with_reducible repeat (first | refine blk_drewN ?_ _ | refine blk_drew ?_ | refine blk_alloc ?_ _)); refine blk_far ?_ NB459_475.out _; (with_reducible repeat (first | refine blk_drewN ?_ _ | refine blk_drew ?_ | refine blk_alloc ?_ _)); refine blk_far ?_ NB459_475.out _; (with_reducible repeat (first | refine blk_drewN ?_ _ | refine blk_drew ?_ | refine blk_alloc ?_ _)); refine blk_far ?_ NB459_475.out _; (with_reducible repeat (first | refine blk_drewN ?_ _ | refine blk_drew ?_ | refine blk_alloc ?_ _)); exact BK459.out⟩, ⟨by repeat (first | (with_reducible first | exact HB.out | apply below_alloc | apply pw_below_drewN | apply below_drew1 | refine below_set ?_ GE458.out | refine below_set ?_ GE459.out | refine below_set ?_ GE467.out | refine below_set ?_ GE475.out) | exact HB.out)⟩⟩
            · rw [if_neg c19] at H
              have c19b0 : (t474 == 0) = false := beq_eq_false_iff_ne.mpr c19
              have c19b1 : (t474 != 0) = true := bne_iff_ne.mpr c19
              exact absurd (Option.some.inj H) (by rw [hrt]; exact Bool.noConfusion)
          · rw [if_neg c18] at H
            have c18b0 : (t469 == 0) = false := beq_eq_false_iff_ne.mpr c18
            have c18b1 : (t469 != 0) = true := bne_iff_ne.mpr c18
            exact absurd (Option.some.inj H) (by rw [hrt]; exact Bool.noConfusion)
      · rw [if_neg c16] at H
        have c16b0 : (t466 == 0) = false := beq_eq_false_iff_ne.mpr c16
        have c16b1 : (t466 != 0) = true := bne_iff_ne.mpr c16
        exact absurd (Option.some.inj H) (by rw [hrt]; exact Bool.noConfusion)
    · rw [if_neg c12] at H
      have c12b0 : (t461 == 0) = false := beq_eq_false_iff_ne.mpr c12
      have c12b1 : (t461 != 0) = true := bne_iff_ne.mpr c12
      (first | rw [c12b0] | (simp only [i64_w, i32_w]; rw [c12b0]) | skip)
      have H' := Aside0.mk H
      clear H
      go_wp2
      go_meet
      case rel => exact ⟨_, H', ⟨by first | omega | exact Nat.le_refl _⟩, ⟨by (with_reducible repeat (first | refine blk_drewN ?_ _ | refine blk_drew ?_ | refine blk_alloc ?_ _)); exact BK458.out⟩, ⟨by (with_reducible repeat (first | refine blk_drewN ?_ _ | refine blk_drew ?_ | refine blk_alloc ?_ _)); exact BK459.out⟩, ⟨by repeat (first | (with_reducible first | exact HB.out | apply below_alloc | apply pw_below_drewN | apply below_drew1 | refine below_set ?_ GE458.out | refine below_set ?_ GE459.out) | exact HB.out)⟩⟩
  case rest =>
    clear HC5
    try clear c1
    try clear c2
    try clear p2
    try clear c3
    try clear c8
    try clear c10
    try clear c12
    try clear c12b0
    try clear c12b1
    try clear c16
    try clear c16b0
    try clear c16b1
    try clear c17
    try clear c17b0
    try clear c18
    try clear c18b0
    try clear c18b1
    try clear c19
    try clear c19b0
    try clear c19b1
    try clear c20
    try clear c20b0
    try clear c21
    try clear c25
    try clear c26
    try clear c27
    try clear c34
    try clear c35
    try clear c36
    try clear hcz10_0
    try clear hcz10_1
    try clear hcz10_2
    try clear hcz10_3
    try clear hcz22_0
    try clear hcz22_1
    try clear hcz27_0
    try clear hcz27_1
    try clear hcz27_2
    try clear hcz27_3
    try clear hcz28_0
    try clear hcz28_1
    try clear hcz29_0
    try clear hcz29_1
    try clear hcz29_2
    try clear hcz29_3
    try clear hcz31_0
    try clear hcz31_1
    try clear hcz37_0
    try clear hcz37_1
    try clear hcz37_2
    try clear hcz37_3
    try clear hcz38_0
    try clear hcz38_1
    try clear hcz38_2
    try clear hcz38_3
    try clear hcz39_0
    try clear hcz39_1
    try clear hcz39_2
    try clear hcz39_3
    try clear hcz9_0
    try clear hcz9_1
    try clear hfz10_0
    try clear hfz10_1
    try clear hfz10_2
    try clear hfz10_3
    try clear hfz22_0
    try clear hfz22_1
    try clear hfz27_0
    try clear hfz27_1
    try clear hfz27_2
    try clear hfz27_3
    try clear hfz28_0
    try clear hfz28_1
    try clear hfz29_0
    try clear hfz29_1
    try clear hfz29_2
    try clear hfz29_3
    try clear hfz31_0
    try clear hfz31_1
    try clear hfz37_0
    try clear hfz37_1
    try clear hfz37_2
    try clear hfz37_3
    try clear hfz38_0
    try clear hfz38_1
    try clear hfz38_2
    try clear hfz38_3
    try clear hfz39_0
    try clear hfz39_1
    try clear hfz39_2
    try clear hfz39_3
    try clear hfz9_0
    try clear hfz9_1
    obtain ⟨kq, HA, HJ4, BK458, BK459, HB⟩ := hcut
    cases kq with
    | zero => exact absurd HA.out (by simp [dioramalaw20_CodeBack.j0])
    | succ kj4 =>
      have H := HA.out
      clear HA
      simp only [dioramalaw20_CodeBack.j0] at H
      replace H := Option.bind_eq_some_iff.mp H
      obtain ⟨⟨t476, t477, t478, t479, t480⟩, A400, H⟩ := H
      replace H : (if t480 = 0 then ((code_Count.f kj4 a0_0 a0_1 t476 t477 t478 t479).bind fun bt482 => (if bt482.2 = 0 then (if bt482.1 = a2 then ((dioramalaw20_awake.f kj4).bind fun t484 => (some t484)) else (some false)) else (some false))) else ((dioramalaw20_awake.f kj4).bind fun t485 => (some t485))) = some r := H
      have A40 := Aside0.mk A400
      clear A400
      by_cases c41 : t480 = 0
      · rw [if_pos c41] at H
        have c41b0 : (t480 == 0) = true := beq_iff_eq.mpr c41
        have c41b1 : (t480 != 0) = false := bne_eq_false_iff_eq.mpr c41
        clear c41
        replace H := Option.bind_eq_some_iff.mp H
        obtain ⟨⟨t482, t483⟩, A420, H⟩ := H
        replace H : (if t483 = 0 then (if t482 = a2 then ((dioramalaw20_awake.f kj4).bind fun t484 => (some t484)) else (some false)) else (some false)) = some r := H
        have A42 := Aside0.mk A420
        clear A420
        by_cases c43 : t483 = 0
        · rw [if_pos c43] at H
          have c43b0 : (t483 == 0) = true := beq_iff_eq.mpr c43
          have c43b1 : (t483 != 0) = false := bne_eq_false_iff_eq.mpr c43
          clear c43
          by_cases c44 : t482 = a2
          · rw [if_pos c44] at H
            have c44b0 : (t482 == a2) = true := beq_iff_eq.mpr c44
            have c44b1 : (t482 != a2) = false := bne_eq_false_iff_eq.mpr c44
            clear c44
            replace H := Option.bind_eq_some_iff.mp H
            obtain ⟨t484, A450, H⟩ := H
            replace H : (some t484) = some r := H
            have A45 := Aside0.mk A450
            clear A450
            obtain rfl := Option.some.inj H
            have hnb46 := NB458_459.out
            have hnc46 := NB459_458.out
            have hcz47_0 : wc.cell? ⟨gb458, 0, none⟩ = some (.int .i64 a0_0) := (blk_cell BK458.out 0).trans rfl
            have hcz47_1 : wc.cell? ⟨gb458, 1, none⟩ = some (.bool a0_1) := (blk_cell BK458.out 1).trans rfl
            have hfz47_0 := blk_frozen BK458.out 0
            have hfz47_1 := blk_frozen BK458.out 1
            go_wp2_with (first | ((with_reducible refine gate_callee (f := 12) rfl ?_); refine goesL_ (some 68) rfl rfl Try.func12 (by kernel_rfl) rfl #[.agg #[.int .i64 a0_0, .bool a0_1], .int .i64 a2] rfl (by (try simp only [List.map_toArray, List.map_cons, List.map_nil]); first | done | rfl | (simp only [List.length_drop, List.length_take]; rfl)) ?_; (with_reducible refine (code_Code.calls a0_0 a0_1 a2 t476 t477 t478 t479 t480 _ A40.out).mono ?_); rintro e w48 ⟨rfl, hb⟩; refine ⟨_, rfl, ?_⟩; have n0_ := Aside0.mk (blk_below (g := gb458) (o := .cells #[.int .i64 a0_0, .bool a0_1] 23 (0, 0)) (by (with_reducible repeat (first | refine blk_drewN ?_ _ | refine blk_drew ?_ | refine blk_alloc ?_ _)); exact BK458.out) hb); have n1_ := Aside0.mk (blk_below (g := gb459) (o := .cells #[.int .i64 a1_0, .int .i64 a1_1, .int .i64 a1_2, .int .i64 a1_3] 25 (0, 0)) (by (with_reducible repeat (first | refine blk_drewN ?_ _ | refine blk_drew ?_ | refine blk_alloc ?_ _)); exact BK459.out) hb); have n2_ := Aside0.mk (below_step (by repeat (first | (with_reducible first | exact HB.out | apply below_alloc | apply pw_below_drewN | apply below_drew1 | refine below_set ?_ GE458.out | refine below_set ?_ GE459.out) | exact HB.out)) hb); clear BK458; clear BK459; clear HB; have BK458 := n0_; have BK459 := n1_; have HB := n2_; clear n0_ n1_ n2_; (try clear hb); (try clear hb2); (try clear hk); (try clear hi)) | ((with_reducible refine gate_dst (N := 15) rfl ?_); refine box_event ?hg (N := 15) ?hd (cs := #[.int .i64 0, .int .i64 0, .int .i64 0, .int .i64 0]) (t := 25) ?hr ?_; (case hd => rfl); (case hg => rfl); (case hr => first | (go_simp; done) | (go_simp; rfl)); intro gb481 hg w49 hbox hb; have n0_ := Aside0.mk (blk_below (g := gb458) (o := .cells #[.int .i64 a0_0, .bool a0_1] 23 (0, 0)) (by (with_reducible repeat (first | refine blk_drewN ?_ _ | refine blk_drew ?_ | refine blk_alloc ?_ _)); exact BK458.out) hb); have n1_ := Aside0.mk (blk_below (g := gb459) (o := .cells #[.int .i64 a1_0, .int .i64 a1_1, .int .i64 a1_2, .int .i64 a1_3] 25 (0, 0)) (by (with_reducible repeat (first | refine blk_drewN ?_ _ | refine blk_drew ?_ | refine blk_alloc ?_ _)); exact BK459.out) hb); have n2_ := Aside0.mk (below_step (by repeat (first | (with_reducible first | exact HB.out | apply below_alloc | apply pw_below_drewN | apply below_drew1 | refine below_set ?_ GE458.out | refine below_set ?_ GE459.out) | exact HB.out)) hb); have n3_ := Aside0.mk (hbox); have n4_ := Aside0.mk ((by rw [hg]; exact (below_size (by repeat (first | (with_reducible first | exact HB.out | apply below_alloc | apply pw_below_drewN | apply below_drew1 | refine below_set ?_ GE458.out | refine below_set ?_ GE459.out) | exact HB.out))) : w.heap.size ≤ gb481)); have n5_ := Aside0.mk ((by rw [hg]; exact (below_size (by repeat (first | (with_reducible first | exact HB.out | apply below_alloc | apply pw_below_drewN | apply below_drew1 | refine below_set ?_ GE458.out | refine below_set ?_ GE459.out) | exact HB.out))) : w.heap.size ≤ gb481)); have n6_ := Aside0.mk ((by rw [hg]; exact Nat.ne_of_lt (blk_lt (g := gb458) (o := .cells #[.int .i64 a0_0, .bool a0_1] 23 (0, 0)) (by (with_reducible repeat (first | refine blk_drewN ?_ _ | refine blk_drew ?_ | refine blk_alloc ?_ _)); exact BK458.out)) : gb458 ≠ gb481)); have n7_ := Aside0.mk ((by rw [hg]; exact Nat.ne_of_gt (blk_lt (g := gb458) (o := .cells #[.int .i64 a0_0, .bool a0_1] 23 (0, 0)) (by (with_reducible repeat (first | refine blk_drewN ?_ _ | refine blk_drew ?_ | refine blk_alloc ?_ _)); exact BK458.out)) : gb481 ≠ gb458)); have n8_ := Aside0.mk ((by rw [hg]; exact Nat.ne_of_lt (blk_lt (g := gb459) (o := .cells #[.int .i64 a1_0, .int .i64 a1_1, .int .i64 a1_2, .int .i64 a1_3] 25 (0, 0)) (by (with_reducible repeat (first | refine blk_drewN ?_ _ | refine blk_drew ?_ | refine blk_alloc ?_ _)); exact BK459.out)) : gb459 ≠ gb481)); have n9_ := Aside0.mk ((by rw [hg]; exact Nat.ne_of_gt (blk_lt (g := gb459) (o := .cells #[.int .i64 a1_0, .int .i64 a1_1, .int .i64 a1_2, .int .i64 a1_3] 25 (0, 0)) (by (with_reducible repeat (first | refine blk_drewN ?_ _ | refine blk_drew ?_ | refine blk_alloc ?_ _)); exact BK459.out)) : gb481 ≠ gb459)); clear BK458; clear BK459; clear HB; have BK458 := n0_; have BK459 := n1_; have HB := n2_; have BK481 := n3_; have GW481 := n4_; have GE481 := n5_; have NB458_481 := n6_; have NB481_458 := n7_; have NB459_481 := n8_; have NB481_459 := n9_; clear n0_ n1_ n2_ n3_ n4_ n5_ n6_ n7_ n8_ n9_; clear hb hbox hg; have hnb50 := NB481_458.out; have hnc50 := NB458_481.out; have hnb51 := NB481_459.out; have hnc51 := NB459_481.out; have hcz52_0 : w49.cell? ⟨gb481, 0, none⟩ = some (.int .i64 0) := (blk_cell BK481.out 0).trans rfl; have hcz52_1 : w49.cell? ⟨gb481, 1, none⟩ = some (.int .i64 0) := (blk_cell BK481.out 1).trans rfl; have hcz52_2 : w49.cell? ⟨gb481, 2, none⟩ = some (.int .i64 0) := (blk_cell BK481.out 2).trans rfl; have hcz52_3 : w49.cell? ⟨gb481, 3, none⟩ = some (.int .i64 0) := (blk_cell BK481.out 3).trans rfl; have hfz52_0 := blk_frozen BK481.out 0; have hfz52_1 := blk_frozen BK481.out 1; have hfz52_2 := blk_frozen BK481.out 2; have hfz52_3 := blk_frozen BK481.out 3; have hcz53_0 : w49.cell? ⟨gb458, 0, none⟩ = some (.int .i64 a0_0) := (blk_cell BK458.out 0).trans rfl; have hcz53_1 : w49.cell? ⟨gb458, 1, none⟩ = some (.bool a0_1) := (blk_cell BK458.out 1).trans rfl; have hfz53_0 := blk_frozen BK458.out 0; have hfz53_1 := blk_frozen BK458.out 1) | ((with_reducible refine gate_callee (f := 21) rfl ?_); refine goesL_ (some 76) rfl rfl Try.func21 (by kernel_rfl) rfl #[.agg #[.int .i64 a0_0, .bool a0_1], .agg #[.int .i64 t476, .int .i64 t477, .int .i64 t478, .int .i64 t479]] rfl (by (try simp only [List.map_toArray, List.map_cons, List.map_nil]); first | done | rfl | (simp only [List.length_drop, List.length_take]; rfl)) ?_; (with_reducible refine (code_Count.calls kj4 a0_0 a0_1 t476 t477 t478 t479 t482 t483 _ A42.out).mono ?_); rintro e w54 ⟨rfl, hb⟩; refine ⟨_, rfl, ?_⟩; have n0_ := Aside0.mk (blk_below (g := gb458) (o := .cells #[.int .i64 a0_0, .bool a0_1] 23 (0, 0)) (by (with_reducible repeat (first | refine blk_drewN ?_ _ | refine blk_drew ?_ | refine blk_alloc ?_ _)); refine blk_far ?_ NB458_481.out _; (with_reducible repeat (first | refine blk_drewN ?_ _ | refine blk_drew ?_ | refine blk_alloc ?_ _)); refine blk_far ?_ NB458_481.out _; (with_reducible repeat (first | refine blk_drewN ?_ _ | refine blk_drew ?_ | refine blk_alloc ?_ _)); refine blk_far ?_ NB458_481.out _; (with_reducible repeat (first | refine blk_drewN ?_ _ | refine blk_drew ?_ | refine blk_alloc ?_ _)); refine blk_far ?_ NB458_481.out _; (with_reducible repeat (first | refine blk_drewN ?_ _ | refine blk_drew ?_ | refine blk_alloc ?_ _)); exact BK458.out) hb); have n1_ := Aside0.mk (blk_below (g := gb459) (o := .cells #[.int .i64 a1_0, .int .i64 a1_1, .int .i64 a1_2, .int .i64 a1_3] 25 (0, 0)) (by (with_reducible repeat (first | refine blk_drewN ?_ _ | refine blk_drew ?_ | refine blk_alloc ?_ _)); refine blk_far ?_ NB459_481.out _; (with_reducible repeat (first | refine blk_drewN ?_ _ | refine blk_drew ?_ | refine blk_alloc ?_ _)); refine blk_far ?_ NB459_481.out _; (with_reducible repeat (first | refine blk_drewN ?_ _ | refine blk_drew ?_ | refine blk_alloc ?_ _)); refine blk_far ?_ NB459_481.out _; (with_reducible repeat (first | refine blk_drewN ?_ _ | refine blk_drew ?_ | refine blk_alloc ?_ _)); refine blk_far ?_ NB459_481.out _; (with_reducible repeat (first | refine blk_drewN ?_ _ | refine blk_drew ?_ | refine blk_alloc ?_ _)); exact BK459.out) hb); have n2_ := Aside0.mk (blk_below (g := gb481) (o := .cells #[.int .i64 t476, .int .i64 t477, .int .i64 t478, .int .i64 t479] 25 (0, 0)) (by (with_reducible repeat (first | refine blk_drewN ?_ _ | refine blk_drew ?_ | refine blk_alloc ?_ _)); refine blk_put (cs := #[.int .i64 t476, .int .i64 t477, .int .i64 t478, .int .i64 0]) ?_ 3 _ rfl; (with_reducible repeat (first | refine blk_drewN ?_ _ | refine blk_drew ?_ | refine blk_alloc ?_ _)); refine blk_put (cs := #[.int .i64 t476, .int .i64 t477, .int .i64 0, .int .i64 0]) ?_ 2 _ rfl; (with_reducible repeat (first | refine blk_drewN ?_ _ | refine blk_drew ?_ | refine blk_alloc ?_ _)); refine blk_put (cs := #[.int .i64 t476, .int .i64 0, .int .i64 0, .int .i64 0]) ?_ 1 _ rfl; (with_reducible repeat (first | refine blk_drewN ?_ _ | refine blk_drew ?_ | refine blk_alloc ?_ _)); refine blk_put (cs := #[.int .i64 0, .int .i64 0, .int .i64 0, .int .i64 0]) ?_ 0 _ rfl; (with_reducible repeat (first | refine blk_drewN ?_ _ | refine blk_drew ?_ | refine blk_alloc ?_ _)); exact BK481.out) hb); have n3_ := Aside0.mk (below_step (by repeat (first | (with_reducible first | exact HB.out | apply below_alloc | apply pw_below_drewN | apply below_drew1 | refine below_set ?_ GE458.out | refine below_set ?_ GE459.out | refine below_set ?_ GE481.out) | exact HB.out)) hb); clear BK458; clear BK459; clear BK481; clear HB; have BK458 := n0_; have BK459 := n1_; have BK481 := n2_; have HB := n3_; clear n0_ n1_ n2_ n3_; (try clear hb); (try clear hb2); (try clear hk); (try clear hi)) | ((with_reducible refine gate_callee (f := 14) rfl ?_); refine goesL_ (some 86) rfl rfl Try.func14 (by kernel_rfl) rfl #[] rfl (by (try simp only [List.map_toArray, List.map_cons, List.map_nil]); first | done | rfl | (simp only [List.length_drop, List.length_take]; rfl)) ?_; (with_reducible refine (dioramalaw20_awake.calls kj4  t484 _ A45.out).mono ?_); rintro e w55 ⟨rfl, hb⟩; refine ⟨_, rfl, ?_⟩; have n0_ := Aside0.mk (blk_below (g := gb458) (o := .cells #[.int .i64 a0_0, .bool a0_1] 23 (0, 0)) (by (with_reducible repeat (first | refine blk_drewN ?_ _ | refine blk_drew ?_ | refine blk_alloc ?_ _)); exact BK458.out) hb); have n1_ := Aside0.mk (blk_below (g := gb459) (o := .cells #[.int .i64 a1_0, .int .i64 a1_1, .int .i64 a1_2, .int .i64 a1_3] 25 (0, 0)) (by (with_reducible repeat (first | refine blk_drewN ?_ _ | refine blk_drew ?_ | refine blk_alloc ?_ _)); exact BK459.out) hb); have n2_ := Aside0.mk (blk_below (g := gb481) (o := .cells #[.int .i64 t476, .int .i64 t477, .int .i64 t478, .int .i64 t479] 25 (0, 0)) (by (with_reducible repeat (first | refine blk_drewN ?_ _ | refine blk_drew ?_ | refine blk_alloc ?_ _)); exact BK481.out) hb); have n3_ := Aside0.mk (below_step (by repeat (first | (with_reducible first | exact HB.out | apply below_alloc | apply pw_below_drewN | apply below_drew1 | refine below_set ?_ GE458.out | refine below_set ?_ GE459.out | refine below_set ?_ GE481.out) | exact HB.out)) hb); clear BK458; clear BK459; clear BK481; clear HB; have BK458 := n0_; have BK459 := n1_; have BK481 := n2_; have HB := n3_; clear n0_ n1_ n2_ n3_; (try clear hb); (try clear hb2); (try clear hk); (try clear hi)))
            go_ret
            exact ⟨by first | rfl | (simp [errW_none, errW_some] <;> rfl) | (simp [*, errW_none, errW_some] <;> rfl), by repeat (first | (with_reducible first | exact HB.out | apply below_alloc | apply pw_below_drewN | apply below_drew1 | refine below_set ?_ GE458.out | refine below_set ?_ GE459.out | refine below_set ?_ GE481.out) | exact HB.out)⟩
          · rw [if_neg c44] at H
            have c44b0 : (t482 == a2) = false := beq_eq_false_iff_ne.mpr c44
            have c44b1 : (t482 != a2) = true := bne_iff_ne.mpr c44
            exact absurd (Option.some.inj H) (by rw [hrt]; exact Bool.noConfusion)
        · rw [if_neg c43] at H
          have c43b0 : (t483 == 0) = false := beq_eq_false_iff_ne.mpr c43
          have c43b1 : (t483 != 0) = true := bne_iff_ne.mpr c43
          exact absurd (Option.some.inj H) (by rw [hrt]; exact Bool.noConfusion)
      · rw [if_neg c41] at H
        have c41b0 : (t480 == 0) = false := beq_eq_false_iff_ne.mpr c41
        have c41b1 : (t480 != 0) = true := bne_iff_ne.mpr c41
        replace H := Option.bind_eq_some_iff.mp H
        obtain ⟨t485, A560, H⟩ := H
        replace H : (some t485) = some r := H
        have A56 := Aside0.mk A560
        clear A560
        obtain rfl := Option.some.inj H
        have hnb57 := NB458_459.out
        have hnc57 := NB459_458.out
        have hcz58_0 : wc.cell? ⟨gb458, 0, none⟩ = some (.int .i64 a0_0) := (blk_cell BK458.out 0).trans rfl
        have hcz58_1 : wc.cell? ⟨gb458, 1, none⟩ = some (.bool a0_1) := (blk_cell BK458.out 1).trans rfl
        have hfz58_0 := blk_frozen BK458.out 0
        have hfz58_1 := blk_frozen BK458.out 1
        go_wp2_with (first | ((with_reducible refine gate_callee (f := 12) rfl ?_); refine goesL_ (some 68) rfl rfl Try.func12 (by kernel_rfl) rfl #[.agg #[.int .i64 a0_0, .bool a0_1], .int .i64 a2] rfl (by (try simp only [List.map_toArray, List.map_cons, List.map_nil]); first | done | rfl | (simp only [List.length_drop, List.length_take]; rfl)) ?_; (with_reducible refine (code_Code.calls a0_0 a0_1 a2 t476 t477 t478 t479 t480 _ A40.out).mono ?_); rintro e w59 ⟨rfl, hb⟩; refine ⟨_, rfl, ?_⟩; have n0_ := Aside0.mk (blk_below (g := gb458) (o := .cells #[.int .i64 a0_0, .bool a0_1] 23 (0, 0)) (by (with_reducible repeat (first | refine blk_drewN ?_ _ | refine blk_drew ?_ | refine blk_alloc ?_ _)); exact BK458.out) hb); have n1_ := Aside0.mk (blk_below (g := gb459) (o := .cells #[.int .i64 a1_0, .int .i64 a1_1, .int .i64 a1_2, .int .i64 a1_3] 25 (0, 0)) (by (with_reducible repeat (first | refine blk_drewN ?_ _ | refine blk_drew ?_ | refine blk_alloc ?_ _)); exact BK459.out) hb); have n2_ := Aside0.mk (below_step (by repeat (first | (with_reducible first | exact HB.out | apply below_alloc | apply pw_below_drewN | apply below_drew1 | refine below_set ?_ GE458.out | refine below_set ?_ GE459.out) | exact HB.out)) hb); clear BK458; clear BK459; clear HB; have BK458 := n0_; have BK459 := n1_; have HB := n2_; clear n0_ n1_ n2_; (try clear hb); (try clear hb2); (try clear hk); (try clear hi)) | ((with_reducible refine gate_dst (N := 15) rfl ?_); refine box_event ?hg (N := 15) ?hd (cs := #[.int .i64 0, .int .i64 0, .int .i64 0, .int .i64 0]) (t := 25) ?hr ?_; (case hd => rfl); (case hg => rfl); (case hr => first | (go_simp; done) | (go_simp; rfl)); intro gb481 hg w60 hbox hb; have n0_ := Aside0.mk (blk_below (g := gb458) (o := .cells #[.int .i64 a0_0, .bool a0_1] 23 (0, 0)) (by (with_reducible repeat (first | refine blk_drewN ?_ _ | refine blk_drew ?_ | refine blk_alloc ?_ _)); exact BK458.out) hb); have n1_ := Aside0.mk (blk_below (g := gb459) (o := .cells #[.int .i64 a1_0, .int .i64 a1_1, .int .i64 a1_2, .int .i64 a1_3] 25 (0, 0)) (by (with_reducible repeat (first | refine blk_drewN ?_ _ | refine blk_drew ?_ | refine blk_alloc ?_ _)); exact BK459.out) hb); have n2_ := Aside0.mk (below_step (by repeat (first | (with_reducible first | exact HB.out | apply below_alloc | apply pw_below_drewN | apply below_drew1 | refine below_set ?_ GE458.out | refine below_set ?_ GE459.out) | exact HB.out)) hb); have n3_ := Aside0.mk (hbox); have n4_ := Aside0.mk ((by rw [hg]; exact (below_size (by repeat (first | (with_reducible first | exact HB.out | apply below_alloc | apply pw_below_drewN | apply below_drew1 | refine below_set ?_ GE458.out | refine below_set ?_ GE459.out) | exact HB.out))) : w.heap.size ≤ gb481)); have n5_ := Aside0.mk ((by rw [hg]; exact (below_size (by repeat (first | (with_reducible first | exact HB.out | apply below_alloc | apply pw_below_drewN | apply below_drew1 | refine below_set ?_ GE458.out | refine below_set ?_ GE459.out) | exact HB.out))) : w.heap.size ≤ gb481)); have n6_ := Aside0.mk ((by rw [hg]; exact Nat.ne_of_lt (blk_lt (g := gb458) (o := .cells #[.int .i64 a0_0, .bool a0_1] 23 (0, 0)) (by (with_reducible repeat (first | refine blk_drewN ?_ _ | refine blk_drew ?_ | refine blk_alloc ?_ _)); exact BK458.out)) : gb458 ≠ gb481)); have n7_ := Aside0.mk ((by rw [hg]; exact Nat.ne_of_gt (blk_lt (g := gb458) (o := .cells #[.int .i64 a0_0, .bool a0_1] 23 (0, 0)) (by (with_reducible repeat (first | refine blk_drewN ?_ _ | refine blk_drew ?_ | refine blk_alloc ?_ _)); exact BK458.out)) : gb481 ≠ gb458)); have n8_ := Aside0.mk ((by rw [hg]; exact Nat.ne_of_lt (blk_lt (g := gb459) (o := .cells #[.int .i64 a1_0, .int .i64 a1_1, .int .i64 a1_2, .int .i64 a1_3] 25 (0, 0)) (by (with_reducible repeat (first | refine blk_drewN ?_ _ | refine blk_drew ?_ | refine blk_alloc ?_ _)); exact BK459.out)) : gb459 ≠ gb481)); have n9_ := Aside0.mk ((by rw [hg]; exact Nat.ne_of_gt (blk_lt (g := gb459) (o := .cells #[.int .i64 a1_0, .int .i64 a1_1, .int .i64 a1_2, .int .i64 a1_3] 25 (0, 0)) (by (with_reducible repeat (first | refine blk_drewN ?_ _ | refine blk_drew ?_ | refine blk_alloc ?_ _)); exact BK459.out)) : gb481 ≠ gb459)); clear BK458; clear BK459; clear HB; have BK458 := n0_; have BK459 := n1_; have HB := n2_; have BK481 := n3_; have GW481 := n4_; have GE481 := n5_; have NB458_481 := n6_; have NB481_458 := n7_; have NB459_481 := n8_; have NB481_459 := n9_; clear n0_ n1_ n2_ n3_ n4_ n5_ n6_ n7_ n8_ n9_; clear hb hbox hg; have hnb61 := NB481_458.out; have hnc61 := NB458_481.out; have hnb62 := NB481_459.out; have hnc62 := NB459_481.out; have hcz63_0 : w60.cell? ⟨gb481, 0, none⟩ = some (.int .i64 0) := (blk_cell BK481.out 0).trans rfl; have hcz63_1 : w60.cell? ⟨gb481, 1, none⟩ = some (.int .i64 0) := (blk_cell BK481.out 1).trans rfl; have hcz63_2 : w60.cell? ⟨gb481, 2, none⟩ = some (.int .i64 0) := (blk_cell BK481.out 2).trans rfl; have hcz63_3 : w60.cell? ⟨gb481, 3, none⟩ = some (.int .i64 0) := (blk_cell BK481.out 3).trans rfl; have hfz63_0 := blk_frozen BK481.out 0; have hfz63_1 := blk_frozen BK481.out 1; have hfz63_2 := blk_frozen BK481.out 2; have hfz63_3 := blk_frozen BK481.out 3) | ((with_reducible refine gate_callee (f := 14) rfl ?_); refine goesL_ (some 86) rfl rfl Try.func14 (by kernel_rfl) rfl #[] rfl (by (try simp only [List.map_toArray, List.map_cons, List.map_nil]); first | done | rfl | (simp only [List.length_drop, List.length_take]; rfl)) ?_; (with_reducible refine (dioramalaw20_awake.calls kj4  t485 _ A56.out).mono ?_); rintro e w64 ⟨rfl, hb⟩; refine ⟨_, rfl, ?_⟩; have n0_ := Aside0.mk (blk_below (g := gb458) (o := .cells #[.int .i64 a0_0, .bool a0_1] 23 (0, 0)) (by (with_reducible repeat (first | refine blk_drewN ?_ _ | refine blk_drew ?_ | refine blk_alloc ?_ _)); refine blk_far ?_ NB458_481.out _; (with_reducible repeat (first | refine blk_drewN ?_ _ | refine blk_drew ?_ | refine blk_alloc ?_ _)); refine blk_far ?_ NB458_481.out _; (with_reducible repeat (first | refine blk_drewN ?_ _ | refine blk_drew ?_ | refine blk_alloc ?_ _)); refine blk_far ?_ NB458_481.out _; (with_reducible repeat (first | refine blk_drewN ?_ _ | refine blk_drew ?_ | refine blk_alloc ?_ _)); refine blk_far ?_ NB458_481.out _; (with_reducible repeat (first | refine blk_drewN ?_ _ | refine blk_drew ?_ | refine blk_alloc ?_ _)); exact BK458.out) hb); have n1_ := Aside0.mk (blk_below (g := gb459) (o := .cells #[.int .i64 a1_0, .int .i64 a1_1, .int .i64 a1_2, .int .i64 a1_3] 25 (0, 0)) (by (with_reducible repeat (first | refine blk_drewN ?_ _ | refine blk_drew ?_ | refine blk_alloc ?_ _)); refine blk_far ?_ NB459_481.out _; (with_reducible repeat (first | refine blk_drewN ?_ _ | refine blk_drew ?_ | refine blk_alloc ?_ _)); refine blk_far ?_ NB459_481.out _; (with_reducible repeat (first | refine blk_drewN ?_ _ | refine blk_drew ?_ | refine blk_alloc ?_ _)); refine blk_far ?_ NB459_481.out _; (with_reducible repeat (first | refine blk_drewN ?_ _ | refine blk_drew ?_ | refine blk_alloc ?_ _)); refine blk_far ?_ NB459_481.out _; (with_reducible repeat (first | refine blk_drewN ?_ _ | refine blk_drew ?_ | refine blk_alloc ?_ _)); exact BK459.out) hb); have n2_ := Aside0.mk (blk_below (g := gb481) (o := .cells #[.int .i64 t476, .int .i64 t477, .int .i64 t478, .int .i64 t479] 25 (0, 0)) (by (with_reducible repeat (first | refine blk_drewN ?_ _ | refine blk_drew ?_ | refine blk_alloc ?_ _)); refine blk_put (cs := #[.int .i64 t476, .int .i64 t477, .int .i64 t478, .int .i64 0]) ?_ 3 _ rfl; (with_reducible repeat (first | refine blk_drewN ?_ _ | refine blk_drew ?_ | refine blk_alloc ?_ _)); refine blk_put (cs := #[.int .i64 t476, .int .i64 t477, .int .i64 0, .int .i64 0]) ?_ 2 _ rfl; (with_reducible repeat (first | refine blk_drewN ?_ _ | refine blk_drew ?_ | refine blk_alloc ?_ _)); refine blk_put (cs := #[.int .i64 t476, .int .i64 0, .int .i64 0, .int .i64 0]) ?_ 1 _ rfl; (with_reducible repeat (first | refine blk_drewN ?_ _ | refine blk_drew ?_ | refine blk_alloc ?_ _)); refine blk_put (cs := #[.int .i64 0, .int .i64 0, .int .i64 0, .int .i64 0]) ?_ 0 _ rfl; (with_reducible repeat (first | refine blk_drewN ?_ _ | refine blk_drew ?_ | refine blk_alloc ?_ _)); exact BK481.out) hb); have n3_ := Aside0.mk (below_step (by repeat (first | (with_reducible first | exact HB.out | apply below_alloc | apply pw_below_drewN | apply below_drew1 | refine below_set ?_ GE458.out | refine below_set ?_ GE459.out | refine below_set ?_ GE481.out) | exact HB.out)) hb); clear BK458; clear BK459; clear BK481; clear HB; have BK458 := n0_; have BK459 := n1_; have BK481 := n2_; have HB := n3_; clear n0_ n1_ n2_ n3_; (try clear hb); (try clear hb2); (try clear hk); (try clear hi)))
        go_ret
        exact ⟨by first | rfl | (simp [errW_none, errW_some] <;> rfl) | (simp [*, errW_none, errW_some] <;> rfl), by repeat (first | (with_reducible first | exact HB.out | apply below_alloc | apply pw_below_drewN | apply below_drew1 | refine below_set ?_ GE458.out | refine below_set ?_ GE459.out | refine below_set ?_ GE481.out) | exact HB.out)⟩

end Go.Proofs.Ytndbhfbgigefnaa.PA
