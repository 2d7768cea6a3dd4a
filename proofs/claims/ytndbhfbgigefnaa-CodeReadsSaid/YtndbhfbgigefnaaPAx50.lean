-- PRINTED by print.py (a twelfth state) out of the translation. Not trusted: Lean checks it.
import Derived.Test.YtndbhfbgigefnaaPAx0
import Derived.Test.YtndbhfbgigefnaaPAx9
import Derived.Test.YtndbhfbgigefnaaPAx46
import Derived.Test.YtndbhfbgigefnaaIdx53
namespace Go.Proofs.Ytndbhfbgigefnaa.PA
open Go.RowKit Go.Proofs.YtndbhfbgigefnaaW.PrintWords Go.Proofs.YtndbhfbgigefnaaW.PrintLast Go.Proofs.YtndbhfbgigefnaaW.PrintMore
attribute [local go_sem] max2_int min2_int max_two min_two max_three min_three max_four min_four   -- for this text's walks alone
set_option linter.unusedVariables false
set_option linter.unusedSimpArgs false

/-! ### code_Numbers: function 31 -/
mutual
def code_Numbers.l0 : Nat → List Int → List (S82) → Int → Int → Int → Bool → Option (List Int × Int)
  | 0, _, _, _, _, _, _ => none
  | k + 1, x6, x24, x25, x26, x412000, x412001 => if x26 < x25 then (if 0 ≤ x26 then (if x26 < (x24.length : Int) then (code_Numbers.l1 k x6 0 x24 x25 x26 ((rd_T82 x24 x26).f5) (((rd_T82 x24 x26).f5).length : Int) 0 x412000 x412001) else (none)) else (none)) else (some (x6, 0))
def code_Numbers.l1 : Nat → List Int → Int → List (S82) → Int → Int → List Int → Int → Int → Int → Bool → Option (List Int × Int)
  | 0, _, _, _, _, _, _, _, _, _, _ => none
  | k + 1, x6, x9, x24, x25, x26, x31, x32, x33, x412000, x412001 => if x33 < x32 then (if 0 ≤ x33 then (if x33 < (x31.length : Int) then (code_Numbers.l1 k x6 (Go.bits .or .i64 (wrap64 (x9 * 256)) (wrap64 (rd x31 x33))) x24 x25 x26 x31 x32 (wrap64 (x33 + 1)) x412000 x412001) else (none)) else (none)) else ((code_steps_day.f x412000 x412001).bind fun t416 => (if x9 ≥ t416 then (some (([] : List Int), 1)) else (if x6.length < 17592186044416 then (code_Numbers.l0 k (x6 ++ [x9]) x24 x25 (wrap64 (x26 + 1)) x412000 x412001) else (none))))
end
def code_Numbers.f (k : Nat) (a0_0 : Int) (a0_1 : Int) (a0_2 : ByteArray) (a0_3 : Int) (l0_4 : List Int) (a0_5 : ByteArray) (a0_6 : ByteArray) (a0_7 : Int) (l0_8 : List (S97)) (l0_9 : List (S95)) (l0_10 : List (S82)) : Option (List Int × Int) := (code_Rate.f k a0_0 a0_1 a0_2 a0_3 l0_4 a0_5 a0_6 a0_7 l0_8 l0_9 l0_10).bind fun bt408 => (if bt408.2.2 = 0 then ((api_Sample_52.f l0_10 53).bind fun t412 => (if t412 = true then (some (([] : List Int), 4)) else (code_Numbers.l0 k ([] : List Int) l0_10 (l0_10.length : Int) 0 bt408.1 bt408.2.1))) else (some (([] : List Int), bt408.2.2)))
theorem code_Numbers.mono_l : ∀ k, (∀ y0 y1 y2 y3 y4 y5, LeO (code_Numbers.l0 k y0 y1 y2 y3 y4 y5) (code_Numbers.l0 (k + 1) y0 y1 y2 y3 y4 y5)) ∧ (∀ y0 y1 y2 y3 y4 y5 y6 y7 y8 y9, LeO (code_Numbers.l1 k y0 y1 y2 y3 y4 y5 y6 y7 y8 y9) (code_Numbers.l1 (k + 1) y0 y1 y2 y3 y4 y5 y6 y7 y8 y9))
  | 0 => ⟨fun _ _ _ _ _ _ r h => by simp [code_Numbers.l0] at h, fun _ _ _ _ _ _ _ _ _ _ r h => by simp [code_Numbers.l1] at h⟩
  | k + 1 => by
    obtain ⟨ih0, ih1⟩ := code_Numbers.mono_l k
    refine ⟨?_, ?_⟩
    · intro y0 y1 y2 y3 y4 y5
      unfold code_Numbers.l0
      repeat' first
      | (with_reducible exact ih0 _ _ _ _ _ _)
      | (with_reducible exact ih1 _ _ _ _ _ _ _ _ _ _)
      | (with_reducible exact code_Rate.mono _ _ _ _ _ _ _ _ _ _ _ _)
      | (with_reducible exact LeO.refl _)
      | (with_reducible exact LeO.none _)
      | (with_reducible refine LeO.ite ?_ ?_)
      | (with_reducible refine LeO.bind ?_ (fun _ => ?_))
      | exact ih0 _ _ _ _ _ _
      | exact ih1 _ _ _ _ _ _ _ _ _ _
      | exact code_Rate.mono _ _ _ _ _ _ _ _ _ _ _ _
      | exact LeO.none _
      | refine LeO.ite ?_ ?_
      | refine LeO.bind ?_ (fun _ => ?_)
    · intro y0 y1 y2 y3 y4 y5 y6 y7 y8 y9
      unfold code_Numbers.l1
      repeat' first
      | (with_reducible exact ih0 _ _ _ _ _ _)
      | (with_reducible exact ih1 _ _ _ _ _ _ _ _ _ _)
      | (with_reducible exact code_Rate.mono _ _ _ _ _ _ _ _ _ _ _ _)
      | (with_reducible exact LeO.refl _)
      | (with_reducible exact LeO.none _)
      | (with_reducible refine LeO.ite ?_ ?_)
      | (with_reducible refine LeO.bind ?_ (fun _ => ?_))
      | exact ih0 _ _ _ _ _ _
      | exact ih1 _ _ _ _ _ _ _ _ _ _
      | exact code_Rate.mono _ _ _ _ _ _ _ _ _ _ _ _
      | exact LeO.none _
      | refine LeO.ite ?_ ?_
      | refine LeO.bind ?_ (fun _ => ?_)
theorem code_Numbers.mono : ∀ a0 a1 a2 a3 a4 a5 a6 a7 a8 a9 a10 k, LeO (code_Numbers.f k a0 a1 a2 a3 a4 a5 a6 a7 a8 a9 a10) (code_Numbers.f (k + 1) a0 a1 a2 a3 a4 a5 a6 a7 a8 a9 a10) := by
  intro a0 a1 a2 a3 a4 a5 a6 a7 a8 a9 a10 k
  obtain ⟨ih0, ih1⟩ := code_Numbers.mono_l k
  unfold code_Numbers.f
  repeat' first
      | (with_reducible exact ih0 _ _ _ _ _ _)
      | (with_reducible exact ih1 _ _ _ _ _ _ _ _ _ _)
      | (with_reducible exact code_Rate.mono _ _ _ _ _ _ _ _ _ _ _ _)
      | (with_reducible exact LeO.refl _)
      | (with_reducible exact LeO.none _)
      | (with_reducible refine LeO.ite ?_ ?_)
      | (with_reducible refine LeO.bind ?_ (fun _ => ?_))
      | exact ih0 _ _ _ _ _ _
      | exact ih1 _ _ _ _ _ _ _ _ _ _
      | exact code_Rate.mono _ _ _ _ _ _ _ _ _ _ _ _
      | exact LeO.none _
      | refine LeO.ite ?_ ?_
      | refine LeO.bind ?_ (fun _ => ?_)
set_option maxHeartbeats 8000000 in
set_option maxRecDepth 100000 in
theorem code_Numbers.calls (k : Nat) (a0_0 : Int) (a0_1 : Int) (a0_2 : ByteArray) (a0_3 : Int) (A0_4 : Option Addr) (c0_4 : Nat) (l0_4 : List Int) (a0_5 : ByteArray) (a0_6 : ByteArray) (a0_7 : Int) (A0_8 : Option Addr) (c0_8 : Nat) (l0_8 : List (S97)) (A0_9 : Option Addr) (c0_9 : Nat) (l0_9 : List (S95)) (A0_10 : Option Addr) (c0_10 : Nat) (l0_10 : List (S82)) (r1 : List Int) (r2 : Int) (w : World) (hr0_4 : Kd.C (Kd.int .u8) w A0_4 l0_4.length l0_4) (hc0_4 : l0_4.length ≤ c0_4) (hr0_8 : Kd.C k97 w A0_8 l0_8.length l0_8) (hc0_8 : l0_8.length ≤ c0_8) (hr0_9 : Kd.C k95 w A0_9 l0_9.length l0_9) (hc0_9 : l0_9.length ≤ c0_9) (hr0_10 : Kd.C k82 w A0_10 l0_10.length l0_10) (hc0_10 : l0_10.length ≤ c0_10) (h : code_Numbers.f k a0_0 a0_1 a0_2 a0_3 l0_4 a0_5 a0_6 a0_7 l0_8 l0_9 l0_10 = some (r1, r2)) :
    Calls Try.prog 31 #[.agg #[.int .i64 a0_0, .int .i64 a0_1, .string a0_2, .int .i64 a0_3, .slice A0_4 l0_4.length c0_4, .string a0_5, .string a0_6, .int .i64 a0_7, .slice A0_8 l0_8.length c0_8, .slice A0_9 l0_9.length c0_9, .slice A0_10 l0_10.length c0_10]] w fun e w' => ∃ v0_ : Value, e = .returned (.tuple #[v0_, .int .i64 r2]) ∧ Kd.R (Kd.int .i64) 3 w' w.heap.size (fun _ => True) v0_ r1 ∧ Below w.heap.size w w' := by
  have hu52 := Try.underlying52
  have hu23 := Try.underlying23
  have hu82 := Try.underlying82
  have hu66 := Try.underlying66
  have HR0_4 := Aside0.mk hr0_4
  have HC0_4 := Aside0.mk hc0_4
  clear hr0_4 hc0_4
  have HR0_8 := Aside0.mk hr0_8
  have HC0_8 := Aside0.mk hc0_8
  clear hr0_8 hc0_8
  have HR0_9 := Aside0.mk hr0_9
  have HC0_9 := Aside0.mk hc0_9
  clear hr0_9 hc0_9
  have HR0_10 := Aside0.mk hr0_10
  have HC0_10 := Aside0.mk hc0_10
  clear hr0_10 hc0_10
  have HB := Aside0.mk (Below.refl w.heap.size w)
  have H : ((code_Rate.f k a0_0 a0_1 a0_2 a0_3 l0_4 a0_5 a0_6 a0_7 l0_8 l0_9 l0_10).bind fun bt408 => (if bt408.2.2 = 0 then ((api_Sample_52.f l0_10 53).bind fun t412 => (if t412 = true then (some (([] : List Int), 4)) else (code_Numbers.l0 k ([] : List Int) l0_10 (l0_10.length : Int) 0 bt408.1 bt408.2.1))) else (some (([] : List Int), bt408.2.2)))) = some (r1, r2) := h
  clear h
  replace H := Option.bind_eq_some_iff.mp H
  obtain ⟨⟨t408, t409, t410⟩, A20, H⟩ := H
  replace H : (if t410 = 0 then ((api_Sample_52.f l0_10 53).bind fun t412 => (if t412 = true then (some (([] : List Int), 4)) else (code_Numbers.l0 k ([] : List Int) l0_10 (l0_10.length : Int) 0 t408 t409))) else (some (([] : List Int), t410))) = some (r1, r2) := H
  have A2 := Aside0.mk A20
  clear A20
  by_cases c3 : t410 = 0
  · rw [if_pos c3] at H
    have c3b0 : (t410 == 0) = true := beq_iff_eq.mpr c3
    have c3b1 : (t410 != 0) = false := bne_eq_false_iff_eq.mpr c3
    clear c3
    replace H := Option.bind_eq_some_iff.mp H
    obtain ⟨t412, A40, H⟩ := H
    replace H : (if t412 = true then (some (([] : List Int), 4)) else (code_Numbers.l0 k ([] : List Int) l0_10 (l0_10.length : Int) 0 t408 t409)) = some (r1, r2) := H
    have A4 := Aside0.mk A40
    clear A40
    by_cases c5 : t412 = true
    · subst c5
      have H1 : (some (([] : List Int), 4)) = some (r1, r2) := by rw [if_pos rfl] at H; exact H
      clear H
      have H := H1
      clear H1
      simp only [Option.some.injEq, Prod.mk.injEq] at H
      obtain ⟨rfl, rfl⟩ := H
      go_enter Try.func31, Try.ntmps31
      go_wp2_with (first | ((with_reducible refine gate_dst (N := 1) rfl ?_); refine box_event ?hg (N := 1) ?hd (cs := #[.int .i64 a0_0, .int .i64 a0_1, .string a0_2, .int .i64 a0_3, .slice A0_4 l0_4.length c0_4, .string a0_5, .string a0_6, .int .i64 a0_7, .slice A0_8 l0_8.length c0_8, .slice A0_9 l0_9.length c0_9, .slice A0_10 l0_10.length c0_10]) (t := 52) ?hr ?_; (case hd => rfl); (case hg => rfl); (case hr => first | (go_simp; done) | (go_simp; rfl)); intro gb407 hg w6 hbox hb; have n0_ := Aside0.mk (below_step (by repeat (first | (with_reducible first | exact HB.out | apply below_alloc | apply pw_below_drewN | apply below_drew1) | exact HB.out)) hb); have n1_ := Aside0.mk (hbox); have n2_ := Aside0.mk ((by rw [hg]; exact (below_size (by repeat (first | (with_reducible first | exact HB.out | apply below_alloc | apply pw_below_drewN | apply below_drew1) | exact HB.out))) : w.heap.size ≤ gb407)); have n3_ := Aside0.mk ((by rw [hg]; exact (below_size (by repeat (first | (with_reducible first | exact HB.out | apply below_alloc | apply pw_below_drewN | apply below_drew1) | exact HB.out))) : w.heap.size ≤ gb407)); clear HB; have HB := n0_; have BK407 := n1_; have GW407 := n2_; have GE407 := n3_; clear n0_ n1_ n2_ n3_; clear hb hbox hg; have hcz7_0 : w6.cell? ⟨gb407, 0, none⟩ = some (.int .i64 a0_0) := (blk_cell BK407.out 0).trans rfl; have hcz7_1 : w6.cell? ⟨gb407, 1, none⟩ = some (.int .i64 a0_1) := (blk_cell BK407.out 1).trans rfl; have hcz7_2 : w6.cell? ⟨gb407, 2, none⟩ = some (.string a0_2) := (blk_cell BK407.out 2).trans rfl; have hcz7_3 : w6.cell? ⟨gb407, 3, none⟩ = some (.int .i64 a0_3) := (blk_cell BK407.out 3).trans rfl; have hcz7_4 : w6.cell? ⟨gb407, 4, none⟩ = some (.slice A0_4 l0_4.length c0_4) := (blk_cell BK407.out 4).trans rfl; have hcz7_5 : w6.cell? ⟨gb407, 5, none⟩ = some (.string a0_5) := (blk_cell BK407.out 5).trans rfl; have hcz7_6 : w6.cell? ⟨gb407, 6, none⟩ = some (.string a0_6) := (blk_cell BK407.out 6).trans rfl; have hcz7_7 : w6.cell? ⟨gb407, 7, none⟩ = some (.int .i64 a0_7) := (blk_cell BK407.out 7).trans rfl; have hcz7_8 : w6.cell? ⟨gb407, 8, none⟩ = some (.slice A0_8 l0_8.length c0_8) := (blk_cell BK407.out 8).trans rfl; have hcz7_9 : w6.cell? ⟨gb407, 9, none⟩ = some (.slice A0_9 l0_9.length c0_9) := (blk_cell BK407.out 9).trans rfl; have hcz7_10 : w6.cell? ⟨gb407, 10, none⟩ = some (.slice A0_10 l0_10.length c0_10) := (blk_cell BK407.out 10).trans rfl; have hfz7_0 := blk_frozen BK407.out 0; have hfz7_1 := blk_frozen BK407.out 1; have hfz7_2 := blk_frozen BK407.out 2; have hfz7_3 := blk_frozen BK407.out 3; have hfz7_4 := blk_frozen BK407.out 4; have hfz7_5 := blk_frozen BK407.out 5; have hfz7_6 := blk_frozen BK407.out 6; have hfz7_7 := blk_frozen BK407.out 7; have hfz7_8 := blk_frozen BK407.out 8; have hfz7_9 := blk_frozen BK407.out 9; have hfz7_10 := blk_frozen BK407.out 10) | ((with_reducible refine gate_callee (f := 29) rfl ?_); refine goesL_ (some 14) rfl rfl Try.func29 (by kernel_rfl) rfl #[.agg #[.int .i64 a0_0, .int .i64 a0_1, .string a0_2, .int .i64 a0_3, .slice A0_4 l0_4.length c0_4, .string a0_5, .string a0_6, .int .i64 a0_7, .slice A0_8 l0_8.length c0_8, .slice A0_9 l0_9.length c0_9, .slice A0_10 l0_10.length c0_10]] rfl (by (try simp only [List.map_toArray, List.map_cons, List.map_nil]); first | done | rfl | (simp only [List.length_drop, List.length_take]; rfl)) ?_; (with_reducible refine (code_Rate.calls k a0_0 a0_1 a0_2 a0_3 _ _ l0_4 a0_5 a0_6 a0_7 _ _ l0_8 _ _ l0_9 _ _ l0_10 t408 t409 t410 _ ?side1 ?side2 ?side3 ?side4 ?side5 ?side6 ?side7 ?side8 A2.out).mono ?_); (case side1 => repeat (first | exact (Kd.C_below HR0_4.out HB.out) | (with_reducible refine Kd.C_alloc ?_ _) | (with_reducible refine Kd.C_drewN ?_ _) | (with_reducible refine Kd.C_drew ?_))); (case side2 => exact HC0_4.out); (case side3 => repeat (first | exact (Kd.C_below HR0_8.out HB.out) | (with_reducible refine Kd.C_alloc ?_ _) | (with_reducible refine Kd.C_drewN ?_ _) | (with_reducible refine Kd.C_drew ?_))); (case side4 => exact HC0_8.out); (case side5 => repeat (first | exact (Kd.C_below HR0_9.out HB.out) | (with_reducible refine Kd.C_alloc ?_ _) | (with_reducible refine Kd.C_drewN ?_ _) | (with_reducible refine Kd.C_drew ?_))); (case side6 => exact HC0_9.out); (case side7 => repeat (first | exact (Kd.C_below HR0_10.out HB.out) | (with_reducible refine Kd.C_alloc ?_ _) | (with_reducible refine Kd.C_drewN ?_ _) | (with_reducible refine Kd.C_drew ?_))); (case side8 => exact HC0_10.out); rintro e w8 ⟨rfl, hb⟩; refine ⟨_, rfl, ?_⟩; have n0_ := Aside0.mk (blk_below (g := gb407) (o := .cells #[.int .i64 a0_0, .int .i64 a0_1, .string a0_2, .int .i64 a0_3, .slice A0_4 l0_4.length c0_4, .string a0_5, .string a0_6, .int .i64 a0_7, .slice A0_8 l0_8.length c0_8, .slice A0_9 l0_9.length c0_9, .slice A0_10 l0_10.length c0_10] 52 (0, 0)) (by (with_reducible repeat (first | refine blk_drewN ?_ _ | refine blk_drew ?_ | refine blk_alloc ?_ _)); exact BK407.out) hb); have n1_ := Aside0.mk (below_step (by repeat (first | (with_reducible first | exact HB.out | apply below_alloc | apply pw_below_drewN | apply below_drew1 | refine below_set ?_ GE407.out) | exact HB.out)) hb); clear BK407; clear HB; have BK407 := n0_; have HB := n1_; clear n0_ n1_; (try clear hb); (try clear hb2); (try clear hk); (try clear hi)) | ((with_reducible refine gate_dst (N := 4) rfl ?_); refine box_event ?hg (N := 4) ?hd (cs := #[.int .i64 0, .bool false]) (t := 23) ?hr ?_; (case hd => rfl); (case hg => rfl); (case hr => first | (go_simp; done) | (go_simp; rfl)); intro gb411 hg w9 hbox hb; have n0_ := Aside0.mk (blk_below (g := gb407) (o := .cells #[.int .i64 a0_0, .int .i64 a0_1, .string a0_2, .int .i64 a0_3, .slice A0_4 l0_4.length c0_4, .string a0_5, .string a0_6, .int .i64 a0_7, .slice A0_8 l0_8.length c0_8, .slice A0_9 l0_9.length c0_9, .slice A0_10 l0_10.length c0_10] 52 (0, 0)) (by (with_reducible repeat (first | refine blk_drewN ?_ _ | refine blk_drew ?_ | refine blk_alloc ?_ _)); exact BK407.out) hb); have n1_ := Aside0.mk (below_step (by repeat (first | (with_reducible first | exact HB.out | apply below_alloc | apply pw_below_drewN | apply below_drew1 | refine below_set ?_ GE407.out) | exact HB.out)) hb); have n2_ := Aside0.mk (hbox); have n3_ := Aside0.mk ((by rw [hg]; exact (below_size (by repeat (first | (with_reducible first | exact HB.out | apply below_alloc | apply pw_below_drewN | apply below_drew1 | refine below_set ?_ GE407.out) | exact HB.out))) : w.heap.size ≤ gb411)); have n4_ := Aside0.mk ((by rw [hg]; exact (below_size (by repeat (first | (with_reducible first | exact HB.out | apply below_alloc | apply pw_below_drewN | apply below_drew1 | refine below_set ?_ GE407.out) | exact HB.out))) : w.heap.size ≤ gb411)); have n5_ := Aside0.mk ((by rw [hg]; exact Nat.ne_of_lt (blk_lt (g := gb407) (o := .cells #[.int .i64 a0_0, .int .i64 a0_1, .string a0_2, .int .i64 a0_3, .slice A0_4 l0_4.length c0_4, .string a0_5, .string a0_6, .int .i64 a0_7, .slice A0_8 l0_8.length c0_8, .slice A0_9 l0_9.length c0_9, .slice A0_10 l0_10.length c0_10] 52 (0, 0)) (by (with_reducible repeat (first | refine blk_drewN ?_ _ | refine blk_drew ?_ | refine blk_alloc ?_ _)); exact BK407.out)) : gb407 ≠ gb411)); have n6_ := Aside0.mk ((by rw [hg]; exact Nat.ne_of_gt (blk_lt (g := gb407) (o := .cells #[.int .i64 a0_0, .int .i64 a0_1, .string a0_2, .int .i64 a0_3, .slice A0_4 l0_4.length c0_4, .string a0_5, .string a0_6, .int .i64 a0_7, .slice A0_8 l0_8.length c0_8, .slice A0_9 l0_9.length c0_9, .slice A0_10 l0_10.length c0_10] 52 (0, 0)) (by (with_reducible repeat (first | refine blk_drewN ?_ _ | refine blk_drew ?_ | refine blk_alloc ?_ _)); exact BK407.out)) : gb411 ≠ gb407)); clear BK407; clear HB; have BK407 := n0_; have HB := n1_; have BK411 := n2_; have GW411 := n3_; have GE411 := n4_; have NB407_411 := n5_; have NB411_407 := n6_; clear n0_ n1_ n2_ n3_ n4_ n5_ n6_; clear hb hbox hg; have hnb10 := NB411_407.out; have hnc10 := NB407_411.out; have hcz11_0 : w9.cell? ⟨gb411, 0, none⟩ = some (.int .i64 0) := (blk_cell BK411.out 0).trans rfl; have hcz11_1 : w9.cell? ⟨gb411, 1, none⟩ = some (.bool false) := (blk_cell BK411.out 1).trans rfl; have hfz11_0 := blk_frozen BK411.out 0; have hfz11_1 := blk_frozen BK411.out 1; have hcz12_0 : w9.cell? ⟨gb407, 0, none⟩ = some (.int .i64 a0_0) := (blk_cell BK407.out 0).trans rfl; have hcz12_1 : w9.cell? ⟨gb407, 1, none⟩ = some (.int .i64 a0_1) := (blk_cell BK407.out 1).trans rfl; have hcz12_2 : w9.cell? ⟨gb407, 2, none⟩ = some (.string a0_2) := (blk_cell BK407.out 2).trans rfl; have hcz12_3 : w9.cell? ⟨gb407, 3, none⟩ = some (.int .i64 a0_3) := (blk_cell BK407.out 3).trans rfl; have hcz12_4 : w9.cell? ⟨gb407, 4, none⟩ = some (.slice A0_4 l0_4.length c0_4) := (blk_cell BK407.out 4).trans rfl; have hcz12_5 : w9.cell? ⟨gb407, 5, none⟩ = some (.string a0_5) := (blk_cell BK407.out 5).trans rfl; have hcz12_6 : w9.cell? ⟨gb407, 6, none⟩ = some (.string a0_6) := (blk_cell BK407.out 6).trans rfl; have hcz12_7 : w9.cell? ⟨gb407, 7, none⟩ = some (.int .i64 a0_7) := (blk_cell BK407.out 7).trans rfl; have hcz12_8 : w9.cell? ⟨gb407, 8, none⟩ = some (.slice A0_8 l0_8.length c0_8) := (blk_cell BK407.out 8).trans rfl; have hcz12_9 : w9.cell? ⟨gb407, 9, none⟩ = some (.slice A0_9 l0_9.length c0_9) := (blk_cell BK407.out 9).trans rfl; have hcz12_10 : w9.cell? ⟨gb407, 10, none⟩ = some (.slice A0_10 l0_10.length c0_10) := (blk_cell BK407.out 10).trans rfl; have hfz12_0 := blk_frozen BK407.out 0; have hfz12_1 := blk_frozen BK407.out 1; have hfz12_2 := blk_frozen BK407.out 2; have hfz12_3 := blk_frozen BK407.out 3; have hfz12_4 := blk_frozen BK407.out 4; have hfz12_5 := blk_frozen BK407.out 5; have hfz12_6 := blk_frozen BK407.out 6; have hfz12_7 := blk_frozen BK407.out 7; have hfz12_8 := blk_frozen BK407.out 8; have hfz12_9 := blk_frozen BK407.out 9; have hfz12_10 := blk_frozen BK407.out 10) | ((with_reducible refine gate_callee (f := 52) rfl ?_); refine goesL_ (some 22) rfl rfl Try.func52 (by kernel_rfl) rfl #[.slice A0_10 l0_10.length c0_10, .func (.func 53) #[] #[]] rfl (by (try simp only [List.map_toArray, List.map_cons, List.map_nil]); first | done | rfl | (simp only [List.length_drop, List.length_take]; rfl)) ?_; (with_reducible refine (api_Sample_52.calls _ _ l0_10 53 true _ ?side1 ?side2 A4.out).mono ?_); (case side1 => exact Kd.C_below HR0_10.out (by repeat (first | (with_reducible first | exact HB.out | apply below_alloc | apply pw_below_drewN | apply below_drew1 | refine below_set ?_ GE407.out | refine below_set ?_ GE411.out) | exact HB.out))); (case side2 => exact HC0_10.out); rintro e w13 ⟨rfl, hb⟩; refine ⟨_, rfl, ?_⟩; have n0_ := Aside0.mk (blk_below (g := gb407) (o := .cells #[.int .i64 a0_0, .int .i64 a0_1, .string a0_2, .int .i64 a0_3, .slice A0_4 l0_4.length c0_4, .string a0_5, .string a0_6, .int .i64 a0_7, .slice A0_8 l0_8.length c0_8, .slice A0_9 l0_9.length c0_9, .slice A0_10 l0_10.length c0_10] 52 (0, 0)) (by (with_reducible repeat (first | refine blk_drewN ?_ _ | refine blk_drew ?_ | refine blk_alloc ?_ _)); refine blk_far ?_ NB407_411.out _; (with_reducible repeat (first | refine blk_drewN ?_ _ | refine blk_drew ?_ | refine blk_alloc ?_ _)); refine blk_far ?_ NB407_411.out _; (with_reducible repeat (first | refine blk_drewN ?_ _ | refine blk_drew ?_ | refine blk_alloc ?_ _)); exact BK407.out) hb); have n1_ := Aside0.mk (blk_below (g := gb411) (o := .cells #[.int .i64 t408, .bool t409] 23 (0, 0)) (by (with_reducible repeat (first | refine blk_drewN ?_ _ | refine blk_drew ?_ | refine blk_alloc ?_ _)); refine blk_put (cs := #[.int .i64 t408, .bool false]) ?_ 1 _ rfl; (with_reducible repeat (first | refine blk_drewN ?_ _ | refine blk_drew ?_ | refine blk_alloc ?_ _)); refine blk_put (cs := #[.int .i64 0, .bool false]) ?_ 0 _ rfl; (with_reducible repeat (first | refine blk_drewN ?_ _ | refine blk_drew ?_ | refine blk_alloc ?_ _)); exact BK411.out) hb); have n2_ := Aside0.mk (below_step (by repeat (first | (with_reducible first | exact HB.out | apply below_alloc | apply pw_below_drewN | apply below_drew1 | refine below_set ?_ GE407.out | refine below_set ?_ GE411.out) | exact HB.out)) hb); clear BK407; clear BK411; clear HB; have BK407 := n0_; have BK411 := n1_; have HB := n2_; clear n0_ n1_ n2_; (try clear hb); (try clear hb2); (try clear hk); (try clear hi)))
      go_ret2
      exact ⟨_, by first | rfl | (simp [errW_none, errW_some] <;> rfl) | (simp [*, errW_none, errW_some] <;> rfl), by first | exact Kd.R_nil _ _ _ _ _ | exact Kd.N_nil _ _ _ _ _ | exact Kd.V_nil _ _ _ _ _ | exact Kd.Q_nil _ _ _ _ _ | exact Kd.S_nil _ _ _ _ _, by repeat (first | (with_reducible first | exact HB.out | apply below_alloc | apply pw_below_drewN | apply below_drew1 | refine below_set ?_ GE407.out | refine below_set ?_ GE411.out) | exact HB.out)⟩
    · replace c5 := Bool.eq_false_iff.mpr c5
      subst c5
      have H1 : (code_Numbers.l0 k ([] : List Int) l0_10 (l0_10.length : Int) 0 t408 t409) = some (r1, r2) := by rw [if_neg (show ¬ (false = true) by decide)] at H; exact H
      clear H
      have H := H1
      clear H1
      have H' := Aside0.mk H
      clear H
      go_enter Try.func31, Try.ntmps31
      go_wp2_with (first | ((with_reducible refine gate_dst (N := 1) rfl ?_); refine box_event ?hg (N := 1) ?hd (cs := #[.int .i64 a0_0, .int .i64 a0_1, .string a0_2, .int .i64 a0_3, .slice A0_4 l0_4.length c0_4, .string a0_5, .string a0_6, .int .i64 a0_7, .slice A0_8 l0_8.length c0_8, .slice A0_9 l0_9.length c0_9, .slice A0_10 l0_10.length c0_10]) (t := 52) ?hr ?_; (case hd => rfl); (case hg => rfl); (case hr => first | (go_simp; done) | (go_simp; rfl)); intro gb407 hg w14 hbox hb; have n0_ := Aside0.mk (below_step (by repeat (first | (with_reducible first | exact HB.out | apply below_alloc | apply pw_below_drewN | apply below_drew1) | exact HB.out)) hb); have n1_ := Aside0.mk (hbox); have n2_ := Aside0.mk ((by rw [hg]; exact (below_size (by repeat (first | (with_reducible first | exact HB.out | apply below_alloc | apply pw_below_drewN | apply below_drew1) | exact HB.out))) : w.heap.size ≤ gb407)); have n3_ := Aside0.mk ((by rw [hg]; exact (below_size (by repeat (first | (with_reducible first | exact HB.out | apply below_alloc | apply pw_below_drewN | apply below_drew1) | exact HB.out))) : w.heap.size ≤ gb407)); clear HB; have HB := n0_; have BK407 := n1_; have GW407 := n2_; have GE407 := n3_; clear n0_ n1_ n2_ n3_; clear hb hbox hg; have hcz15_0 : w14.cell? ⟨gb407, 0, none⟩ = some (.int .i64 a0_0) := (blk_cell BK407.out 0).trans rfl; have hcz15_1 : w14.cell? ⟨gb407, 1, none⟩ = some (.int .i64 a0_1) := (blk_cell BK407.out 1).trans rfl; have hcz15_2 : w14.cell? ⟨gb407, 2, none⟩ = some (.string a0_2) := (blk_cell BK407.out 2).trans rfl; have hcz15_3 : w14.cell? ⟨gb407, 3, none⟩ = some (.int .i64 a0_3) := (blk_cell BK407.out 3).trans rfl; have hcz15_4 : w14.cell? ⟨gb407, 4, none⟩ = some (.slice A0_4 l0_4.length c0_4) := (blk_cell BK407.out 4).trans rfl; have hcz15_5 : w14.cell? ⟨gb407, 5, none⟩ = some (.string a0_5) := (blk_cell BK407.out 5).trans rfl; have hcz15_6 : w14.cell? ⟨gb407, 6, none⟩ = some (.string a0_6) := (blk_cell BK407.out 6).trans rfl; have hcz15_7 : w14.cell? ⟨gb407, 7, none⟩ = some (.int .i64 a0_7) := (blk_cell BK407.out 7).trans rfl; have hcz15_8 : w14.cell? ⟨gb407, 8, none⟩ = some (.slice A0_8 l0_8.length c0_8) := (blk_cell BK407.out 8).trans rfl; have hcz15_9 : w14.cell? ⟨gb407, 9, none⟩ = some (.slice A0_9 l0_9.length c0_9) := (blk_cell BK407.out 9).trans rfl; have hcz15_10 : w14.cell? ⟨gb407, 10, none⟩ = some (.slice A0_10 l0_10.length c0_10) := (blk_cell BK407.out 10).trans rfl; have hfz15_0 := blk_frozen BK407.out 0; have hfz15_1 := blk_frozen BK407.out 1; have hfz15_2 := blk_frozen BK407.out 2; have hfz15_3 := blk_frozen BK407.out 3; have hfz15_4 := blk_frozen BK407.out 4; have hfz15_5 := blk_frozen BK407.out 5; have hfz15_6 := blk_frozen BK407.out 6; have hfz15_7 := blk_frozen BK407.out 7; have hfz15_8 := blk_frozen BK407.out 8; have hfz15_9 := blk_frozen BK407.out 9; have hfz15_10 := blk_frozen BK407.out 10) | ((with_reducible refine gate_callee (f := 29) rfl ?_); refine goesL_ (some 14) rfl rfl Try.func29 (by kernel_rfl) rfl #[.agg #[.int .i64 a0_0, .int .i64 a0_1, .string a0_2, .int .i64 a0_3, .slice A0_4 l0_4.length c0_4, .string a0_5, .string a0_6, .int .i64 a0_7, .slice A0_8 l0_8.length c0_8, .slice A0_9 l0_9.length c0_9, .slice A0_10 l0_10.length c0_10]] rfl (by (try simp only [List.map_toArray, List.map_cons, List.map_nil]); first | done | rfl | (simp only [List.length_drop, List.length_take]; rfl)) ?_; (with_reducible refine (code_Rate.calls k a0_0 a0_1 a0_2 a0_3 _ _ l0_4 a0_5 a0_6 a0_7 _ _ l0_8 _ _ l0_9 _ _ l0_10 t408 t409 t410 _ ?side1 ?side2 ?side3 ?side4 ?side5 ?side6 ?side7 ?side8 A2.out).mono ?_); (case side1 => repeat (first | exact (Kd.C_below HR0_4.out HB.out) | (with_reducible refine Kd.C_alloc ?_ _) | (with_reducible refine Kd.C_drewN ?_ _) | (with_reducible refine Kd.C_drew ?_))); (case side2 => exact HC0_4.out); (case side3 => repeat (first | exact (Kd.C_below HR0_8.out HB.out) | (with_reducible refine Kd.C_alloc ?_ _) | (with_reducible refine Kd.C_drewN ?_ _) | (with_reducible refine Kd.C_drew ?_))); (case side4 => exact HC0_8.out); (case side5 => repeat (first | exact (Kd.C_below HR0_9.out HB.out) | (with_reducible refine Kd.C_alloc ?_ _) | (with_reducible refine Kd.C_drewN ?_ _) | (with_reducible refine Kd.C_drew ?_))); (case side6 => exact HC0_9.out); (case side7 => repeat (first | exact (Kd.C_below HR0_10.out HB.out) | (with_reducible refine Kd.C_alloc ?_ _) | (with_reducible refine Kd.C_drewN ?_ _) | (with_reducible refine Kd.C_drew ?_))); (case side8 => exact HC0_10.out); rintro e w16 ⟨rfl, hb⟩; refine ⟨_, rfl, ?_⟩; have n0_ := Aside0.mk (blk_below (g := gb407) (o := .cells #[.int .i64 a0_0, .int .i64 a0_1, .string a0_2, .int .i64 a0_3, .slice A0_4 l0_4.length c0_4, .string a0_5, .string a0_6, .int .i64 a0_7, .slice A0_8 l0_8.length c0_8, .slice A0_9 l0_9.length c0_9, .slice A0_10 l0_10.length c0_10] 52 (0, 0)) (by (with_reducible repeat (first | refine blk_drewN ?_ _ | refine blk_drew ?_ | refine blk_alloc ?_ _)); exact BK407.out) hb); have n1_ := Aside0.mk (below_step (by repeat (first | (with_reducible first | exact HB.out | apply below_alloc | apply pw_below_drewN | apply below_drew1 | refine below_set ?_ GE407.out) | exact HB.out)) hb); clear BK407; clear HB; have BK407 := n0_; have HB := n1_; clear n0_ n1_; (try clear hb); (try clear hb2); (try clear hk); (try clear hi)) | ((with_reducible refine gate_dst (N := 4) rfl ?_); refine box_event ?hg (N := 4) ?hd (cs := #[.int .i64 0, .bool false]) (t := 23) ?hr ?_; (case hd => rfl); (case hg => rfl); (case hr => first | (go_simp; done) | (go_simp; rfl)); intro gb411 hg w17 hbox hb; have n0_ := Aside0.mk (blk_below (g := gb407) (o := .cells #[.int .i64 a0_0, .int .i64 a0_1, .string a0_2, .int .i64 a0_3, .slice A0_4 l0_4.length c0_4, .string a0_5, .string a0_6, .int .i64 a0_7, .slice A0_8 l0_8.length c0_8, .slice A0_9 l0_9.length c0_9, .slice A0_10 l0_10.length c0_10] 52 (0, 0)) (by (with_reducible repeat (first | refine blk_drewN ?_ _ | refine blk_drew ?_ | refine blk_alloc ?_ _)); exact BK407.out) hb); have n1_ := Aside0.mk (below_step (by repeat (first | (with_reducible first | exact HB.out | apply below_alloc | apply pw_below_drewN | apply below_drew1 | refine below_set ?_ GE407.out) | exact HB.out)) hb); have n2_ := Aside0.mk (hbox); have n3_ := Aside0.mk ((by rw [hg]; exact (below_size (by repeat (first | (with_reducible first | exact HB.out | apply below_alloc | apply pw_below_drewN | apply below_drew1 | refine below_set ?_ GE407.out) | exact HB.out))) : w.heap.size ≤ gb411)); have n4_ := Aside0.mk ((by rw [hg]; exact (below_size (by repeat (first | (with_reducible first | exact HB.out | apply below_alloc | apply pw_below_drewN | apply below_drew1 | refine below_set ?_ GE407.out) | exact HB.out))) : w.heap.size ≤ gb411)); have n5_ := Aside0.mk ((by rw [hg]; exact Nat.ne_of_lt (blk_lt (g := gb407) (o := .cells #[.int .i64 a0_0, .int .i64 a0_1, .string a0_2, .int .i64 a0_3, .slice A0_4 l0_4.length c0_4, .string a0_5, .string a0_6, .int .i64 a0_7, .slice A0_8 l0_8.length c0_8, .slice A0_9 l0_9.length c0_9, .slice A0_10 l0_10.length c0_10] 52 (0, 0)) (by (with_reducible repeat (first | refine blk_drewN ?_ _ | refine blk_drew ?_ | refine blk_alloc ?_ _)); exact BK407.out)) : gb407 ≠ gb411)); have n6_ := Aside0.mk ((by rw [hg]; exact Nat.ne_of_gt (blk_lt (g := gb407) (o := .cells #[.int .i64 a0_0, .int .i64 a0_1, .string a0_2, .int .i64 a0_3, .slice A0_4 l0_4.length c0_4, .string a0_5, .string a0_6, .int .i64 a0_7, .slice A0_8 l0_8.length c0_8, .slice A0_9 l0_9.length c0_9, .slice A0_10 l0_10.length c0_10] 52 (0, 0)) (by (with_reducible repeat (first | refine blk_drewN ?_ _ | refine blk_drew ?_ | refine blk_alloc ?_ _)); exact BK407.out)) : gb411 ≠ gb407)); clear BK407; clear HB; have BK407 := n0_; have HB := n1_; have BK411 := n2_; have GW411 := n3_; have GE411 := n4_; have NB407_411 := n5_; have NB411_407 := n6_; clear n0_ n1_ n2_ n3_ n4_ n5_ n6_; clear hb hbox hg; have hnb18 := NB411_407.out; have hnc18 := NB407_411.out; have hcz19_0 : w17.cell? ⟨gb411, 0, none⟩ = some (.int .i64 0) := (blk_cell BK411.out 0).trans rfl; have hcz19_1 : w17.cell? ⟨gb411, 1, none⟩ = some (.bool false) := (blk_cell BK411.out 1).trans rfl; have hfz19_0 := blk_frozen BK411.out 0; have hfz19_1 := blk_frozen BK411.out 1; have hcz20_0 : w17.cell? ⟨gb407, 0, none⟩ = some (.int .i64 a0_0) := (blk_cell BK407.out 0).trans rfl; have hcz20_1 : w17.cell? ⟨gb407, 1, none⟩ = some (.int .i64 a0_1) := (blk_cell BK407.out 1).trans rfl; have hcz20_2 : w17.cell? ⟨gb407, 2, none⟩ = some (.string a0_2) := (blk_cell BK407.out 2).trans rfl; have hcz20_3 : w17.cell? ⟨gb407, 3, none⟩ = some (.int .i64 a0_3) := (blk_cell BK407.out 3).trans rfl; have hcz20_4 : w17.cell? ⟨gb407, 4, none⟩ = some (.slice A0_4 l0_4.length c0_4) := (blk_cell BK407.out 4).trans rfl; have hcz20_5 : w17.cell? ⟨gb407, 5, none⟩ = some (.string a0_5) := (blk_cell BK407.out 5).trans rfl; have hcz20_6 : w17.cell? ⟨gb407, 6, none⟩ = some (.string a0_6) := (blk_cell BK407.out 6).trans rfl; have hcz20_7 : w17.cell? ⟨gb407, 7, none⟩ = some (.int .i64 a0_7) := (blk_cell BK407.out 7).trans rfl; have hcz20_8 : w17.cell? ⟨gb407, 8, none⟩ = some (.slice A0_8 l0_8.length c0_8) := (blk_cell BK407.out 8).trans rfl; have hcz20_9 : w17.cell? ⟨gb407, 9, none⟩ = some (.slice A0_9 l0_9.length c0_9) := (blk_cell BK407.out 9).trans rfl; have hcz20_10 : w17.cell? ⟨gb407, 10, none⟩ = some (.slice A0_10 l0_10.length c0_10) := (blk_cell BK407.out 10).trans rfl; have hfz20_0 := blk_frozen BK407.out 0; have hfz20_1 := blk_frozen BK407.out 1; have hfz20_2 := blk_frozen BK407.out 2; have hfz20_3 := blk_frozen BK407.out 3; have hfz20_4 := blk_frozen BK407.out 4; have hfz20_5 := blk_frozen BK407.out 5; have hfz20_6 := blk_frozen BK407.out 6; have hfz20_7 := blk_frozen BK407.out 7; have hfz20_8 := blk_frozen BK407.out 8; have hfz20_9 := blk_frozen BK407.out 9; have hfz20_10 := blk_frozen BK407.out 10) | ((with_reducible refine gate_callee (f := 52) rfl ?_); refine goesL_ (some 22) rfl rfl Try.func52 (by kernel_rfl) rfl #[.slice A0_10 l0_10.length c0_10, .func (.func 53) #[] #[]] rfl (by (try simp only [List.map_toArray, List.map_cons, List.map_nil]); first | done | rfl | (simp only [List.length_drop, List.length_take]; rfl)) ?_; (with_reducible refine (api_Sample_52.calls _ _ l0_10 53 false _ ?side1 ?side2 A4.out).mono ?_); (case side1 => exact Kd.C_below HR0_10.out (by repeat (first | (with_reducible first | exact HB.out | apply below_alloc | apply pw_below_drewN | apply below_drew1 | refine below_set ?_ GE407.out | refine below_set ?_ GE411.out) | exact HB.out))); (case side2 => exact HC0_10.out); rintro e w21 ⟨rfl, hb⟩; refine ⟨_, rfl, ?_⟩; have n0_ := Aside0.mk (blk_below (g := gb407) (o := .cells #[.int .i64 a0_0, .int .i64 a0_1, .string a0_2, .int .i64 a0_3, .slice A0_4 l0_4.length c0_4, .string a0_5, .string a0_6, .int .i64 a0_7, .slice A0_8 l0_8.length c0_8, .slice A0_9 l0_9.length c0_9, .slice A0_10 l0_10.length c0_10] 52 (0, 0)) (by (with_reducible repeat (first | refine blk_drewN ?_ _ | refine blk_drew ?_ | refine blk_alloc ?_ _)); refine blk_far ?_ NB407_411.out _; (with_reducible repeat (first | refine blk_drewN ?_ _ | refine blk_drew ?_ | refine blk_alloc ?_ _)); refine blk_far ?_ NB407_411.out _; (with_reducible repeat (first | refine blk_drewN ?_ _ | refine blk_drew ?_ | refine blk_alloc ?_ _)); exact BK407.out) hb); have n1_ := Aside0.mk (blk_below (g := gb411) (o := .cells #[.int .i64 t408, .bool t409] 23 (0, 0)) (by (with_reducible repeat (first | refine blk_drewN ?_ _ | refine blk_drew ?_ | refine blk_alloc ?_ _)); refine blk_put (cs := #[.int .i64 t408, .bool false]) ?_ 1 _ rfl; (with_reducible repeat (first | refine blk_drewN ?_ _ | refine blk_drew ?_ | refine blk_alloc ?_ _)); refine blk_put (cs := #[.int .i64 0, .bool false]) ?_ 0 _ rfl; (with_reducible repeat (first | refine blk_drewN ?_ _ | refine blk_drew ?_ | refine blk_alloc ?_ _)); exact BK411.out) hb); have n2_ := Aside0.mk (below_step (by repeat (first | (with_reducible first | exact HB.out | apply below_alloc | apply pw_below_drewN | apply below_drew1 | refine below_set ?_ GE407.out | refine below_set ?_ GE411.out) | exact HB.out)) hb); clear BK407; clear BK411; clear HB; have BK407 := n0_; have BK411 := n1_; have HB := n2_; clear n0_ n1_ n2_; (try clear hb); (try clear hb2); (try clear hk); (try clear hi); have hcz22_0 : w21.cell? ⟨gb407, 0, none⟩ = some (.int .i64 a0_0) := (blk_cell BK407.out 0).trans rfl; have hcz22_1 : w21.cell? ⟨gb407, 1, none⟩ = some (.int .i64 a0_1) := (blk_cell BK407.out 1).trans rfl; have hcz22_2 : w21.cell? ⟨gb407, 2, none⟩ = some (.string a0_2) := (blk_cell BK407.out 2).trans rfl; have hcz22_3 : w21.cell? ⟨gb407, 3, none⟩ = some (.int .i64 a0_3) := (blk_cell BK407.out 3).trans rfl; have hcz22_4 : w21.cell? ⟨gb407, 4, none⟩ = some (.slice A0_4 l0_4.length c0_4) := (blk_cell BK407.out 4).trans rfl; have hcz22_5 : w21.cell? ⟨gb407, 5, none⟩ = some (.string a0_5) := (blk_cell BK407.out 5).trans rfl; have hcz22_6 : w21.cell? ⟨gb407, 6, none⟩ = some (.string a0_6) := (blk_cell BK407.out 6).trans rfl; have hcz22_7 : w21.cell? ⟨gb407, 7, none⟩ = some (.int .i64 a0_7) := (blk_cell BK407.out 7).trans rfl; have hcz22_8 : w21.cell? ⟨gb407, 8, none⟩ = some (.slice A0_8 l0_8.length c0_8) := (blk_cell BK407.out 8).trans rfl; have hcz22_9 : w21.cell? ⟨gb407, 9, none⟩ = some (.slice A0_9 l0_9.length c0_9) := (blk_cell BK407.out 9).trans rfl; have hcz22_10 : w21.cell? ⟨gb407, 10, none⟩ = some (.slice A0_10 l0_10.length c0_10) := (blk_cell BK407.out 10).trans rfl; have hfz22_0 := blk_frozen BK407.out 0; have hfz22_1 := blk_frozen BK407.out 1; have hfz22_2 := blk_frozen BK407.out 2; have hfz22_3 := blk_frozen BK407.out 3; have hfz22_4 := blk_frozen BK407.out 4; have hfz22_5 := blk_frozen BK407.out 5; have hfz22_6 := blk_frozen BK407.out 6; have hfz22_7 := blk_frozen BK407.out 7; have hfz22_8 := blk_frozen BK407.out 8; have hfz22_9 := blk_frozen BK407.out 9; have hfz22_10 := blk_frozen BK407.out 10))
      go_loopg [6, 26] k (fun kq v6 v26 w' => ∃ (x6_1 : List Int) (x26_1 : Int), v26 = .int .i64 x26_1 ∧ Aside0 (code_Numbers.l0 kq x6_1 l0_10 (l0_10.length : Int) x26_1 t408 t409 = some (r1, r2)) ∧ Aside0 (kq ≤ k) ∧ Aside0 (Kd.R (Kd.int .i64) 3 w' w.heap.size (fun _ => True) v6 x6_1) ∧ Aside0 (w'.heap[gb407]? = some (.cells #[.int .i64 a0_0, .int .i64 a0_1, .string a0_2, .int .i64 a0_3, (.slice A0_4 l0_4.length c0_4), .string a0_5, .string a0_6, .int .i64 a0_7, (.slice A0_8 l0_8.length c0_8), (.slice A0_9 l0_9.length c0_9), (.slice A0_10 l0_10.length c0_10)] 52 (0, 0))) ∧ Aside0 (w'.heap[gb411]? = some (.cells #[.int .i64 t408, .bool t409] 23 (0, 0))) ∧ Aside0 (Below w.heap.size w w'))
      case atStart => exact ⟨(([] : List Int)), (0), (by first | rfl | (simp; done) | (simp [*]; done)), H', ⟨Nat.le_refl _⟩, ⟨by first | exact Kd.R_nil _ _ _ _ _ | exact Kd.N_nil _ _ _ _ _ | exact Kd.V_nil _ _ _ _ _ | exact Kd.Q_nil _ _ _ _ _ | exact Kd.S_nil _ _ _ _ _⟩, ⟨by (with_reducible repeat (first | refine blk_drewN ?_ _ | refine blk_drew ?_ | refine blk_alloc ?_ _)); exact BK407.out⟩, ⟨by (with_reducible repeat (first | refine blk_drewN ?_ _ | refine blk_drew ?_ | refine blk_alloc ?_ _)); exact BK411.out⟩, ⟨by repeat (first | (with_reducible first | exact HB.out | apply below_alloc | apply pw_below_drewN | apply below_drew1 | refine below_set ?_ GE407.out | refine below_set ?_ GE411.out) | exact HB.out)⟩⟩
      case round =>
        clear H'
        try clear c1
        try clear c2
        try clear p2
        try clear c3
        try clear c3b0
        try clear c3b1
        try clear c5
        try clear c10
        try clear c18
        try clear hcz11_0
        try clear hcz11_1
        try clear hcz12_0
        try clear hcz12_1
        try clear hcz12_10
        try clear hcz12_2
        try clear hcz12_3
        try clear hcz12_4
        try clear hcz12_5
        try clear hcz12_6
        try clear hcz12_7
        try clear hcz12_8
        try clear hcz12_9
        try clear hcz15_0
        try clear hcz15_1
        try clear hcz15_10
        try clear hcz15_2
        try clear hcz15_3
        try clear hcz15_4
        try clear hcz15_5
        try clear hcz15_6
        try clear hcz15_7
        try clear hcz15_8
        try clear hcz15_9
        try clear hcz19_0
        try clear hcz19_1
        try clear hcz20_0
        try clear hcz20_1
        try clear hcz20_10
        try clear hcz20_2
        try clear hcz20_3
        try clear hcz20_4
        try clear hcz20_5
        try clear hcz20_6
        try clear hcz20_7
        try clear hcz20_8
        try clear hcz20_9
        try clear hcz22_0
        try clear hcz22_1
        try clear hcz22_10
        try clear hcz22_2
        try clear hcz22_3
        try clear hcz22_4
        try clear hcz22_5
        try clear hcz22_6
        try clear hcz22_7
        try clear hcz22_8
        try clear hcz22_9
        try clear hcz7_0
        try clear hcz7_1
        try clear hcz7_10
        try clear hcz7_2
        try clear hcz7_3
        try clear hcz7_4
        try clear hcz7_5
        try clear hcz7_6
        try clear hcz7_7
        try clear hcz7_8
        try clear hcz7_9
        try clear hfz11_0
        try clear hfz11_1
        try clear hfz12_0
        try clear hfz12_1
        try clear hfz12_10
        try clear hfz12_2
        try clear hfz12_3
        try clear hfz12_4
        try clear hfz12_5
        try clear hfz12_6
        try clear hfz12_7
        try clear hfz12_8
        try clear hfz12_9
        try clear hfz15_0
        try clear hfz15_1
        try clear hfz15_10
        try clear hfz15_2
        try clear hfz15_3
        try clear hfz15_4
        try clear hfz15_5
        try clear hfz15_6
        try clear hfz15_7
        try clear hfz15_8
        try clear hfz15_9
        try clear hfz19_0
        try clear hfz19_1
        try clear hfz20_0
        try clear hfz20_1
        try clear hfz20_10
        try clear hfz20_2
        try clear hfz20_3
        try clear hfz20_4
        try clear hfz20_5
        try clear hfz20_6
        try clear hfz20_7
        try clear hfz20_8
        try clear hfz20_9
        try clear hfz22_0
        try clear hfz22_1
        try clear hfz22_10
        try clear hfz22_2
        try clear hfz22_3
        try clear hfz22_4
        try clear hfz22_5
        try clear hfz22_6
        try clear hfz22_7
        try clear hfz22_8
        try clear hfz22_9
        try clear hfz7_0
        try clear hfz7_1
        try clear hfz7_10
        try clear hfz7_2
        try clear hfz7_3
        try clear hfz7_4
        try clear hfz7_5
        try clear hfz7_6
        try clear hfz7_7
        try clear hfz7_8
        try clear hfz7_9
        obtain ⟨x6_1, x26_1, rfl, HA, HK1, HO_6, BK407, BK411, HB⟩ := hrel
        cases gk with
        | zero => exact absurd HA.out (by simp [code_Numbers.l0])
        | succ k1 =>
          have H := HA.out
          clear HA
          simp only [code_Numbers.l0] at H
          by_cases c23 : x26_1 < (l0_10.length : Int)
          · rw [if_pos c23] at H
            have c23b0 : decide (x26_1 < (l0_10.length : Int)) = true := decide_eq_true c23
            clear c23
            by_cases c24 : 0 ≤ x26_1
            · rw [if_pos c24] at H
              have c24b0 : decide (0 ≤ x26_1) = true := decide_eq_true c24
              clear c24
              by_cases c25 : x26_1 < (l0_10.length : Int)
              · rw [if_pos c25] at H
                have c25b0 : decide (x26_1 < (l0_10.length : Int)) = true := decide_eq_true c25
                clear c25
                have H' := Aside0.mk H
                clear H
                have p413 : 0 ≤ (x26_1 : Int) := of_decide_eq_true (by first | (with_reducible assumption) | assumption)
                have q413 : x26_1 < (l0_10.length : Int) := of_decide_eq_true (by first | (with_reducible assumption) | assumption)
                obtain ⟨ad413, A413_4, c413_4, A413_5, c413_5, e413, hx413_0, hx413_1, hx413_2, hx413_3, hx413_4, hx413_5, hl413_4, hi413_4, hl413_5, hi413_5⟩ := at_T82 HR0_10.out x26_1 p413 q413
                cases e413
                replace hx413_0 := (HB.out.cell (World.block_lt_of_cell? w _ hx413_0)).trans hx413_0
                replace hx413_1 := (HB.out.cell (World.block_lt_of_cell? w _ hx413_1)).trans hx413_1
                replace hx413_2 := (HB.out.cell (World.block_lt_of_cell? w _ hx413_2)).trans hx413_2
                replace hx413_3 := (HB.out.cell (World.block_lt_of_cell? w _ hx413_3)).trans hx413_3
                replace hx413_4 := (HB.out.cell (World.block_lt_of_cell? w _ hx413_4)).trans hx413_4
                replace hx413_5 := (HB.out.cell (World.block_lt_of_cell? w _ hx413_5)).trans hx413_5
                have HR413_4 := Aside0.mk hi413_4
                have HC413_4 := Aside0.mk hl413_4
                clear hi413_4 hl413_4
                have HR413_5 := Aside0.mk hi413_5
                have HC413_5 := Aside0.mk hl413_5
                clear hi413_5 hl413_5
                replace p413 := eq_true p413
                replace q413 := eq_true q413
                go_wp2_with (first | ((with_reducible refine gate_dst (N := 8) rfl ?_); refine box_event ?hg (N := 8) ?hd (cs := #[.int .i64 0, .int .i64 0, .int .i64 0, .bool false, .slice none 0 0, .slice none 0 0]) (t := 82) ?hr ?_; (case hd => rfl); (case hg => rfl); (case hr => first | (go_simp; done) | (go_simp; rfl)); intro gb414 hg w26 hbox hb; have n0_ := Aside0.mk (Kd.R_below (by (with_reducible repeat (first | apply Kd.R_alloc | apply Kd.R_drewN | apply Kd.R_drew)); exact HO_6.out) hb); have n1_ := Aside0.mk (blk_below (g := gb407) (o := .cells #[.int .i64 a0_0, .int .i64 a0_1, .string a0_2, .int .i64 a0_3, .slice A0_4 l0_4.length c0_4, .string a0_5, .string a0_6, .int .i64 a0_7, .slice A0_8 l0_8.length c0_8, .slice A0_9 l0_9.length c0_9, .slice (some ad413) l0_10.length c0_10] 52 (0, 0)) (by (with_reducible repeat (first | refine blk_drewN ?_ _ | refine blk_drew ?_ | refine blk_alloc ?_ _)); exact BK407.out) hb); have n2_ := Aside0.mk (blk_below (g := gb411) (o := .cells #[.int .i64 t408, .bool t409] 23 (0, 0)) (by (with_reducible repeat (first | refine blk_drewN ?_ _ | refine blk_drew ?_ | refine blk_alloc ?_ _)); exact BK411.out) hb); have n3_ := Aside0.mk (below_step (by repeat (first | (with_reducible first | exact HB.out | apply below_alloc | apply pw_below_drewN | apply below_drew1 | refine below_set ?_ GE407.out | refine below_set ?_ GE411.out) | exact HB.out)) hb); have n4_ := Aside0.mk (hbox); have n5_ := Aside0.mk ((by rw [hg]; exact (below_size (by repeat (first | (with_reducible first | exact HB.out | apply below_alloc | apply pw_below_drewN | apply below_drew1 | refine below_set ?_ GE407.out | refine below_set ?_ GE411.out) | exact HB.out))) : w.heap.size ≤ gb414)); have n6_ := Aside0.mk ((by rw [hg]; exact (below_size (by repeat (first | (with_reducible first | exact HB.out | apply below_alloc | apply pw_below_drewN | apply below_drew1 | refine below_set ?_ GE407.out | refine below_set ?_ GE411.out) | exact HB.out))) : w.heap.size ≤ gb414)); have n7_ := Aside0.mk ((by rw [hg]; exact Nat.ne_of_lt (blk_lt (g := gb407) (o := .cells #[.int .i64 a0_0, .int .i64 a0_1, .string a0_2, .int .i64 a0_3, .slice A0_4 l0_4.length c0_4, .string a0_5, .string a0_6, .int .i64 a0_7, .slice A0_8 l0_8.length c0_8, .slice A0_9 l0_9.length c0_9, .slice (some ad413) l0_10.length c0_10] 52 (0, 0)) (by (with_reducible repeat (first | refine blk_drewN ?_ _ | refine blk_drew ?_ | refine blk_alloc ?_ _)); exact BK407.out)) : gb407 ≠ gb414)); have n8_ := Aside0.mk ((by rw [hg]; exact Nat.ne_of_gt (blk_lt (g := gb407) (o := .cells #[.int .i64 a0_0, .int .i64 a0_1, .string a0_2, .int .i64 a0_3, .slice A0_4 l0_4.length c0_4, .string a0_5, .string a0_6, .int .i64 a0_7, .slice A0_8 l0_8.length c0_8, .slice A0_9 l0_9.length c0_9, .slice (some ad413) l0_10.length c0_10] 52 (0, 0)) (by (with_reducible repeat (first | refine blk_drewN ?_ _ | refine blk_drew ?_ | refine blk_alloc ?_ _)); exact BK407.out)) : gb414 ≠ gb407)); have n9_ := Aside0.mk ((by rw [hg]; exact Nat.ne_of_lt (blk_lt (g := gb411) (o := .cells #[.int .i64 t408, .bool t409] 23 (0, 0)) (by (with_reducible repeat (first | refine blk_drewN ?_ _ | refine blk_drew ?_ | refine blk_alloc ?_ _)); exact BK411.out)) : gb411 ≠ gb414)); have n10_ := Aside0.mk ((by rw [hg]; exact Nat.ne_of_gt (blk_lt (g := gb411) (o := .cells #[.int .i64 t408, .bool t409] 23 (0, 0)) (by (with_reducible repeat (first | refine blk_drewN ?_ _ | refine blk_drew ?_ | refine blk_alloc ?_ _)); exact BK411.out)) : gb414 ≠ gb411)); clear HO_6; clear BK407; clear BK411; clear HB; have HO_6 := n0_; have BK407 := n1_; have BK411 := n2_; have HB := n3_; have BK414 := n4_; have GW414 := n5_; have GE414 := n6_; have NB407_414 := n7_; have NB414_407 := n8_; have NB411_414 := n9_; have NB414_411 := n10_; clear n0_ n1_ n2_ n3_ n4_ n5_ n6_ n7_ n8_ n9_ n10_; clear hb hbox hg; have hnb27 := NB414_407.out; have hnc27 := NB407_414.out; have hnb28 := NB414_411.out; have hnc28 := NB411_414.out; have hcz29_0 : w26.cell? ⟨gb414, 0, none⟩ = some (.int .i64 0) := (blk_cell BK414.out 0).trans rfl; have hcz29_1 : w26.cell? ⟨gb414, 1, none⟩ = some (.int .i64 0) := (blk_cell BK414.out 1).trans rfl; have hcz29_2 : w26.cell? ⟨gb414, 2, none⟩ = some (.int .i64 0) := (blk_cell BK414.out 2).trans rfl; have hcz29_3 : w26.cell? ⟨gb414, 3, none⟩ = some (.bool false) := (blk_cell BK414.out 3).trans rfl; have hcz29_4 : w26.cell? ⟨gb414, 4, none⟩ = some (.slice none 0 0) := (blk_cell BK414.out 4).trans rfl; have hcz29_5 : w26.cell? ⟨gb414, 5, none⟩ = some (.slice none 0 0) := (blk_cell BK414.out 5).trans rfl; have hfz29_0 := blk_frozen BK414.out 0; have hfz29_1 := blk_frozen BK414.out 1; have hfz29_2 := blk_frozen BK414.out 2; have hfz29_3 := blk_frozen BK414.out 3; have hfz29_4 := blk_frozen BK414.out 4; have hfz29_5 := blk_frozen BK414.out 5))
                go_loopg [9, 33] k1 (fun kq v9 v33 w' => ∃ (x9_2 : Int) (x33_2 : Int), v9 = .int .i64 x9_2 ∧ v33 = .int .i64 x33_2 ∧ Aside0 (code_Numbers.l1 kq x6_1 x9_2 l0_10 (l0_10.length : Int) x26_1 ((rd_T82 l0_10 x26_1).f5) (((rd_T82 l0_10 x26_1).f5).length : Int) x33_2 t408 t409 = some (r1, r2)) ∧ Aside0 (kq ≤ k1) ∧ Aside0 (Kd.R (Kd.int .i64) 3 w' w.heap.size (fun _ => True) u6 x6_1) ∧ Aside0 (w'.heap[gb407]? = some (.cells #[.int .i64 a0_0, .int .i64 a0_1, .string a0_2, .int .i64 a0_3, (.slice A0_4 l0_4.length c0_4), .string a0_5, .string a0_6, .int .i64 a0_7, (.slice A0_8 l0_8.length c0_8), (.slice A0_9 l0_9.length c0_9), (.slice (some ad413) l0_10.length c0_10)] 52 (0, 0))) ∧ Aside0 (w'.heap[gb411]? = some (.cells #[.int .i64 t408, .bool t409] 23 (0, 0))) ∧ Aside0 (w'.heap[gb414]? = some (.cells #[.int .i64 ((rd_T82 l0_10 x26_1).f0), .int .i64 ((rd_T82 l0_10 x26_1).f1), .int .i64 ((rd_T82 l0_10 x26_1).f2), .bool ((rd_T82 l0_10 x26_1).f3), (.slice A413_4 ((rd_T82 l0_10 x26_1).f4).length c413_4), (.slice A413_5 ((rd_T82 l0_10 x26_1).f5).length c413_5)] 82 (0, 0))) ∧ Aside0 (Below w.heap.size w w'))
                case atStart => exact ⟨(0), (0), (by first | rfl | (simp; done) | (simp [*]; done)), (by first | rfl | (simp; done) | (simp [*]; done)), H', ⟨Nat.le_refl _⟩, ⟨by (with_reducible repeat (first | apply Kd.R_alloc | apply Kd.R_drewN | apply Kd.R_drew)); exact Kd.R_mono (Kd.R_far (p := ⟨gb414, 5, none⟩) (Kd.R_far (p := ⟨gb414, 4, none⟩) (Kd.R_far (p := ⟨gb414, 3, none⟩) (Kd.R_far (p := ⟨gb414, 2, none⟩) (Kd.R_far (p := ⟨gb414, 1, none⟩) (Kd.R_far (p := ⟨gb414, 0, none⟩) (Kd.R_types HO_6.out BK414.out (by decide)) (fun _ hk => hk.2) (.int .i64 ((rd_T82 l0_10 x26_1).f0))) (fun _ hk => hk.2) (.int .i64 ((rd_T82 l0_10 x26_1).f1))) (fun _ hk => hk.2) (.int .i64 ((rd_T82 l0_10 x26_1).f2))) (fun _ hk => hk.2) (.bool ((rd_T82 l0_10 x26_1).f3))) (fun _ hk => hk.2) (.slice A413_4 ((rd_T82 l0_10 x26_1).f4).length c413_4)) (fun _ hk => hk.2) (.slice A413_5 ((rd_T82 l0_10 x26_1).f5).length c413_5)) (fun _ hk => trivial)⟩, ⟨by (with_reducible repeat (first | refine blk_drewN ?_ _ | refine blk_drew ?_ | refine blk_alloc ?_ _)); refine blk_far ?_ NB407_414.out _; (with_reducible repeat (first | refine blk_drewN ?_ _ | refine blk_drew ?_ | refine blk_alloc ?_ _)); refine blk_far ?_ NB407_414.out _; (with_reducible repeat (first | refine blk_drewN ?_ _ | refine blk_drew ?_ | refine blk_alloc ?_ _)); refine blk_far ?_ NB407_414.out _; (with_reducible repeat (first | refine blk_drewN ?_ _ | refine blk_drew ?_ | refine blk_alloc ?_ _)); refine blk_far ?_ NB407_414.out _; (with_reducible repeat (first | refine blk_drewN ?_ _ | refine blk_drew ?_ | refine blk_alloc ?_ _)); refine blk_far ?_ NB407_414.out _; (with_reducible repeat (first | refine blk_drewN ?_ _ | refine blk_drew ?_ | refine blk_alloc ?_ _)); refine blk_far ?_ NB407_414.out _; (with_reducible repeat (first | refine blk_drewN ?_ _ | refine blk_drew ?_ | refine blk_alloc ?_ _)); exact BK407.out⟩, ⟨by (with_reducible repeat (first | refine blk_drewN ?_ _ | refine blk_drew ?_ | refine blk_alloc ?_ _)); refine blk_far ?_ NB411_414.out _; (with_reducible repeat (first | refine blk_drewN ?_ _ | refine blk_drew ?_ | refine blk_alloc ?_ _)); refine blk_far ?_ NB411_414.out _; (with_reducible repeat (first | refine blk_drewN ?_ _ | refine blk_drew ?_ | refine blk_alloc ?_ _)); refine blk_far ?_ NB411_414.out _; (with_reducible repeat (first | refine blk_drewN ?_ _ | refine blk_drew ?_ | refine blk_alloc ?_ _)); refine blk_far ?_ NB411_414.out _; (with_reducible repeat (first | refine blk_drewN ?_ _ | refine blk_drew ?_ | refine blk_alloc ?_ _)); refine blk_far ?_ NB411_414.out _; (with_reducible repeat (first | refine blk_drewN ?_ _ | refine blk_drew ?_ | refine blk_alloc ?_ _)); refine blk_far ?_ NB411_414.out _; (with_reducible repeat (first | refine blk_drewN ?_ _ | refine blk_drew ?_ | refine blk_alloc ?_ _)); exact BK411.out⟩, ⟨by (with_reducible repeat (first | refine blk_drewN ?_ _ | refine blk_drew ?_ | refine blk_alloc ?_ _)); refine blk_put (cs := #[.int .i64 ((rd_T82 l0_10 x26_1).f0), .int .i64 ((rd_T82 l0_10 x26_1).f1), .int .i64 ((rd_T82 l0_10 x26_1).f2), .bool ((rd_T82 l0_10 x26_1).f3), .slice A413_4 ((rd_T82 l0_10 x26_1).f4).length c413_4, .slice none 0 0]) ?_ 5 _ rfl; (with_reducible repeat (first | refine blk_drewN ?_ _ | refine blk_drew ?_ | refine blk_alloc ?_ _)); refine blk_put (cs := #[.int .i64 ((rd_T82 l0_10 x26_1).f0), .int .i64 ((rd_T82 l0_10 x26_1).f1), .int .i64 ((rd_T82 l0_10 x26_1).f2), .bool ((rd_T82 l0_10 x26_1).f3), .slice none 0 0, .slice none 0 0]) ?_ 4 _ rfl; (with_reducible repeat (first | refine blk_drewN ?_ _ | refine blk_drew ?_ | refine blk_alloc ?_ _)); refine blk_put (cs := #[.int .i64 ((rd_T82 l0_10 x26_1).f0), .int .i64 ((rd_T82 l0_10 x26_1).f1), .int .i64 ((rd_T82 l0_10 x26_1).f2), .bool false, .slice none 0 0, .slice none 0 0]) ?_ 3 _ rfl; (with_reducible repeat (first | refine blk_drewN ?_ _ | refine blk_drew ?_ | refine blk_alloc ?_ _)); refine blk_put (cs := #[.int .i64 ((rd_T82 l0_10 x26_1).f0), .int .i64 ((rd_T82 l0_10 x26_1).f1), .int .i64 0, .bool false, .slice none 0 0, .slice none 0 0]) ?_ 2 _ rfl; (with_reducible repeat (first | refine blk_drewN ?_ _ | refine blk_drew ?_ | refine blk_alloc ?_ _)); refine blk_put (cs := #[.int .i64 ((rd_T82 l0_10 x26_1).f0), .int .i64 0, .int .i64 0, .bool false, .slice none 0 0, .slice none 0 0]) ?_ 1 _ rfl; (with_reducible repeat (first | refine blk_drewN ?_ _ | refine blk_drew ?_ | refine blk_alloc ?_ _)); refine blk_put (cs := #[.int .i64 0, .int .i64 0, .int .i64 0, .bool false, .slice none 0 0, .slice none 0 0]) ?_ 0 _ rfl; (with_reducible repeat (first | refine blk_drewN ?_ _ | refine blk_drew ?_ | refine blk_alloc ?_ _)); exact BK414.out⟩, ⟨by repeat (first | (with_reducible first | exact HB.out | apply below_alloc | apply pw_below_drewN | apply below_drew1 | refine below_set ?_ GE407.out | refine below_set ?_ GE411.out | refine below_set ?_ GE414.out) | exact HB.out)⟩⟩
                case round =>
                  clear H'
                  try clear c1
                  try clear c2
                  try clear p2
                  try clear c3
                  try clear c3b0
                  try clear c3b1
                  try clear c4
                  try clear p4
                  try clear q4
                  try clear hx4
                  try clear c5
                  try clear c10
                  try clear c18
                  try clear c23
                  try clear c23b0
                  try clear c24
                  try clear c24b0
                  try clear c25
                  try clear c25b0
                  try clear c27
                  try clear c28
                  try clear c29
                  try clear hcz11_0
                  try clear hcz11_1
                  try clear hcz12_0
                  try clear hcz12_1
                  try clear hcz12_10
                  try clear hcz12_2
                  try clear hcz12_3
                  try clear hcz12_4
                  try clear hcz12_5
                  try clear hcz12_6
                  try clear hcz12_7
                  try clear hcz12_8
                  try clear hcz12_9
                  try clear hcz15_0
                  try clear hcz15_1
                  try clear hcz15_10
                  try clear hcz15_2
                  try clear hcz15_3
                  try clear hcz15_4
                  try clear hcz15_5
                  try clear hcz15_6
                  try clear hcz15_7
                  try clear hcz15_8
                  try clear hcz15_9
                  try clear hcz19_0
                  try clear hcz19_1
                  try clear hcz20_0
                  try clear hcz20_1
                  try clear hcz20_10
                  try clear hcz20_2
                  try clear hcz20_3
                  try clear hcz20_4
                  try clear hcz20_5
                  try clear hcz20_6
                  try clear hcz20_7
                  try clear hcz20_8
                  try clear hcz20_9
                  try clear hcz22_0
                  try clear hcz22_1
                  try clear hcz22_10
                  try clear hcz22_2
                  try clear hcz22_3
                  try clear hcz22_4
                  try clear hcz22_5
                  try clear hcz22_6
                  try clear hcz22_7
                  try clear hcz22_8
                  try clear hcz22_9
                  try clear hcz29_0
                  try clear hcz29_1
                  try clear hcz29_2
                  try clear hcz29_3
                  try clear hcz29_4
                  try clear hcz29_5
                  try clear hcz7_0
                  try clear hcz7_1
                  try clear hcz7_10
                  try clear hcz7_2
                  try clear hcz7_3
                  try clear hcz7_4
                  try clear hcz7_5
                  try clear hcz7_6
                  try clear hcz7_7
                  try clear hcz7_8
                  try clear hcz7_9
                  try clear hfz11_0
                  try clear hfz11_1
                  try clear hfz12_0
                  try clear hfz12_1
                  try clear hfz12_10
                  try clear hfz12_2
                  try clear hfz12_3
                  try clear hfz12_4
                  try clear hfz12_5
                  try clear hfz12_6
                  try clear hfz12_7
                  try clear hfz12_8
                  try clear hfz12_9
                  try clear hfz15_0
                  try clear hfz15_1
                  try clear hfz15_10
                  try clear hfz15_2
                  try clear hfz15_3
                  try clear hfz15_4
                  try clear hfz15_5
                  try clear hfz15_6
                  try clear hfz15_7
                  try clear hfz15_8
                  try clear hfz15_9
                  try clear hfz19_0
                  try clear hfz19_1
                  try clear hfz20_0
                  try clear hfz20_1
                  try clear hfz20_10
                  try clear hfz20_2
                  try clear hfz20_3
                  try clear hfz20_4
                  try clear hfz20_5
                  try clear hfz20_6
                  try clear hfz20_7
                  try clear hfz20_8
                  try clear hfz20_9
                  try clear hfz22_0
                  try clear hfz22_1
                  try clear hfz22_10
                  try clear hfz22_2
                  try clear hfz22_3
                  try clear hfz22_4
                  try clear hfz22_5
                  try clear hfz22_6
                  try clear hfz22_7
                  try clear hfz22_8
                  try clear hfz22_9
                  try clear hfz29_0
                  try clear hfz29_1
                  try clear hfz29_2
                  try clear hfz29_3
                  try clear hfz29_4
                  try clear hfz29_5
                  try clear hfz7_0
                  try clear hfz7_1
                  try clear hfz7_10
                  try clear hfz7_2
                  try clear hfz7_3
                  try clear hfz7_4
                  try clear hfz7_5
                  try clear hfz7_6
                  try clear hfz7_7
                  try clear hfz7_8
                  try clear hfz7_9
                  try clear hx413_0
                  try clear hx413_1
                  try clear hx413_2
                  try clear hx413_3
                  try clear hx413_4
                  try clear hx413_5
                  try clear p2
                  try clear p413
                  try clear q413
                  obtain ⟨x9_2, x33_2, rfl, rfl, HA, HK2, HO_6, BK407, BK411, BK414, HB⟩ := hrel
                  cases gk with
                  | zero => exact absurd HA.out (by simp [code_Numbers.l1])
                  | succ k2 =>
                    have H := HA.out
                    clear HA
                    simp only [code_Numbers.l1] at H
                    by_cases c30 : x33_2 < (((rd_T82 l0_10 x26_1).f5).length : Int)
                    · rw [if_pos c30] at H
                      have c30b0 : decide (x33_2 < (((rd_T82 l0_10 x26_1).f5).length : Int)) = true := decide_eq_true c30
                      clear c30
                      by_cases c31 : 0 ≤ x33_2
                      · rw [if_pos c31] at H
                        have c31b0 : decide (0 ≤ x33_2) = true := decide_eq_true c31
                        clear c31
                        by_cases c32 : x33_2 < (((rd_T82 l0_10 x26_1).f5).length : Int)
                        · rw [if_pos c32] at H
                          have c32b0 : decide (x33_2 < (((rd_T82 l0_10 x26_1).f5).length : Int)) = true := decide_eq_true c32
                          clear c32
                          have H' := Aside0.mk H
                          clear H
                          have p415 : 0 ≤ (x33_2 : Int) := of_decide_eq_true (by first | (with_reducible assumption) | assumption)
                          have q415 : x33_2 < (((rd_T82 l0_10 x26_1).f5).length : Int) := of_decide_eq_true (by first | (with_reducible assumption) | assumption)
                          obtain ⟨ad415, e415, hx415_0⟩ := Kd.at_int HR413_5.out x33_2 p415 q415
                          cases e415
                          replace hx415_0 := (HB.out.cell (World.block_lt_of_cell? w _ hx415_0)).trans hx415_0
                          replace p415 := eq_true p415
                          replace q415 := eq_true q415
                          go_wp2
                          go_roundg k2
                          case measure => have := HK1.out; have := HK2.out; omega
                          case rel => exact ⟨(Go.bits .or .i64 (wrap64 (x9_2 * 256)) (wrap64 (rd ((rd_T82 l0_10 x26_1).f5) x33_2))), (wrap64 (x33_2 + 1)), (by first | rfl | (simp; done) | (simp [*]; done)), (by first | rfl | (simp; done) | (simp [*]; done)), H', ⟨by have := HK1.out; have := HK2.out; omega⟩, ⟨by (with_reducible repeat (first | apply Kd.R_alloc | apply Kd.R_drewN | apply Kd.R_drew)); exact HO_6.out⟩, ⟨by (with_reducible repeat (first | refine blk_drewN ?_ _ | refine blk_drew ?_ | refine blk_alloc ?_ _)); exact BK407.out⟩, ⟨by (with_reducible repeat (first | refine blk_drewN ?_ _ | refine blk_drew ?_ | refine blk_alloc ?_ _)); exact BK411.out⟩, ⟨by (with_reducible repeat (first | refine blk_drewN ?_ _ | refine blk_drew ?_ | refine blk_alloc ?_ _)); exact BK414.out⟩, ⟨by repeat (first | (with_reducible first | exact HB.out | apply below_alloc | apply pw_below_drewN | apply below_drew1 | refine below_set ?_ GE407.out | refine below_set ?_ GE411.out | refine below_set ?_ GE414.out) | exact HB.out)⟩⟩
                        · rw [if_neg c32] at H
                          exact absurd H (by simp)
                      · rw [if_neg c31] at H
                        exact absurd H (by simp)
                    · rw [if_neg c30] at H
                      have c30b0 : decide (x33_2 < (((rd_T82 l0_10 x26_1).f5).length : Int)) = false := decide_eq_false c30
                      clear c30
                      replace H := Option.bind_eq_some_iff.mp H
                      obtain ⟨t416, A330, H⟩ := H
                      replace H : (if x9_2 ≥ t416 then (some (([] : List Int), 1)) else (if x6_1.length < 17592186044416 then (code_Numbers.l0 k2 (x6_1 ++ [x9_2]) l0_10 (l0_10.length : Int) (wrap64 (x26_1 + 1)) t408 t409) else (none))) = some (r1, r2) := H
                      have A33 := Aside0.mk A330
                      clear A330
                      by_cases c34 : x9_2 ≥ t416
                      · rw [if_pos c34] at H
                        have c34b0 : decide (t416 ≤ x9_2) = true := decide_eq_true c34
                        clear c34
                        simp only [Option.some.injEq, Prod.mk.injEq] at H
                        obtain ⟨rfl, rfl⟩ := H
                        have hnb35 := NB411_407.out
                        have hnc35 := NB407_411.out
                        have hnb36 := NB411_414.out
                        have hnc36 := NB414_411.out
                        have hcz37_0 : wr.cell? ⟨gb411, 0, none⟩ = some (.int .i64 t408) := (blk_cell BK411.out 0).trans rfl
                        have hcz37_1 : wr.cell? ⟨gb411, 1, none⟩ = some (.bool t409) := (blk_cell BK411.out 1).trans rfl
                        have hfz37_0 := blk_frozen BK411.out 0
                        have hfz37_1 := blk_frozen BK411.out 1
                        go_wp2_with (first | ((with_reducible refine gate_callee (f := 37) rfl ?_); refine goesL_ (some 46) rfl rfl Try.func37 (by kernel_rfl) rfl #[.agg #[.int .i64 t408, .bool t409]] rfl (by (try simp only [List.map_toArray, List.map_cons, List.map_nil]); first | done | rfl | (simp only [List.length_drop, List.length_take]; rfl)) ?_; (with_reducible refine (code_steps_day.calls t408 t409 t416 _ A33.out).mono ?_); rintro e w38 ⟨rfl, hb⟩; refine ⟨_, rfl, ?_⟩; have n0_ := Aside0.mk (Kd.R_below (by (with_reducible repeat (first | apply Kd.R_alloc | apply Kd.R_drewN | apply Kd.R_drew)); exact HO_6.out) hb); have n1_ := Aside0.mk (blk_below (g := gb407) (o := .cells #[.int .i64 a0_0, .int .i64 a0_1, .string a0_2, .int .i64 a0_3, .slice A0_4 l0_4.length c0_4, .string a0_5, .string a0_6, .int .i64 a0_7, .slice A0_8 l0_8.length c0_8, .slice A0_9 l0_9.length c0_9, .slice (some ad413) l0_10.length c0_10] 52 (0, 0)) (by (with_reducible repeat (first | refine blk_drewN ?_ _ | refine blk_drew ?_ | refine blk_alloc ?_ _)); exact BK407.out) hb); have n2_ := Aside0.mk (blk_below (g := gb411) (o := .cells #[.int .i64 t408, .bool t409] 23 (0, 0)) (by (with_reducible repeat (first | refine blk_drewN ?_ _ | refine blk_drew ?_ | refine blk_alloc ?_ _)); exact BK411.out) hb); have n3_ := Aside0.mk (blk_below (g := gb414) (o := .cells #[.int .i64 ((rd_T82 l0_10 x26_1).f0), .int .i64 ((rd_T82 l0_10 x26_1).f1), .int .i64 ((rd_T82 l0_10 x26_1).f2), .bool ((rd_T82 l0_10 x26_1).f3), .slice A413_4 ((rd_T82 l0_10 x26_1).f4).length c413_4, .slice A413_5 ((rd_T82 l0_10 x26_1).f5).length c413_5] 82 (0, 0)) (by (with_reducible repeat (first | refine blk_drewN ?_ _ | refine blk_drew ?_ | refine blk_alloc ?_ _)); exact BK414.out) hb); have n4_ := Aside0.mk (below_step (by repeat (first | (with_reducible first | exact HB.out | apply below_alloc | apply pw_below_drewN | apply below_drew1 | refine below_set ?_ GE407.out | refine below_set ?_ GE411.out | refine below_set ?_ GE414.out) | exact HB.out)) hb); clear HO_6; clear BK407; clear BK411; clear BK414; clear HB; have HO_6 := n0_; have BK407 := n1_; have BK411 := n2_; have BK414 := n3_; have HB := n4_; clear n0_ n1_ n2_ n3_ n4_; (try clear hb); (try clear hb2); (try clear hk); (try clear hi)))
                        go_ret2
                        exact ⟨_, by first | rfl | (simp [errW_none, errW_some] <;> rfl) | (simp [*, errW_none, errW_some] <;> rfl), by first | exact Kd.R_nil _ _ _ _ _ | exact Kd.N_nil _ _ _ _ _ | exact Kd.V_nil _ _ _ _ _ | exact Kd.Q_nil _ _ _ _ _ | exact Kd.S_nil _ _ _ _ _, by repeat (first | (with_reducible first | exact HB.out | apply below_alloc | apply pw_below_drewN | apply below_drew1 | refine below_set ?_ GE407.out | refine below_set ?_ GE411.out | refine below_set ?_ GE414.out) | exact HB.out)⟩
                      · rw [if_neg c34] at H
                        have c34b0 : decide (t416 ≤ x9_2) = false := decide_eq_false c34
                        clear c34
                        by_cases c39 : x6_1.length < 17592186044416
                        · rw [if_pos c39] at H
                          have LMc39 := Aside0.mk c39
                          clear c39
                          obtain ⟨y417, hy417⟩ : ∃ y_ : List Int, y_ = (x6_1 ++ [x9_2]) := ⟨_, rfl⟩
                          replace H : (code_Numbers.l0 k2 y417 l0_10 (l0_10.length : Int) (wrap64 (x26_1 + 1)) t408 t409) = some (r1, r2) := by first | (rw [hy417]; with_reducible exact H) | (have H2_ := (Option.bind_some _ _).symm.trans H; rw [hy417]; with_reducible exact H2_) | (have H2_ := (Option.bind_some _ _).symm.trans H; with_reducible exact H2_) | with_reducible exact H | (rw [hy417]; exact H) | exact H
                          have Ny417 := Aside0.mk hy417
                          clear hy417
                          have H' := Aside0.mk H
                          clear H
                          have hnb40 := NB411_407.out
                          have hnc40 := NB407_411.out
                          have hnb41 := NB411_414.out
                          have hnc41 := NB414_411.out
                          have hcz42_0 : wr.cell? ⟨gb411, 0, none⟩ = some (.int .i64 t408) := (blk_cell BK411.out 0).trans rfl
                          have hcz42_1 : wr.cell? ⟨gb411, 1, none⟩ = some (.bool t409) := (blk_cell BK411.out 1).trans rfl
                          have hfz42_0 := blk_frozen BK411.out 0
                          have hfz42_1 := blk_frozen BK411.out 1
                          go_wp2_with (first | ((with_reducible refine gate_callee (f := 37) rfl ?_); refine goesL_ (some 46) rfl rfl Try.func37 (by kernel_rfl) rfl #[.agg #[.int .i64 t408, .bool t409]] rfl (by (try simp only [List.map_toArray, List.map_cons, List.map_nil]); first | done | rfl | (simp only [List.length_drop, List.length_take]; rfl)) ?_; (with_reducible refine (code_steps_day.calls t408 t409 t416 _ A33.out).mono ?_); rintro e w43 ⟨rfl, hb⟩; refine ⟨_, rfl, ?_⟩; have n0_ := Aside0.mk (Kd.R_below (by (with_reducible repeat (first | apply Kd.R_alloc | apply Kd.R_drewN | apply Kd.R_drew)); exact HO_6.out) hb); have n1_ := Aside0.mk (blk_below (g := gb407) (o := .cells #[.int .i64 a0_0, .int .i64 a0_1, .string a0_2, .int .i64 a0_3, .slice A0_4 l0_4.length c0_4, .string a0_5, .string a0_6, .int .i64 a0_7, .slice A0_8 l0_8.length c0_8, .slice A0_9 l0_9.length c0_9, .slice (some ad413) l0_10.length c0_10] 52 (0, 0)) (by (with_reducible repeat (first | refine blk_drewN ?_ _ | refine blk_drew ?_ | refine blk_alloc ?_ _)); exact BK407.out) hb); have n2_ := Aside0.mk (blk_below (g := gb411) (o := .cells #[.int .i64 t408, .bool t409] 23 (0, 0)) (by (with_reducible repeat (first | refine blk_drewN ?_ _ | refine blk_drew ?_ | refine blk_alloc ?_ _)); exact BK411.out) hb); have n3_ := Aside0.mk (blk_below (g := gb414) (o := .cells #[.int .i64 ((rd_T82 l0_10 x26_1).f0), .int .i64 ((rd_T82 l0_10 x26_1).f1), .int .i64 ((rd_T82 l0_10 x26_1).f2), .bool ((rd_T82 l0_10 x26_1).f3), .slice A413_4 ((rd_T82 l0_10 x26_1).f4).length c413_4, .slice A413_5 ((rd_T82 l0_10 x26_1).f5).length c413_5] 82 (0, 0)) (by (with_reducible repeat (first | refine blk_drewN ?_ _ | refine blk_drew ?_ | refine blk_alloc ?_ _)); exact BK414.out) hb); have n4_ := Aside0.mk (below_step (by repeat (first | (with_reducible first | exact HB.out | apply below_alloc | apply pw_below_drewN | apply below_drew1 | refine below_set ?_ GE407.out | refine below_set ?_ GE411.out | refine below_set ?_ GE414.out) | exact HB.out)) hb); clear HO_6; clear BK407; clear BK411; clear BK414; clear HB; have HO_6 := n0_; have BK407 := n1_; have BK411 := n2_; have BK414 := n3_; have HB := n4_; clear n0_ n1_ n2_ n3_ n4_; (try clear hb); (try clear hb2); (try clear hk); (try clear hi)) | ((with_reducible refine gate_builtin (b := .append) (xs := #[.tmp 48, .tmp 50]) rfl ?_); at_builtin; refine Kd.R_append (Kd.int .i64) (w0 := w) w.heap.size rfl (.tmp 48) (.tmp 50) 55 3 (.int .i64 0) 8 rfl Try.underlying55 info3 rfl (by decide) (by omega) u6 x6_1 x9_2 [.int .i64 x9_2] (fun _ => True) (fun _ => False) rfl rfl ?aP (fun _ hk => hk.elim) ?aF ?aO ?aB ?aS ?aL ?_; (case aP => exact rfl); (case aB => exact (by repeat (first | (with_reducible first | exact HB.out | apply below_alloc | apply pw_below_drewN | apply below_drew1 | refine below_set ?_ GE407.out | refine below_set ?_ GE411.out | refine below_set ?_ GE414.out) | exact HB.out))); (case aF => exact (fun _ _ => trivial)); (case aO => exact (by (with_reducible repeat (first | apply Kd.R_alloc | apply Kd.R_drewN | apply Kd.R_drew)); exact HO_6.out)); (case aS => exact (below_size (by repeat (first | (with_reducible first | exact HB.out | apply below_alloc | apply pw_below_drewN | apply below_drew1 | refine below_set ?_ GE407.out | refine below_set ?_ GE411.out | refine below_set ?_ GE414.out) | exact HB.out)))); (case aL => have := LMc39.out; omega); intro v418 w44 ho hb hg hat; rw [← Ny417.out] at ho; have n0_ := Aside0.mk (blk_grown (g := gb407) (o := .cells #[.int .i64 a0_0, .int .i64 a0_1, .string a0_2, .int .i64 a0_3, .slice A0_4 l0_4.length c0_4, .string a0_5, .string a0_6, .int .i64 a0_7, .slice A0_8 l0_8.length c0_8, .slice A0_9 l0_9.length c0_9, .slice (some ad413) l0_10.length c0_10] 52 (0, 0)) (by (with_reducible repeat (first | refine blk_drewN ?_ _ | refine blk_drew ?_ | refine blk_alloc ?_ _)); exact BK407.out) hg (Kd.R_ne HO_6.out BK407.out (by decide))); have n1_ := Aside0.mk (blk_grown (g := gb411) (o := .cells #[.int .i64 t408, .bool t409] 23 (0, 0)) (by (with_reducible repeat (first | refine blk_drewN ?_ _ | refine blk_drew ?_ | refine blk_alloc ?_ _)); exact BK411.out) hg (Kd.R_ne HO_6.out BK411.out (by decide))); have n2_ := Aside0.mk (blk_grown (g := gb414) (o := .cells #[.int .i64 ((rd_T82 l0_10 x26_1).f0), .int .i64 ((rd_T82 l0_10 x26_1).f1), .int .i64 ((rd_T82 l0_10 x26_1).f2), .bool ((rd_T82 l0_10 x26_1).f3), .slice A413_4 ((rd_T82 l0_10 x26_1).f4).length c413_4, .slice A413_5 ((rd_T82 l0_10 x26_1).f5).length c413_5] 82 (0, 0)) (by (with_reducible repeat (first | refine blk_drewN ?_ _ | refine blk_drew ?_ | refine blk_alloc ?_ _)); exact BK414.out) hg (Kd.R_ne HO_6.out BK414.out (by decide))); have n3_ := Aside0.mk (hb); have n4_ := Aside0.mk (ho); clear BK407; clear BK411; clear BK414; clear HB; clear HO_6; have BK407 := n0_; have BK411 := n1_; have BK414 := n2_; have HB := n3_; have HO419 := n4_; clear n0_ n1_ n2_ n3_ n4_; clear ho hb hg hat))
                          go_roundg k2
                          case measure => have := HK1.out; have := HK2.out; omega
                          case rel => exact ⟨(y417), (wrap64 (x26_1 + 1)), (by first | rfl | (simp; done) | (simp [*]; done)), H', ⟨by have := HK1.out; have := HK2.out; omega⟩, ⟨by (with_reducible repeat (first | apply Kd.R_alloc | apply Kd.R_drewN | apply Kd.R_drew)); exact HO419.out⟩, ⟨by (with_reducible repeat (first | refine blk_drewN ?_ _ | refine blk_drew ?_ | refine blk_alloc ?_ _)); exact BK407.out⟩, ⟨by (with_reducible repeat (first | refine blk_drewN ?_ _ | refine blk_drew ?_ | refine blk_alloc ?_ _)); exact BK411.out⟩, ⟨by repeat (first | (with_reducible first | exact HB.out | apply below_alloc | apply pw_below_drewN | apply below_drew1 | refine below_set ?_ GE407.out | refine below_set ?_ GE411.out | refine below_set ?_ GE414.out) | exact HB.out)⟩⟩
                        · rw [if_neg c39] at H
                          exact absurd H (by simp)
              · rw [if_neg c25] at H
                exact absurd H (by simp)
            · rw [if_neg c24] at H
              exact absurd H (by simp)
          · rw [if_neg c23] at H
            have c23b0 : decide (x26_1 < (l0_10.length : Int)) = false := decide_eq_false c23
            clear c23
            simp only [Option.some.injEq, Prod.mk.injEq] at H
            obtain ⟨rfl, rfl⟩ := H
            go_wp2
            go_ret2
            exact ⟨_, by first | rfl | (simp [errW_none, errW_some] <;> rfl) | (simp [*, errW_none, errW_some] <;> rfl), by (with_reducible repeat (first | apply Kd.R_alloc | apply Kd.R_drewN | apply Kd.R_drew)); exact HO_6.out, by repeat (first | (with_reducible first | exact HB.out | apply below_alloc | apply pw_below_drewN | apply below_drew1 | refine below_set ?_ GE407.out | refine below_set ?_ GE411.out) | exact HB.out)⟩
  · rw [if_neg c3] at H
    have c3b0 : (t410 == 0) = false := beq_eq_false_iff_ne.mpr c3
    have c3b1 : (t410 != 0) = true := bne_iff_ne.mpr c3
    simp only [Option.some.injEq, Prod.mk.injEq] at H
    obtain ⟨rfl, rfl⟩ := H
    go_enter Try.func31, Try.ntmps31
    go_wp2_with (first | ((with_reducible refine gate_dst (N := 1) rfl ?_); refine box_event ?hg (N := 1) ?hd (cs := #[.int .i64 a0_0, .int .i64 a0_1, .string a0_2, .int .i64 a0_3, .slice A0_4 l0_4.length c0_4, .string a0_5, .string a0_6, .int .i64 a0_7, .slice A0_8 l0_8.length c0_8, .slice A0_9 l0_9.length c0_9, .slice A0_10 l0_10.length c0_10]) (t := 52) ?hr ?_; (case hd => rfl); (case hg => rfl); (case hr => first | (go_simp; done) | (go_simp; rfl)); intro gb407 hg w45 hbox hb; have n0_ := Aside0.mk (below_step (by repeat (first | (with_reducible first | exact HB.out | apply below_alloc | apply pw_below_drewN | apply below_drew1) | exact HB.out)) hb); have n1_ := Aside0.mk (hbox); have n2_ := Aside0.mk ((by rw [hg]; exact (below_size (by repeat (first | (with_reducible first | exact HB.out | apply below_alloc | apply pw_below_drewN | apply below_drew1) | exact HB.out))) : w.heap.size ≤ gb407)); have n3_ := Aside0.mk ((by rw [hg]; exact (below_size (by repeat (first | (with_reducible first | exact HB.out | apply below_alloc | apply pw_below_drewN | apply below_drew1) | exact HB.out))) : w.heap.size ≤ gb407)); clear HB; have HB := n0_; have BK407 := n1_; have GW407 := n2_; have GE407 := n3_; clear n0_ n1_ n2_ n3_; clear hb hbox hg; have hcz46_0 : w45.cell? ⟨gb407, 0, none⟩ = some (.int .i64 a0_0) := (blk_cell BK407.out 0).trans rfl; have hcz46_1 : w45.cell? ⟨gb407, 1, none⟩ = some (.int .i64 a0_1) := (blk_cell BK407.out 1).trans rfl; have hcz46_2 : w45.cell? ⟨gb407, 2, none⟩ = some (.string a0_2) := (blk_cell BK407.out 2).trans rfl; have hcz46_3 : w45.cell? ⟨gb407, 3, none⟩ = some (.int .i64 a0_3) := (blk_cell BK407.out 3).trans rfl; have hcz46_4 : w45.cell? ⟨gb407, 4, none⟩ = some (.slice A0_4 l0_4.length c0_4) := (blk_cell BK407.out 4).trans rfl; have hcz46_5 : w45.cell? ⟨gb407, 5, none⟩ = some (.string a0_5) := (blk_cell BK407.out 5).trans rfl; have hcz46_6 : w45.cell? ⟨gb407, 6, none⟩ = some (.string a0_6) := (blk_cell BK407.out 6).trans rfl; have hcz46_7 : w45.cell? ⟨gb407, 7, none⟩ = some (.int .i64 a0_7) := (blk_cell BK407.out 7).trans rfl; have hcz46_8 : w45.cell? ⟨gb407, 8, none⟩ = some (.slice A0_8 l0_8.length c0_8) := (blk_cell BK407.out 8).trans rfl; have hcz46_9 : w45.cell? ⟨gb407, 9, none⟩ = some (.slice A0_9 l0_9.length c0_9) := (blk_cell BK407.out 9).trans rfl; have hcz46_10 : w45.cell? ⟨gb407, 10, none⟩ = some (.slice A0_10 l0_10.length c0_10) := (blk_cell BK407.out 10).trans rfl; have hfz46_0 := blk_frozen BK407.out 0; have hfz46_1 := blk_frozen BK407.out 1; have hfz46_2 := blk_frozen BK407.out 2; have hfz46_3 := blk_frozen BK407.out 3; have hfz46_4 := blk_frozen BK407.out 4; have hfz46_5 := blk_frozen BK407.out 5; have hfz46_6 := blk_frozen BK407.out 6; have hfz46_7 := blk_frozen BK407.out 7; have hfz46_8 := blk_frozen BK407.out 8; have hfz46_9 := blk_frozen BK407.out 9; have hfz46_10 := blk_frozen BK407.out 10) | ((with_reducible refine gate_callee (f := 29) rfl ?_); refine goesL_ (some 14) rfl rfl Try.func29 (by kernel_rfl) rfl #[.agg #[.int .i64 a0_0, .int .i64 a0_1, .string a0_2, .int .i64 a0_3, .slice A0_4 l0_4.length c0_4, .string a0_5, .string a0_6, .int .i64 a0_7, .slice A0_8 l0_8.length c0_8, .slice A0_9 l0_9.length c0_9, .slice A0_10 l0_10.length c0_10]] rfl (by (try simp only [List.map_toArray, List.map_cons, List.map_nil]); first | done | rfl | (simp only [List.length_drop, List.length_take]; rfl)) ?_; (with_reducible refine (code_Rate.calls k a0_0 a0_1 a0_2 a0_3 _ _ l0_4 a0_5 a0_6 a0_7 _ _ l0_8 _ _ l0_9 _ _ l0_10 t408 t409 t410 _ ?side1 ?side2 ?side3 ?side4 ?side5 ?side6 ?side7 ?side8 A2.out).mono ?_); (case side1 => repeat (first | exact (Kd.C_below HR0_4.out HB.out) | (with_reducible refine Kd.C_alloc ?_ _) | (with_reducible refine Kd.C_drewN ?_ _) | (with_reducible refine Kd.C_drew ?_))); (case side2 => exact HC0_4.out); (case side3 => repeat (first | exact (Kd.C_below HR0_8.out HB.out) | (with_reducible refine Kd.C_alloc ?_ _) | (with_reducible refine Kd.C_drewN ?_ _) | (with_reducible refine Kd.C_drew ?_))); (case side4 => exact HC0_8.out); (case side5 => repeat (first | exact (Kd.C_below HR0_9.out HB.out) | (with_reducible refine Kd.C_alloc ?_ _) | (with_reducible refine Kd.C_drewN ?_ _) | (with_reducible refine Kd.C_drew ?_))); (case side6 => exact HC0_9.out); (case side7 => repeat (first | exact (Kd.C_below HR0_10.out HB.out) | (with_reducible refine Kd.C_alloc ?_ _) | (with_reducible refine Kd.C_drewN ?_ _) | (with_reducible refine Kd.C_drew ?_))); (case side8 => exact HC0_10.out); rintro e w47 ⟨rfl, hb⟩; refine ⟨_, rfl, ?_⟩; have n0_ := Aside0.mk (blk_below (g := gb407) (o := .cells #[.int .i64 a0_0, .int .i64 a0_1, .string a0_2, .int .i64 a0_3, .slice A0_4 l0_4.length c0_4, .string a0_5, .string a0_6, .int .i64 a0_7, .slice A0_8 l0_8.length c0_8, .slice A0_9 l0_9.length c0_9, .slice A0_10 l0_10.length c0_10] 52 (0, 0)) (by (with_reducible repeat (first | refine blk_drewN ?_ _ | refine blk_drew ?_ | refine blk_alloc ?_ _)); exact BK407.out) hb); have n1_ := Aside0.mk (below_step (by repeat (first | (with_reducible first | exact HB.out | apply below_alloc | apply pw_below_drewN | apply below_drew1 | refine below_set ?_ GE407.out) | exact HB.out)) hb); clear BK407; clear HB; have BK407 := n0_; have HB := n1_; clear n0_ n1_; (try clear hb); (try clear hb2); (try clear hk); (try clear hi)) | ((with_reducible refine gate_dst (N := 4) rfl ?_); refine box_event ?hg (N := 4) ?hd (cs := #[.int .i64 0, .bool false]) (t := 23) ?hr ?_; (case hd => rfl); (case hg => rfl); (case hr => first | (go_simp; done) | (go_simp; rfl)); intro gb411 hg w48 hbox hb; have n0_ := Aside0.mk (blk_below (g := gb407) (o := .cells #[.int .i64 a0_0, .int .i64 a0_1, .string a0_2, .int .i64 a0_3, .slice A0_4 l0_4.length c0_4, .string a0_5, .string a0_6, .int .i64 a0_7, .slice A0_8 l0_8.length c0_8, .slice A0_9 l0_9.length c0_9, .slice A0_10 l0_10.length c0_10] 52 (0, 0)) (by (with_reducible repeat (first | refine blk_drewN ?_ _ | refine blk_drew ?_ | refine blk_alloc ?_ _)); exact BK407.out) hb); have n1_ := Aside0.mk (below_step (by repeat (first | (with_reducible first | exact HB.out | apply below_alloc | apply pw_below_drewN | apply below_drew1 | refine below_set ?_ GE407.out) | exact HB.out)) hb); have n2_ := Aside0.mk (hbox); have n3_ := Aside0.mk ((by rw [hg]; exact (below_size (by repeat (first | (with_reducible first | exact HB.out | apply below_alloc | apply pw_below_drewN | apply below_drew1 | refine below_set ?_ GE407.out) | exact HB.out))) : w.heap.size ≤ gb411)); have n4_ := Aside0.mk ((by rw [hg]; exact (below_size (by repeat (first | (with_reducible first | exact HB.out | apply below_alloc | apply pw_below_drewN | apply below_drew1 | refine below_set ?_ GE407.out) | exact HB.out))) : w.heap.size ≤ gb411)); have n5_ := Aside0.mk ((by rw [hg]; exact Nat.ne_of_lt (blk_lt (g := gb407) (o := .cells #[.int .i64 a0_0, .int .i64 a0_1, .string a0_2, .int .i64 a0_3, .slice A0_4 l0_4.length c0_4, .string a0_5, .string a0_6, .int .i64 a0_7, .slice A0_8 l0_8.length c0_8, .slice A0_9 l0_9.length c0_9, .slice A0_10 l0_10.length c0_10] 52 (0, 0)) (by (with_reducible repeat (first | refine blk_drewN ?_ _ | refine blk_drew ?_ | refine blk_alloc ?_ _)); exact BK407.out)) : gb407 ≠ gb411)); have n6_ := Aside0.mk ((by rw [hg]; exact Nat.ne_of_gt (blk_lt (g := gb407) (o := .cells #[.int .i64 a0_0, .int .i64 a0_1, .string a0_2, .int .i64 a0_3, .slice A0_4 l0_4.length c0_4, .string a0_5, .string a0_6, .int .i64 a0_7, .slice A0_8 l0_8.length c0_8, .slice A0_9 l0_9.length c0_9, .slice A0_10 l0_10.length c0_10] 52 (0, 0)) (by (with_reducible repeat (first | refine blk_drewN ?_ _ | refine blk_drew ?_ | refine blk_alloc ?_ _)); exact BK407.out)) : gb411 ≠ gb407)); clear BK407; clear HB; have BK407 := n0_; have HB := n1_; have BK411 := n2_; have GW411 := n3_; have GE411 := n4_; have NB407_411 := n5_; have NB411_407 := n6_; clear n0_ n1_ n2_ n3_ n4_ n5_ n6_; clear hb hbox hg; have hnb49 := NB411_407.out; have hnc49 := NB407_411.out; have hcz50_0 : w48.cell? ⟨gb411, 0, none⟩ = some (.int .i64 0) := (blk_cell BK411.out 0).trans rfl; have hcz50_1 : w48.cell? ⟨gb411, 1, none⟩ = some (.bool false) := (blk_cell BK411.out 1).trans rfl; have hfz50_0 := blk_frozen BK411.out 0; have hfz50_1 := blk_frozen BK411.out 1))
    go_ret2
    exact ⟨_, by first | rfl | (simp [errW_none, errW_some] <;> rfl) | (simp [*, errW_none, errW_some] <;> rfl), by first | exact Kd.R_nil _ _ _ _ _ | exact Kd.N_nil _ _ _ _ _ | exact Kd.V_nil _ _ _ _ _ | exact Kd.Q_nil _ _ _ _ _ | exact Kd.S_nil _ _ _ _ _, by repeat (first | (with_reducible first | exact HB.out | apply below_alloc | apply pw_below_drewN | apply below_drew1 | refine below_set ?_ GE407.out | refine below_set ?_ GE411.out) | exact HB.out)⟩

end Go.Proofs.Ytndbhfbgigefnaa.PA
