-- PRINTED by print.py (a twelfth state) out of the translation. Not trusted: Lean checks it.
import Derived.Test.YtndbhfbgigefnaaPAx0
import Derived.Test.YtndbhfbgigefnaaPAx17
import Derived.Test.YtndbhfbgigefnaaPAx47
namespace Go.Proofs.Ytndbhfbgigefnaa.PA
open Go.RowKit Go.Proofs.YtndbhfbgigefnaaW.PrintWords Go.Proofs.YtndbhfbgigefnaaW.PrintLast Go.Proofs.YtndbhfbgigefnaaW.PrintMore
attribute [local go_sem] max2_int min2_int max_two min_two max_three min_three max_four min_four   -- for this text's walks alone
set_option linter.unusedVariables false
set_option linter.unusedSimpArgs false

/-! ### dioramaref20_Numbers: function 32 -/
mutual
def dioramaref20_Numbers.l0 : Nat → Int → Int → Int → Int → ByteArray → Int → List Int → ByteArray → ByteArray → Int → List (S97) → List (S95) → List (S82) → Option (List Int × Int)
  | 0, _, _, _, _, _, _, _, _, _, _, _, _, _ => none
  | k + 1, x6, x9, x421000, x421001, x421002, x421003, x421004, x421005, x421006, x421007, x421008, x421009, x421010 => if x9 < (x421010.length : Int) then (if 0 ≤ x9 then (if (((rd_T82 x421010 x9).f5).length : Int) = 4 then (dioramaref20_Numbers.l0 k x6 (wrap64 (x9 + 1)) x421000 x421001 x421002 x421003 x421004 x421005 x421006 x421007 x421008 x421009 x421010) else (some (([] : List Int), 4))) else (none)) else (dioramaref20_Numbers.l1 k x6 ([] : List Int) 0 x421000 x421001 x421002 x421003 x421004 x421005 x421006 x421007 x421008 x421009 x421010)
def dioramaref20_Numbers.l1 : Nat → Int → List Int → Int → Int → Int → ByteArray → Int → List Int → ByteArray → ByteArray → Int → List (S97) → List (S95) → List (S82) → Option (List Int × Int)
  | 0, _, _, _, _, _, _, _, _, _, _, _, _, _, _ => none
  | k + 1, x6, x8, x11, x421000, x421001, x421002, x421003, x421004, x421005, x421006, x421007, x421008, x421009, x421010 => if x11 < (x421010.length : Int) then (if 0 ≤ x11 then (if 0 < (((rd_T82 x421010 x11).f5).length : Int) then (if 1 < (((rd_T82 x421010 x11).f5).length : Int) then (if 2 < (((rd_T82 x421010 x11).f5).length : Int) then (if 3 < (((rd_T82 x421010 x11).f5).length : Int) then (if (wrap64 ((wrap64 ((wrap64 ((wrap64 ((wrap64 (rd ((rd_T82 x421010 x11).f5) 0)) * 16777216)) + (wrap64 ((wrap64 (rd ((rd_T82 x421010 x11).f5) 1)) * 65536)))) + (wrap64 ((wrap64 (rd ((rd_T82 x421010 x11).f5) 2)) * 256)))) + (wrap64 (rd ((rd_T82 x421010 x11).f5) 3)))) ≥ x6 then (some (([] : List Int), 1)) else (if x8.length < 17592186044416 then (dioramaref20_Numbers.l1 k x6 (x8 ++ [wrap64 ((wrap64 ((wrap64 ((wrap64 ((wrap64 (rd ((rd_T82 x421010 x11).f5) 0)) * 16777216)) + (wrap64 ((wrap64 (rd ((rd_T82 x421010 x11).f5) 1)) * 65536)))) + (wrap64 ((wrap64 (rd ((rd_T82 x421010 x11).f5) 2)) * 256)))) + (wrap64 (rd ((rd_T82 x421010 x11).f5) 3)))]) (wrap64 (x11 + 1)) x421000 x421001 x421002 x421003 x421004 x421005 x421006 x421007 x421008 x421009 x421010) else (none))) else (none)) else (none)) else (none)) else (none)) else (none)) else (some (x8, 0))
end
def dioramaref20_Numbers.f (k : Nat) (a0_0 : Int) (a0_1 : Int) (a0_2 : ByteArray) (a0_3 : Int) (l0_4 : List Int) (a0_5 : ByteArray) (a0_6 : ByteArray) (a0_7 : Int) (l0_8 : List (S97)) (l0_9 : List (S95)) (l0_10 : List (S82)) : Option (List Int × Int) := (dioramaref20_Rate.f k a0_0 a0_1 a0_2 a0_3 l0_4 a0_5 a0_6 a0_7 l0_8 l0_9 l0_10).bind fun bt421 => (if bt421.2.2 = 0 then ((dioramaref20_Day.f k bt421.1 bt421.2.1).bind fun bt425 => (dioramaref20_Numbers.l0 k bt425.1 0 a0_0 a0_1 a0_2 a0_3 l0_4 a0_5 a0_6 a0_7 l0_8 l0_9 l0_10)) else (some (([] : List Int), bt421.2.2)))
theorem dioramaref20_Numbers.mono_l : ∀ k, (∀ y0 y1 y2 y3 y4 y5 y6 y7 y8 y9 y10 y11 y12, LeO (dioramaref20_Numbers.l0 k y0 y1 y2 y3 y4 y5 y6 y7 y8 y9 y10 y11 y12) (dioramaref20_Numbers.l0 (k + 1) y0 y1 y2 y3 y4 y5 y6 y7 y8 y9 y10 y11 y12)) ∧ (∀ y0 y1 y2 y3 y4 y5 y6 y7 y8 y9 y10 y11 y12 y13, LeO (dioramaref20_Numbers.l1 k y0 y1 y2 y3 y4 y5 y6 y7 y8 y9 y10 y11 y12 y13) (dioramaref20_Numbers.l1 (k + 1) y0 y1 y2 y3 y4 y5 y6 y7 y8 y9 y10 y11 y12 y13))
  | 0 => ⟨fun _ _ _ _ _ _ _ _ _ _ _ _ _ r h => by simp [dioramaref20_Numbers.l0] at h, fun _ _ _ _ _ _ _ _ _ _ _ _ _ _ r h => by simp [dioramaref20_Numbers.l1] at h⟩
  | k + 1 => by
    obtain ⟨ih0, ih1⟩ := dioramaref20_Numbers.mono_l k
    refine ⟨?_, ?_⟩
    · intro y0 y1 y2 y3 y4 y5 y6 y7 y8 y9 y10 y11 y12
      unfold dioramaref20_Numbers.l0
      repeat' first
      | (with_reducible exact ih0 _ _ _ _ _ _ _ _ _ _ _ _ _)
      | (with_reducible exact ih1 _ _ _ _ _ _ _ _ _ _ _ _ _ _)
      | (with_reducible exact dioramaref20_Day.mono _ _ _)
      | (with_reducible exact dioramaref20_Rate.mono _ _ _ _ _ _ _ _ _ _ _ _)
      | (with_reducible exact LeO.refl _)
      | (with_reducible exact LeO.none _)
      | (with_reducible refine LeO.ite ?_ ?_)
      | (with_reducible refine LeO.bind ?_ (fun _ => ?_))
      | exact ih0 _ _ _ _ _ _ _ _ _ _ _ _ _
      | exact ih1 _ _ _ _ _ _ _ _ _ _ _ _ _ _
      | exact dioramaref20_Day.mono _ _ _
      | exact dioramaref20_Rate.mono _ _ _ _ _ _ _ _ _ _ _ _
      | exact LeO.none _
      | refine LeO.ite ?_ ?_
      | refine LeO.bind ?_ (fun _ => ?_)
    · intro y0 y1 y2 y3 y4 y5 y6 y7 y8 y9 y10 y11 y12 y13
      unfold dioramaref20_Numbers.l1
      repeat' first
      | (with_reducible exact ih0 _ _ _ _ _ _ _ _ _ _ _ _ _)
      | (with_reducible exact ih1 _ _ _ _ _ _ _ _ _ _ _ _ _ _)
      | (with_reducible exact dioramaref20_Day.mono _ _ _)
      | (with_reducible exact dioramaref20_Rate.mono _ _ _ _ _ _ _ _ _ _ _ _)
      | (with_reducible exact LeO.refl _)
      | (with_reducible exact LeO.none _)
      | (with_reducible refine LeO.ite ?_ ?_)
      | (with_reducible refine LeO.bind ?_ (fun _ => ?_))
      | exact ih0 _ _ _ _ _ _ _ _ _ _ _ _ _
      | exact ih1 _ _ _ _ _ _ _ _ _ _ _ _ _ _
      | exact dioramaref20_Day.mono _ _ _
      | exact dioramaref20_Rate.mono _ _ _ _ _ _ _ _ _ _ _ _
      | exact LeO.none _
      | refine LeO.ite ?_ ?_
      | refine LeO.bind ?_ (fun _ => ?_)
theorem dioramaref20_Numbers.mono : ∀ a0 a1 a2 a3 a4 a5 a6 a7 a8 a9 a10 k, LeO (dioramaref20_Numbers.f k a0 a1 a2 a3 a4 a5 a6 a7 a8 a9 a10) (dioramaref20_Numbers.f (k + 1) a0 a1 a2 a3 a4 a5 a6 a7 a8 a9 a10) := by
  intro a0 a1 a2 a3 a4 a5 a6 a7 a8 a9 a10 k
  obtain ⟨ih0, ih1⟩ := dioramaref20_Numbers.mono_l k
  unfold dioramaref20_Numbers.f
  repeat' first
      | (with_reducible exact ih0 _ _ _ _ _ _ _ _ _ _ _ _ _)
      | (with_reducible exact ih1 _ _ _ _ _ _ _ _ _ _ _ _ _ _)
      | (with_reducible exact dioramaref20_Day.mono _ _ _)
      | (with_reducible exact dioramaref20_Rate.mono _ _ _ _ _ _ _ _ _ _ _ _)
      | (with_reducible exact LeO.refl _)
      | (with_reducible exact LeO.none _)
      | (with_reducible refine LeO.ite ?_ ?_)
      | (with_reducible refine LeO.bind ?_ (fun _ => ?_))
      | exact ih0 _ _ _ _ _ _ _ _ _ _ _ _ _
      | exact ih1 _ _ _ _ _ _ _ _ _ _ _ _ _ _
      | exact dioramaref20_Day.mono _ _ _
      | exact dioramaref20_Rate.mono _ _ _ _ _ _ _ _ _ _ _ _
      | exact LeO.none _
      | refine LeO.ite ?_ ?_
      | refine LeO.bind ?_ (fun _ => ?_)
set_option maxHeartbeats 8000000 in
set_option maxRecDepth 100000 in
theorem dioramaref20_Numbers.calls (k : Nat) (a0_0 : Int) (a0_1 : Int) (a0_2 : ByteArray) (a0_3 : Int) (A0_4 : Option Addr) (c0_4 : Nat) (l0_4 : List Int) (a0_5 : ByteArray) (a0_6 : ByteArray) (a0_7 : Int) (A0_8 : Option Addr) (c0_8 : Nat) (l0_8 : List (S97)) (A0_9 : Option Addr) (c0_9 : Nat) (l0_9 : List (S95)) (A0_10 : Option Addr) (c0_10 : Nat) (l0_10 : List (S82)) (r1 : List Int) (r2 : Int) (w : World) (hr0_4 : Kd.C (Kd.int .u8) w A0_4 l0_4.length l0_4) (hc0_4 : l0_4.length ≤ c0_4) (hr0_8 : Kd.C k97 w A0_8 l0_8.length l0_8) (hc0_8 : l0_8.length ≤ c0_8) (hr0_9 : Kd.C k95 w A0_9 l0_9.length l0_9) (hc0_9 : l0_9.length ≤ c0_9) (hr0_10 : Kd.C k82 w A0_10 l0_10.length l0_10) (hc0_10 : l0_10.length ≤ c0_10) (h : dioramaref20_Numbers.f k a0_0 a0_1 a0_2 a0_3 l0_4 a0_5 a0_6 a0_7 l0_8 l0_9 l0_10 = some (r1, r2)) :
    Calls Try.prog 32 #[.agg #[.int .i64 a0_0, .int .i64 a0_1, .string a0_2, .int .i64 a0_3, .slice A0_4 l0_4.length c0_4, .string a0_5, .string a0_6, .int .i64 a0_7, .slice A0_8 l0_8.length c0_8, .slice A0_9 l0_9.length c0_9, .slice A0_10 l0_10.length c0_10]] w fun e w' => ∃ v0_ : Value, e = .returned (.tuple #[v0_, .int .i64 r2]) ∧ Kd.R (Kd.int .i64) 3 w' w.heap.size (fun _ => True) v0_ r1 ∧ Below w.heap.size w w' := by
  have hu52 := Try.underlying52
  have hu23 := Try.underlying23
  have HR0_4 := Aside0.mk hr0_4
  have HC0_4 := Aside0.mk hc0_4
  clear hr0_4 hc0_4
  have HR0_8 := Aside0.mk hr0_8
  have HC0_8 := Aside0.mk hc0_8
  clear hr0_8 hc0_8
  have HR0_9 := Aside0.mk hr0_9
  have HC0_9 := Aside0.mk hc0_9
  clear hr0_9 hc0_9
  have HR0_10 := Aside0.mk hr0_10
  have HC0_10 := Aside0.mk hc0_10
  clear hr0_10 hc0_10
  have HB := Aside0.mk (Below.refl w.heap.size w)
  have H : ((dioramaref20_Rate.f k a0_0 a0_1 a0_2 a0_3 l0_4 a0_5 a0_6 a0_7 l0_8 l0_9 l0_10).bind fun bt421 => (if bt421.2.2 = 0 then ((dioramaref20_Day.f k bt421.1 bt421.2.1).bind fun bt425 => (dioramaref20_Numbers.l0 k bt425.1 0 a0_0 a0_1 a0_2 a0_3 l0_4 a0_5 a0_6 a0_7 l0_8 l0_9 l0_10)) else (some (([] : List Int), bt421.2.2)))) = some (r1, r2) := h
  clear h
  replace H := Option.bind_eq_some_iff.mp H
  obtain ⟨⟨t421, t422, t423⟩, A20, H⟩ := H
  replace H : (if t423 = 0 then ((dioramaref20_Day.f k t421 t422).bind fun bt425 => (dioramaref20_Numbers.l0 k bt425.1 0 a0_0 a0_1 a0_2 a0_3 l0_4 a0_5 a0_6 a0_7 l0_8 l0_9 l0_10)) else (some (([] : List Int), t423))) = some (r1, r2) := H
  have A2 := Aside0.mk A20
  clear A20
  by_cases c3 : t423 = 0
  · rw [if_pos c3] at H
    have c3b0 : (t423 == 0) = true := beq_iff_eq.mpr c3
    have c3b1 : (t423 != 0) = false := bne_eq_false_iff_eq.mpr c3
    clear c3
    replace H := Option.bind_eq_some_iff.mp H
    obtain ⟨⟨t425, t426⟩, A40, H⟩ := H
    replace H : (dioramaref20_Numbers.l0 k t425 0 a0_0 a0_1 a0_2 a0_3 l0_4 a0_5 a0_6 a0_7 l0_8 l0_9 l0_10) = some (r1, r2) := H
    have A4 := Aside0.mk A40
    clear A40
    have H' := Aside0.mk H
    clear H
    go_enter Try.func32, Try.ntmps32
    go_wp2_with (first | ((with_reducible refine gate_dst (N := 1) rfl ?_); refine box_event ?hg (N := 1) ?hd (cs := #[.int .i64 a0_0, .int .i64 a0_1, .string a0_2, .int .i64 a0_3, .slice A0_4 l0_4.length c0_4, .string a0_5, .string a0_6, .int .i64 a0_7, .slice A0_8 l0_8.length c0_8, .slice A0_9 l0_9.length c0_9, .slice A0_10 l0_10.length c0_10]) (t := 52) ?hr ?_; (case hd => rfl); (case hg => rfl); (case hr => first | (go_simp; done) | (go_simp; rfl)); intro gb420 hg w5 hbox hb; have n0_ := Aside0.mk (below_step (by repeat (first | (with_reducible first | exact HB.out | apply below_alloc | apply pw_below_drewN | apply below_drew1) | exact HB.out)) hb); have n1_ := Aside0.mk (hbox); have n2_ := Aside0.mk ((by rw [hg]; exact (below_size (by repeat (first | (with_reducible first | exact HB.out | apply below_alloc | apply pw_below_drewN | apply below_drew1) | exact HB.out))) : w.heap.size ≤ gb420)); have n3_ := Aside0.mk ((by rw [hg]; exact (below_size (by repeat (first | (with_reducible first | exact HB.out | apply below_alloc | apply pw_below_drewN | apply below_drew1) | exact HB.out))) : w.heap.size ≤ gb420)); clear HB; have HB := n0_; have BK420 := n1_; have GW420 := n2_; have GE420 := n3_; clear n0_ n1_ n2_ n3_; clear hb hbox hg; have hcz6_0 : w5.cell? ⟨gb420, 0, none⟩ = some (.int .i64 a0_0) := (blk_cell BK420.out 0).trans rfl; have hcz6_1 : w5.cell? ⟨gb420, 1, none⟩ = some (.int .i64 a0_1) := (blk_cell BK420.out 1).trans rfl; have hcz6_2 : w5.cell? ⟨gb420, 2, none⟩ = some (.string a0_2) := (blk_cell BK420.out 2).trans rfl; have hcz6_3 : w5.cell? ⟨gb420, 3, none⟩ = some (.int .i64 a0_3) := (blk_cell BK420.out 3).trans rfl; have hcz6_4 : w5.cell? ⟨gb420, 4, none⟩ = some (.slice A0_4 l0_4.length c0_4) := (blk_cell BK420.out 4).trans rfl; have hcz6_5 : w5.cell? ⟨gb420, 5, none⟩ = some (.string a0_5) := (blk_cell BK420.out 5).trans rfl; have hcz6_6 : w5.cell? ⟨gb420, 6, none⟩ = some (.string a0_6) := (blk_cell BK420.out 6).trans rfl; have hcz6_7 : w5.cell? ⟨gb420, 7, none⟩ = some (.int .i64 a0_7) := (blk_cell BK420.out 7).trans rfl; have hcz6_8 : w5.cell? ⟨gb420, 8, none⟩ = some (.slice A0_8 l0_8.length c0_8) := (blk_cell BK420.out 8).trans rfl; have hcz6_9 : w5.cell? ⟨gb420, 9, none⟩ = some (.slice A0_9 l0_9.length c0_9) := (blk_cell BK420.out 9).trans rfl; have hcz6_10 : w5.cell? ⟨gb420, 10, none⟩ = some (.slice A0_10 l0_10.length c0_10) := (blk_cell BK420.out 10).trans rfl; have hfz6_0 := blk_frozen BK420.out 0; have hfz6_1 := blk_frozen BK420.out 1; have hfz6_2 := blk_frozen BK420.out 2; have hfz6_3 := blk_frozen BK420.out 3; have hfz6_4 := blk_frozen BK420.out 4; have hfz6_5 := blk_frozen BK420.out 5; have hfz6_6 := blk_frozen BK420.out 6; have hfz6_7 := blk_frozen BK420.out 7; have hfz6_8 := blk_frozen BK420.out 8; have hfz6_9 := blk_frozen BK420.out 9; have hfz6_10 := blk_frozen BK420.out 10) | (go_at_call 30; (with_reducible refine (dioramaref20_Rate.calls k a0_0 a0_1 a0_2 a0_3 _ _ l0_4 a0_5 a0_6 a0_7 _ _ l0_8 _ _ l0_9 _ _ l0_10 t421 t422 t423 _ ?side1 ?side2 ?side3 ?side4 ?side5 ?side6 ?side7 ?side8 A2.out).mono ?_); (case side1 => repeat (first | exact (Kd.C_below HR0_4.out HB.out) | (with_reducible refine Kd.C_alloc ?_ _) | (with_reducible refine Kd.C_drewN ?_ _) | (with_reducible refine Kd.C_drew ?_))); (case side2 => exact HC0_4.out); (case side3 => repeat (first | exact (Kd.C_below HR0_8.out HB.out) | (with_reducible refine Kd.C_alloc ?_ _) | (with_reducible refine Kd.C_drewN ?_ _) | (with_reducible refine Kd.C_drew ?_))); (case side4 => exact HC0_8.out); (case side5 => repeat (first | exact (Kd.C_below HR0_9.out HB.out) | (with_reducible refine Kd.C_alloc ?_ _) | (with_reducible refine Kd.C_drewN ?_ _) | (with_reducible refine Kd.C_drew ?_))); (case side6 => exact HC0_9.out); (case side7 => repeat (first | exact (Kd.C_below HR0_10.out HB.out) | (with_reducible refine Kd.C_alloc ?_ _) | (with_reducible refine Kd.C_drewN ?_ _) | (with_reducible refine Kd.C_drew ?_))); (case side8 => exact HC0_10.out); rintro e w7 ⟨rfl, hb⟩; have n0_ := Aside0.mk (blk_below (g := gb420) (o := .cells #[.int .i64 a0_0, .int .i64 a0_1, .string a0_2, .int .i64 a0_3, .slice A0_4 l0_4.length c0_4, .string a0_5, .string a0_6, .int .i64 a0_7, .slice A0_8 l0_8.length c0_8, .slice A0_9 l0_9.length c0_9, .slice A0_10 l0_10.length c0_10] 52 (0, 0)) (by (with_reducible repeat (first | refine blk_drewN ?_ _ | refine blk_drew ?_ | refine blk_alloc ?_ _)); exact BK420.out) hb); have n1_ := Aside0.mk (below_step (by repeat (first | (with_reducible first | exact HB.out | apply below_alloc | apply pw_below_drewN | apply below_drew1 | refine below_set ?_ GE420.out) | exact HB.out)) hb); clear BK420; clear HB; have BK420 := n0_; have HB := n1_; clear n0_ n1_; (try clear hb); (try clear hb2); (try clear hk); (try clear hi)) | ((with_reducible refine gate_dst (N := 4) rfl ?_); refine box_event ?hg (N := 4) ?hd (cs := #[.int .i64 0, .bool false]) (t := 23) ?hr ?_; (case hd => rfl); (case hg => rfl); (case hr => first | (go_simp; done) | (go_simp; rfl)); intro gb424 hg w8 hbox hb; have n0_ := Aside0.mk (blk_below (g := gb420) (o := .cells #[.int .i64 a0_0, .int .i64 a0_1, .string a0_2, .int .i64 a0_3, .slice A0_4 l0_4.length c0_4, .string a0_5, .string a0_6, .int .i64 a0_7, .slice A0_8 l0_8.length c0_8, .slice A0_9 l0_9.length c0_9, .slice A0_10 l0_10.length c0_10] 52 (0, 0)) (by (with_reducible repeat (first | refine blk_drewN ?_ _ | refine blk_drew ?_ | refine blk_alloc ?_ _)); exact BK420.out) hb); have n1_ := Aside0.mk (below_step (by repeat (first | (with_reducible first | exact HB.out | apply below_alloc | apply pw_below_drewN | apply below_drew1 | refine below_set ?_ GE420.out) | exact HB.out)) hb); have n2_ := Aside0.mk (hbox); have n3_ := Aside0.mk ((by rw [hg]; exact (below_size (by repeat (first | (with_reducible first | exact HB.out | apply below_alloc | apply pw_below_drewN | apply below_drew1 | refine below_set ?_ GE420.out) | exact HB.out))) : w.heap.size ≤ gb424)); have n4_ := Aside0.mk ((by rw [hg]; exact (below_size (by repeat (first | (with_reducible first | exact HB.out | apply below_alloc | apply pw_below_drewN | apply below_drew1 | refine below_set ?_ GE420.out) | exact HB.out))) : w.heap.size ≤ gb424)); have n5_ := Aside0.mk ((by rw [hg]; exact Nat.ne_of_lt (blk_lt (g := gb420) (o := .cells #[.int .i64 a0_0, .int .i64 a0_1, .string a0_2, .int .i64 a0_3, .slice A0_4 l0_4.length c0_4, .string a0_5, .string a0_6, .int .i64 a0_7, .slice A0_8 l0_8.length c0_8, .slice A0_9 l0_9.length c0_9, .slice A0_10 l0_10.length c0_10] 52 (0, 0)) (by (with_reducible repeat (first | refine blk_drewN ?_ _ | refine blk_drew ?_ | refine blk_alloc ?_ _)); exact BK420.out)) : gb420 ≠ gb424)); have n6_ := Aside0.mk ((by rw [hg]; exact Nat.ne_of_gt (blk_lt (g := gb420) (o := .cells #[.int .i64 a0_0, .int .i64 a0_1, .string a0_2, .int .i64 a0_3, .slice A0_4 l0_4.length c0_4, .string a0_5, .string a0_6, .int .i64 a0_7, .slice A0_8 l0_8.length c0_8, .slice A0_9 l0_9.length c0_9, .slice A0_10 l0_10.length c0_10] 52 (0, 0)) (by (with_reducible repeat (first | refine blk_drewN ?_ _ | refine blk_drew ?_ | refine blk_alloc ?_ _)); exact BK420.out)) : gb424 ≠ gb420)); clear BK420; clear HB; have BK420 := n0_; have HB := n1_; have BK424 := n2_; have GW424 := n3_; have GE424 := n4_; have NB420_424 := n5_; have NB424_420 := n6_; clear n0_ n1_ n2_ n3_ n4_ n5_ n6_; clear hb hbox hg; have hnb9 := NB424_420.out; have hnc9 := NB420_424.out; have hcz10_0 : w8.cell? ⟨gb424, 0, none⟩ = some (.int .i64 0) := (blk_cell BK424.out 0).trans rfl; have hcz10_1 : w8.cell? ⟨gb424, 1, none⟩ = some (.bool false) := (blk_cell BK424.out 1).trans rfl; have hfz10_0 := blk_frozen BK424.out 0; have hfz10_1 := blk_frozen BK424.out 1) | (go_at_call 23; (with_reducible refine (dioramaref20_Day.calls k t421 t422 t425 t426 _ A4.out).mono ?_); rintro e w11 ⟨rfl, hb⟩; have n0_ := Aside0.mk (blk_below (g := gb420) (o := .cells #[.int .i64 a0_0, .int .i64 a0_1, .string a0_2, .int .i64 a0_3, .slice A0_4 l0_4.length c0_4, .string a0_5, .string a0_6, .int .i64 a0_7, .slice A0_8 l0_8.length c0_8, .slice A0_9 l0_9.length c0_9, .slice A0_10 l0_10.length c0_10] 52 (0, 0)) (by (with_reducible repeat (first | refine blk_drewN ?_ _ | refine blk_drew ?_ | refine blk_alloc ?_ _)); refine blk_far ?_ NB420_424.out _; (with_reducible repeat (first | refine blk_drewN ?_ _ | refine blk_drew ?_ | refine blk_alloc ?_ _)); refine blk_far ?_ NB420_424.out _; (with_reducible repeat (first | refine blk_drewN ?_ _ | refine blk_drew ?_ | refine blk_alloc ?_ _)); exact BK420.out) hb); have n1_ := Aside0.mk (blk_below (g := gb424) (o := .cells #[.int .i64 t421, .bool t422] 23 (0, 0)) (by (with_reducible repeat (first | refine blk_drewN ?_ _ | refine blk_drew ?_ | refine blk_alloc ?_ _)); refine blk_put (cs := #[.int .i64 t421, .bool false]) ?_ 1 _ rfl; (with_reducible repeat (first | refine blk_drewN ?_ _ | refine blk_drew ?_ | refine blk_alloc ?_ _)); refine blk_put (cs := #[.int .i64 0, .bool false]) ?_ 0 _ rfl; (with_reducible repeat (first | refine blk_drewN ?_ _ | refine blk_drew ?_ | refine blk_alloc ?_ _)); exact BK424.out) hb); have n2_ := Aside0.mk (below_step (by repeat (first | (with_reducible first | exact HB.out | apply below_alloc | apply pw_below_drewN | apply below_drew1 | refine below_set ?_ GE420.out | refine below_set ?_ GE424.out) | exact HB.out)) hb); clear BK420; clear BK424; clear HB; have BK420 := n0_; have BK424 := n1_; have HB := n2_; clear n0_ n1_ n2_; (try clear hb); (try clear hb2); (try clear hk); (try clear hi)))
    repeat (go_quiet (first | ((with_reducible refine gate_dst (N := 1) rfl ?_); refine box_event ?hg (N := 1) ?hd (cs := #[.int .i64 a0_0, .int .i64 a0_1, .string a0_2, .int .i64 a0_3, .slice A0_4 l0_4.length c0_4, .string a0_5, .string a0_6, .int .i64 a0_7, .slice A0_8 l0_8.length c0_8, .slice A0_9 l0_9.length c0_9, .slice A0_10 l0_10.length c0_10]) (t := 52) ?hr ?_; (case hd => rfl); (case hg => rfl); (case hr => first | (go_simp; done) | (go_simp; rfl)); intro gb420 hg w5 hbox hb; have n0_ := Aside0.mk (below_step (by repeat (first | (with_reducible first | exact HB.out | apply below_alloc | apply pw_below_drewN | apply below_drew1) | exact HB.out)) hb); have n1_ := Aside0.mk (hbox); have n2_ := Aside0.mk ((by rw [hg]; exact (below_size (by repeat (first | (with_reducible first | exact HB.out | apply below_alloc | apply pw_below_drewN | apply below_drew1) | exact HB.out))) : w.heap.size ≤ gb420)); have n3_ := Aside0.mk ((by rw [hg]; exact (below_size (by repeat (first | (with_reducible first | exact HB.out | apply below_alloc | apply pw_below_drewN | apply below_drew1) | exact HB.out))) : w.heap.size ≤ gb420)); clear HB; have HB := n0_; have BK420 := n1_; have GW420 := n2_; have GE420 := n3_; clear n0_ n1_ n2_ n3_; clear hb hbox hg; have hcz6_0 : w5.cell? ⟨gb420, 0, none⟩ = some (.int .i64 a0_0) := (blk_cell BK420.out 0).trans rfl; have hcz6_1 : w5.cell? ⟨gb420, 1, none⟩ = some (.int .i64 a0_1) := (blk_cell BK420.out 1).trans rfl; have hcz6_2 : w5.cell? ⟨gb420, 2, none⟩ = some (.string a0_2) := (blk_cell BK420.out 2).trans rfl; have hcz6_3 : w5.cell? ⟨gb420, 3, none⟩ = some (.int .i64 a0_3) := (blk_cell BK420.out 3).trans rfl; have hcz6_4 : w5.cell? ⟨gb420, 4, none⟩ = some (.slice A0_4 l0_4.length c0_4) := (blk_cell BK420.out 4).trans rfl; have hcz6_5 : w5.cell? ⟨gb420, 5, none⟩ = some (.string a0_5) := (blk_cell BK420.out 5).trans rfl; have hcz6_6 : w5.cell? ⟨gb420, 6, none⟩ = some (.string a0_6) := (blk_cell BK420.out 6).trans rfl; have hcz6_7 : w5.cell? ⟨gb420, 7, none⟩ = some (.int .i64 a0_7) := (blk_cell BK420.out 7).trans rfl; have hcz6_8 : w5.cell? ⟨gb420, 8, none⟩ = some (.slice A0_8 l0_8.length c0_8) := (blk_cell BK420.out 8).trans rfl; have hcz6_9 : w5.cell? ⟨gb420, 9, none⟩ = some (.slice A0_9 l0_9.length c0_9) := (blk_cell BK420.out 9).trans rfl; have hcz6_10 : w5.cell? ⟨gb420, 10, none⟩ = some (.slice A0_10 l0_10.length c0_10) := (blk_cell BK420.out 10).trans rfl; have hfz6_0 := blk_frozen BK420.out 0; have hfz6_1 := blk_frozen BK420.out 1; have hfz6_2 := blk_frozen BK420.out 2; have hfz6_3 := blk_frozen BK420.out 3; have hfz6_4 := blk_frozen BK420.out 4; have hfz6_5 := blk_frozen BK420.out 5; have hfz6_6 := blk_frozen BK420.out 6; have hfz6_7 := blk_frozen BK420.out 7; have hfz6_8 := blk_frozen BK420.out 8; have hfz6_9 := blk_frozen BK420.out 9; have hfz6_10 := blk_frozen BK420.out 10) | (go_at_call 30; (with_reducible refine (dioramaref20_Rate.calls k a0_0 a0_1 a0_2 a0_3 _ _ l0_4 a0_5 a0_6 a0_7 _ _ l0_8 _ _ l0_9 _ _ l0_10 t421 t422 t423 _ ?side1 ?side2 ?side3 ?side4 ?side5 ?side6 ?side7 ?side8 A2.out).mono ?_); (case side1 => repeat (first | exact (Kd.C_below HR0_4.out HB.out) | (with_reducible refine Kd.C_alloc ?_ _) | (with_reducible refine Kd.C_drewN ?_ _) | (with_reducible refine Kd.C_drew ?_))); (case side2 => exact HC0_4.out); (case side3 => repeat (first | exact (Kd.C_below HR0_8.out HB.out) | (with_reducible refine Kd.C_alloc ?_ _) | (with_reducible refine Kd.C_drewN ?_ _) | (with_reducible refine Kd.C_drew ?_))); (case side4 => exact HC0_8.out); (case side5 => repeat (first | exact (Kd.C_below HR0_9.out HB.out) | (with_reducible refine Kd.C_alloc ?_ _) | (with_reducible refine Kd.C_drewN ?_ _) | (with_reducible refine Kd.C_drew ?_))); (case side6 => exact HC0_9.out); (case side7 => repeat (first | exact (Kd.C_below HR0_10.out HB.out) | (with_reducible refine Kd.C_alloc ?_ _) | (with_reducible refine Kd.C_drewN ?_ _) | (with_reducible refine Kd.C_drew ?_))); (case side8 => exact HC0_10.out); rintro e w7 ⟨rfl, hb⟩; have n0_ := Aside0.mk (blk_below (g := gb420) (o := .cells #[.int .i64 a0_0, .int .i64 a0_1, .string a0_2, .int .i64 a0_3, .slice A0_4 l0_4.length c0_4, .string a0_5, .string a0_6, .int .i64 a0_7, .slice A0_8 l0_8.length c0_8, .slice A0_9 l0_9.length c0_9, .slice A0_10 l0_10.length c0_10] 52 (0, 0)) (by (with_reducible repeat (first | refine blk_drewN ?_ _ | refine blk_drew ?_ | refine blk_alloc ?_ _)); exact BK420.out) hb); have n1_ := Aside0.mk (below_step (by repeat (first | (with_reducible first | exact HB.out | apply below_alloc | apply pw_below_drewN | apply below_drew1 | refine below_set ?_ GE420.out) | exact HB.out)) hb); clear BK420; clear HB; have BK420 := n0_; have HB := n1_; clear n0_ n1_; (try clear hb); (try clear hb2); (try clear hk); (try clear hi)) | ((with_reducible refine gate_dst (N := 4) rfl ?_); refine box_event ?hg (N := 4) ?hd (cs := #[.int .i64 0, .bool false]) (t := 23) ?hr ?_; (case hd => rfl); (case hg => rfl); (case hr => first | (go_simp; done) | (go_simp; rfl)); intro gb424 hg w8 hbox hb; have n0_ := Aside0.mk (blk_below (g := gb420) (o := .cells #[.int .i64 a0_0, .int .i64 a0_1, .string a0_2, .int .i64 a0_3, .slice A0_4 l0_4.length c0_4, .string a0_5, .string a0_6, .int .i64 a0_7, .slice A0_8 l0_8.length c0_8, .slice A0_9 l0_9.length c0_9, .slice A0_10 l0_10.length c0_10] 52 (0, 0)) (by (with_reducible repeat (first | refine blk_drewN ?_ _ | refine blk_drew ?_ | refine blk_alloc ?_ _)); exact BK420.out) hb); have n1_ := Aside0.mk (below_step (by repeat (first | (with_reducible first | exact HB.out | apply below_alloc | apply pw_below_drewN | apply below_drew1 | refine below_set ?_ GE420.out) | exact HB.out)) hb); have n2_ := Aside0.mk (hbox); have n3_ := Aside0.mk ((by rw [hg]; exact (below_size (by repeat (first | (with_reducible first | exact HB.out | apply below_alloc | apply pw_below_drewN | apply below_drew1 | refine below_set ?_ GE420.out) | exact HB.out))) : w.heap.size ≤ gb424)); have n4_ := Aside0.mk ((by rw [hg]; exact (below_size (by repeat (first | (with_reducible first | exact HB.out | apply below_alloc | apply pw_below_drewN | apply below_drew1 | refine below_set ?_ GE420.out) | exact HB.out))) : w.heap.size ≤ gb424)); have n5_ := Aside0.mk ((by rw [hg]; exact Nat.ne_of_lt (blk_lt (g := gb420) (o := .cells #[.int .i64 a0_0, .int .i64 a0_1, .string a0_2, .int .i64 a0_3, .slice A0_4 l0_4.length c0_4, .string a0_5, .string a0_6, .int .i64 a0_7, .slice A0_8 l0_8.length c0_8, .slice A0_9 l0_9.length c0_9, .slice A0_10 l0_10.length c0_10] 52 (0, 0)) (by (with_reducible repeat (first | refine blk_drewN ?_ _ | refine blk_drew ?_ | refine blk_alloc ?_ _)); exact BK420.out)) : gb420 ≠ gb424)); have n6_ := Aside0.mk ((by rw [hg]; exact Nat.ne_of_gt (blk_lt (g := gb420) (o := .cells #[.int .i64 a0_0, .int .i64 a0_1, .string a0_2, .int .i64 a0_3, .slice A0_4 l0_4.length c0_4, .string a0_5, .string a0_6, .int .i64 a0_7, .slice A0_8 l0_8.length c0_8, .slice A0_9 l0_9.length c0_9, .slice A0_10 l0_10.length c0_10] 52 (0, 0)) (by (with_reducible repeat (first | refine blk_drewN ?_ _ | refine blk_drew ?_ | refine blk_alloc ?_ _)); exact BK420.out)) : gb424 ≠ gb420)); clear BK420; clear HB; have BK420 := n0_; have HB := n1_; have BK424 := n2_; have GW424 := n3_; have GE424 := n4_; have NB420_424 := n5_; have NB424_420 := n6_; clear n0_ n1_ n2_ n3_ n4_ n5_ n6_; clear hb hbox hg; have hnb9 := NB424_420.out; have hnc9 := NB420_424.out; have hcz10_0 : w8.cell? ⟨gb424, 0, none⟩ = some (.int .i64 0) := (blk_cell BK424.out 0).trans rfl; have hcz10_1 : w8.cell? ⟨gb424, 1, none⟩ = some (.bool false) := (blk_cell BK424.out 1).trans rfl; have hfz10_0 := blk_frozen BK424.out 0; have hfz10_1 := blk_frozen BK424.out 1) | (go_at_call 23; (with_reducible refine (dioramaref20_Day.calls k t421 t422 t425 t426 _ A4.out).mono ?_); rintro e w11 ⟨rfl, hb⟩; have n0_ := Aside0.mk (blk_below (g := gb420) (o := .cells #[.int .i64 a0_0, .int .i64 a0_1, .string a0_2, .int .i64 a0_3, .slice A0_4 l0_4.length c0_4, .string a0_5, .string a0_6, .int .i64 a0_7, .slice A0_8 l0_8.length c0_8, .slice A0_9 l0_9.length c0_9, .slice A0_10 l0_10.length c0_10] 52 (0, 0)) (by (with_reducible repeat (first | refine blk_drewN ?_ _ | refine blk_drew ?_ | refine blk_alloc ?_ _)); refine blk_far ?_ NB420_424.out _; (with_reducible repeat (first | refine blk_drewN ?_ _ | refine blk_drew ?_ | refine blk_alloc ?_ _)); refine blk_far ?_ NB420_424.out _; (with_reducible repeat (first | refine blk_drewN ?_ _ | refine blk_drew ?_ | refine blk_alloc ?_ _)); exact BK420.out) hb); have n1_ := Aside0.mk (blk_below (g := gb424) (o := .cells #[.int .i64 t421, .bool t422] 23 (0, 0)) (by (with_reducible repeat (first | refine blk_drewN ?_ _ | refine blk_drew ?_ | refine blk_alloc ?_ _)); refine blk_put (cs := #[.int .i64 t421, .bool false]) ?_ 1 _ rfl; (with_reducible repeat (first | refine blk_drewN ?_ _ | refine blk_drew ?_ | refine blk_alloc ?_ _)); refine blk_put (cs := #[.int .i64 0, .bool false]) ?_ 0 _ rfl; (with_reducible repeat (first | refine blk_drewN ?_ _ | refine blk_drew ?_ | refine blk_alloc ?_ _)); exact BK424.out) hb); have n2_ := Aside0.mk (below_step (by repeat (first | (with_reducible first | exact HB.out | apply below_alloc | apply pw_below_drewN | apply below_drew1 | refine below_set ?_ GE420.out | refine below_set ?_ GE424.out) | exact HB.out)) hb); clear BK420; clear BK424; clear HB; have BK420 := n0_; have BK424 := n1_; have HB := n2_; clear n0_ n1_ n2_; (try clear hb); (try clear hb2); (try clear hk); (try clear hi))); try go_wp2_with (first | ((with_reducible refine gate_dst (N := 1) rfl ?_); refine box_event ?hg (N := 1) ?hd (cs := #[.int .i64 a0_0, .int .i64 a0_1, .string a0_2, .int .i64 a0_3, .slice A0_4 l0_4.length c0_4, .string a0_5, .string a0_6, .int .i64 a0_7, .slice A0_8 l0_8.length c0_8, .slice A0_9 l0_9.length c0_9, .slice A0_10 l0_10.length c0_10]) (t := 52) ?hr ?_; (case hd => rfl); (case hg => rfl); (case hr => first | (go_simp; done) | (go_simp; rfl)); intro gb420 hg w5 hbox hb; have n0_ := Aside0.mk (below_step (by repeat (first | (with_reducible first | exact HB.out | apply below_alloc | apply pw_below_drewN | apply below_drew1) | exact HB.out)) hb); have n1_ := Aside0.mk (hbox); have n2_ := Aside0.mk ((by rw [hg]; exact (below_size (by repeat (first | (with_reducible first | exact HB.out | apply below_alloc | apply pw_below_drewN | apply below_drew1) | exact HB.out))) : w.heap.size ≤ gb420)); have n3_ := Aside0.mk ((by rw [hg]; exact (below_size (by repeat (first | (with_reducible first | exact HB.out | apply below_alloc | apply pw_below_drewN | apply below_drew1) | exact HB.out))) : w.heap.size ≤ gb420)); clear HB; have HB := n0_; have BK420 := n1_; have GW420 := n2_; have GE420 := n3_; clear n0_ n1_ n2_ n3_; clear hb hbox hg; have hcz6_0 : w5.cell? ⟨gb420, 0, none⟩ = some (.int .i64 a0_0) := (blk_cell BK420.out 0).trans rfl; have hcz6_1 : w5.cell? ⟨gb420, 1, none⟩ = some (.int .i64 a0_1) := (blk_cell BK420.out 1).trans rfl; have hcz6_2 : w5.cell? ⟨gb420, 2, none⟩ = some (.string a0_2) := (blk_cell BK420.out 2).trans rfl; have hcz6_3 : w5.cell? ⟨gb420, 3, none⟩ = some (.int .i64 a0_3) := (blk_cell BK420.out 3).trans rfl; have hcz6_4 : w5.cell? ⟨gb420, 4, none⟩ = some (.slice A0_4 l0_4.length c0_4) := (blk_cell BK420.out 4).trans rfl; have hcz6_5 : w5.cell? ⟨gb420, 5, none⟩ = some (.string a0_5) := (blk_cell BK420.out 5).trans rfl; have hcz6_6 : w5.cell? ⟨gb420, 6, none⟩ = some (.string a0_6) := (blk_cell BK420.out 6).trans rfl; have hcz6_7 : w5.cell? ⟨gb420, 7, none⟩ = some (.int .i64 a0_7) := (blk_cell BK420.out 7).trans rfl; have hcz6_8 : w5.cell? ⟨gb420, 8, none⟩ = some (.slice A0_8 l0_8.length c0_8) := (blk_cell BK420.out 8).trans rfl; have hcz6_9 : w5.cell? ⟨gb420, 9, none⟩ = some (.slice A0_9 l0_9.length c0_9) := (blk_cell BK420.out 9).trans rfl; have hcz6_10 : w5.cell? ⟨gb420, 10, none⟩ = some (.slice A0_10 l0_10.length c0_10) := (blk_cell BK420.out 10).trans rfl; have hfz6_0 := blk_frozen BK420.out 0; have hfz6_1 := blk_frozen BK420.out 1; have hfz6_2 := blk_frozen BK420.out 2; have hfz6_3 := blk_frozen BK420.out 3; have hfz6_4 := blk_frozen BK420.out 4; have hfz6_5 := blk_frozen BK420.out 5; have hfz6_6 := blk_frozen BK420.out 6; have hfz6_7 := blk_frozen BK420.out 7; have hfz6_8 := blk_frozen BK420.out 8; have hfz6_9 := blk_frozen BK420.out 9; have hfz6_10 := blk_frozen BK420.out 10) | (go_at_call 30; (with_reducible refine (dioramaref20_Rate.calls k a0_0 a0_1 a0_2 a0_3 _ _ l0_4 a0_5 a0_6 a0_7 _ _ l0_8 _ _ l0_9 _ _ l0_10 t421 t422 t423 _ ?side1 ?side2 ?side3 ?side4 ?side5 ?side6 ?side7 ?side8 A2.out).mono ?_); (case side1 => repeat (first | exact (Kd.C_below HR0_4.out HB.out) | (with_reducible refine Kd.C_alloc ?_ _) | (with_reducible refine Kd.C_drewN ?_ _) | (with_reducible refine Kd.C_drew ?_))); (case side2 => exact HC0_4.out); (case side3 => repeat (first | exact (Kd.C_below HR0_8.out HB.out) | (with_reducible refine Kd.C_alloc ?_ _) | (with_reducible refine Kd.C_drewN ?_ _) | (with_reducible refine Kd.C_drew ?_))); (case side4 => exact HC0_8.out); (case side5 => repeat (first | exact (Kd.C_below HR0_9.out HB.out) | (with_reducible refine Kd.C_alloc ?_ _) | (with_reducible refine Kd.C_drewN ?_ _) | (with_reducible refine Kd.C_drew ?_))); (case side6 => exact HC0_9.out); (case side7 => repeat (first | exact (Kd.C_below HR0_10.out HB.out) | (with_reducible refine Kd.C_alloc ?_ _) | (with_reducible refine Kd.C_drewN ?_ _) | (with_reducible refine Kd.C_drew ?_))); (case side8 => exact HC0_10.out); rintro e w7 ⟨rfl, hb⟩; have n0_ := Aside0.mk (blk_below (g := gb420) (o := .cells #[.int .i64 a0_0, .int .i64 a0_1, .string a0_2, .int .i64 a0_3, .slice A0_4 l0_4.length c0_4, .string a0_5, .string a0_6, .int .i64 a0_7, .slice A0_8 l0_8.length c0_8, .slice A0_9 l0_9.length c0_9, .slice A0_10 l0_10.length c0_10] 52 (0, 0)) (by (with_reducible repeat (first | refine blk_drewN ?_ _ | refine blk_drew ?_ | refine blk_alloc ?_ _)); exact BK420.out) hb); have n1_ := Aside0.mk (below_step (by repeat (first | (with_reducible first | exact HB.out | apply below_alloc | apply pw_below_drewN | apply below_drew1 | refine below_set ?_ GE420.out) | exact HB.out)) hb); clear BK420; clear HB; have BK420 := n0_; have HB := n1_; clear n0_ n1_; (try clear hb); (try clear hb2); (try clear hk); (try clear hi)) | ((with_reducible refine gate_dst (N := 4) rfl ?_); refine box_event ?hg (N := 4) ?hd (cs := #[.int .i64 0, .bool false]) (t := 23) ?hr ?_; (case hd => rfl); (case hg => rfl); (case hr => first | (go_simp; done) | (go_simp; rfl)); intro gb424 hg w8 hbox hb; have n0_ := Aside0.mk (blk_below (g := gb420) (o := .cells #[.int .i64 a0_0, .int .i64 a0_1, .string a0_2, .int .i64 a0_3, .slice A0_4 l0_4.length c0_4, .string a0_5, .string a0_6, .int .i64 a0_7, .slice A0_8 l0_8.length c0_8, .slice A0_9 l0_9.length c0_9, .slice A0_10 l0_10.length c0_10] 52 (0, 0)) (by (with_reducible repeat (first | refine blk_drewN ?_ _ | refine blk_drew ?_ | refine blk_alloc ?_ _)); exact BK420.out) hb); have n1_ := Aside0.mk (below_step (by repeat (first | (with_reducible first | exact HB.out | apply below_alloc | apply pw_below_drewN | apply below_drew1 | refine below_set ?_ GE420.out) | exact HB.out)) hb); have n2_ := Aside0.mk (hbox); have n3_ := Aside0.mk ((by rw [hg]; exact (below_size (by repeat (first | (with_reducible first | exact HB.out | apply below_alloc | apply pw_below_drewN | apply below_drew1 | refine below_set ?_ GE420.out) | exact HB.out))) : w.heap.size ≤ gb424)); have n4_ := Aside0.mk ((by rw [hg]; exact (below_size (by repeat (first | (with_reducible first | exact HB.out | apply below_alloc | apply pw_below_drewN | apply below_drew1 | refine below_set ?_ GE420.out) | exact HB.out))) : w.heap.size ≤ gb424)); have n5_ := Aside0.mk ((by rw [hg]; exact Nat.ne_of_lt (blk_lt (g := gb420) (o := .cells #[.int .i64 a0_0, .int .i64 a0_1, .string a0_2, .int .i64 a0_3, .slice A0_4 l0_4.length c0_4, .string a0_5, .string a0_6, .int .i64 a0_7, .slice A0_8 l0_8.length c0_8, .slice A0_9 l0_9.length c0_9, .slice A0_10 l0_10.length c0_10] 52 (0, 0)) (by (with_reducible repeat (first | refine blk_drewN ?_ _ | refine blk_drew ?_ | refine blk_alloc ?_ _)); exact BK420.out)) : gb420 ≠ gb424)); have n6_ := Aside0.mk ((by rw [hg]; exact Nat.ne_of_gt (blk_lt (g := gb420) (o := .cells #[.int .i64 a0_0, .int .i64 a0_1, .string a0_2, .int .i64 a0_3, .slice A0_4 l0_4.length c0_4, .string a0_5, .string a0_6, .int .i64 a0_7, .slice A0_8 l0_8.length c0_8, .slice A0_9 l0_9.length c0_9, .slice A0_10 l0_10.length c0_10] 52 (0, 0)) (by (with_reducible repeat (first | refine blk_drewN ?_ _ | refine blk_drew ?_ | refine blk_alloc ?_ _)); exact BK420.out)) : gb424 ≠ gb420)); clear BK420; clear HB; have BK420 := n0_; have HB := n1_; have BK424 := n2_; have GW424 := n3_; have GE424 := n4_; have NB420_424 := n5_; have NB424_420 := n6_; clear n0_ n1_ n2_ n3_ n4_ n5_ n6_; clear hb hbox hg; have hnb9 := NB424_420.out; have hnc9 := NB420_424.out; have hcz10_0 : w8.cell? ⟨gb424, 0, none⟩ = some (.int .i64 0) := (blk_cell BK424.out 0).trans rfl; have hcz10_1 : w8.cell? ⟨gb424, 1, none⟩ = some (.bool false) := (blk_cell BK424.out 1).trans rfl; have hfz10_0 := blk_frozen BK424.out 0; have hfz10_1 := blk_frozen BK424.out 1) | (go_at_call 23; (with_reducible refine (dioramaref20_Day.calls k t421 t422 t425 t426 _ A4.out).mono ?_); rintro e w11 ⟨rfl, hb⟩; have n0_ := Aside0.mk (blk_below (g := gb420) (o := .cells #[.int .i64 a0_0, .int .i64 a0_1, .string a0_2, .int .i64 a0_3, .slice A0_4 l0_4.length c0_4, .string a0_5, .string a0_6, .int .i64 a0_7, .slice A0_8 l0_8.length c0_8, .slice A0_9 l0_9.length c0_9, .slice A0_10 l0_10.length c0_10] 52 (0, 0)) (by (with_reducible repeat (first | refine blk_drewN ?_ _ | refine blk_drew ?_ | refine blk_alloc ?_ _)); refine blk_far ?_ NB420_424.out _; (with_reducible repeat (first | refine blk_drewN ?_ _ | refine blk_drew ?_ | refine blk_alloc ?_ _)); refine blk_far ?_ NB420_424.out _; (with_reducible repeat (first | refine blk_drewN ?_ _ | refine blk_drew ?_ | refine blk_alloc ?_ _)); exact BK420.out) hb); have n1_ := Aside0.mk (blk_below (g := gb424) (o := .cells #[.int .i64 t421, .bool t422] 23 (0, 0)) (by (with_reducible repeat (first | refine blk_drewN ?_ _ | refine blk_drew ?_ | refine blk_alloc ?_ _)); refine blk_put (cs := #[.int .i64 t421, .bool false]) ?_ 1 _ rfl; (with_reducible repeat (first | refine blk_drewN ?_ _ | refine blk_drew ?_ | refine blk_alloc ?_ _)); refine blk_put (cs := #[.int .i64 0, .bool false]) ?_ 0 _ rfl; (with_reducible repeat (first | refine blk_drewN ?_ _ | refine blk_drew ?_ | refine blk_alloc ?_ _)); exact BK424.out) hb); have n2_ := Aside0.mk (below_step (by repeat (first | (with_reducible first | exact HB.out | apply below_alloc | apply pw_below_drewN | apply below_drew1 | refine below_set ?_ GE420.out | refine below_set ?_ GE424.out) | exact HB.out)) hb); clear BK420; clear BK424; clear HB; have BK420 := n0_; have BK424 := n1_; have HB := n2_; clear n0_ n1_ n2_; (try clear hb); (try clear hb2); (try clear hk); (try clear hi))))
    go_loopg [9] k (fun kq v9 w' => ∃ (x9_1 : Int), v9 = .int .i64 x9_1 ∧ Aside0 (dioramaref20_Numbers.l0 kq t425 x9_1 a0_0 a0_1 a0_2 a0_3 l0_4 a0_5 a0_6 a0_7 l0_8 l0_9 l0_10 = some (r1, r2)) ∧ Aside0 (kq ≤ k) ∧ Aside0 (w'.heap[gb420]? = some (.cells #[.int .i64 a0_0, .int .i64 a0_1, .string a0_2, .int .i64 a0_3, (.slice A0_4 l0_4.length c0_4), .string a0_5, .string a0_6, .int .i64 a0_7, (.slice A0_8 l0_8.length c0_8), (.slice A0_9 l0_9.length c0_9), (.slice A0_10 l0_10.length c0_10)] 52 (0, 0))) ∧ Aside0 (w'.heap[gb424]? = some (.cells #[.int .i64 t421, .bool t422] 23 (0, 0))) ∧ Aside0 (Below w.heap.size w w'))
    case atStart => exact ⟨(0), (by first | rfl | (simp; done) | (simp [*]; done)), H', ⟨Nat.le_refl _⟩, ⟨by (with_reducible repeat (first | refine blk_drewN ?_ _ | refine blk_drew ?_ | refine blk_alloc ?_ _)); exact BK420.out⟩, ⟨by (with_reducible repeat (first | refine blk_drewN ?_ _ | refine blk_drew ?_ | refine blk_alloc ?_ _)); exact BK424.out⟩, ⟨by repeat (first | (with_reducible first | exact HB.out | apply below_alloc | apply pw_below_drewN | apply below_drew1 | refine below_set ?_ GE420.out | refine below_set ?_ GE424.out) | exact HB.out)⟩⟩
    case round =>
      clear H'
      try clear p2
      try clear c3
      try clear c3b0
      try clear c3b1
      try clear c9
      try clear hcz10_0
      try clear hcz10_1
      try clear hcz6_0
      try clear hcz6_1
      try clear hcz6_10
      try clear hcz6_2
      try clear hcz6_3
      try clear hcz6_4
      try clear hcz6_5
      try clear hcz6_6
      try clear hcz6_7
      try clear hcz6_8
      try clear hcz6_9
      try clear hfz10_0
      try clear hfz10_1
      try clear hfz6_0
      try clear hfz6_1
      try clear hfz6_10
      try clear hfz6_2
      try clear hfz6_3
      try clear hfz6_4
      try clear hfz6_5
      try clear hfz6_6
      try clear hfz6_7
      try clear hfz6_8
      try clear hfz6_9
      obtain ⟨x9_1, rfl, HA, HK1, BK420, BK424, HB⟩ := hrel
      cases gk with
      | zero => exact absurd HA.out (by simp [dioramaref20_Numbers.l0])
      | succ k1 =>
        have H := HA.out
        clear HA
        simp only [dioramaref20_Numbers.l0] at H
        by_cases c12 : x9_1 < (l0_10.length : Int)
        · rw [if_pos c12] at H
          have c12b0 : decide (x9_1 < (l0_10.length : Int)) = true := decide_eq_true c12
          clear c12
          by_cases c13 : 0 ≤ x9_1
          · rw [if_pos c13] at H
            have c13b0 : decide (0 ≤ x9_1) = true := decide_eq_true c13
            clear c13
            by_cases c14 : (((rd_T82 l0_10 x9_1).f5).length : Int) = 4
            · rw [if_pos c14] at H
              have c14b0 : ((((rd_T82 l0_10 x9_1).f5).length : Int) == 4) = true := beq_iff_eq.mpr c14
              have c14b1 : ((((rd_T82 l0_10 x9_1).f5).length : Int) != 4) = false := bne_eq_false_iff_eq.mpr c14
              clear c14
              have H' := Aside0.mk H
              clear H
              have hnb15 := NB420_424.out
              have hnc15 := NB424_420.out
              have hcz16_0 : wr.cell? ⟨gb420, 0, none⟩ = some (.int .i64 a0_0) := (blk_cell BK420.out 0).trans rfl
              have hcz16_1 : wr.cell? ⟨gb420, 1, none⟩ = some (.int .i64 a0_1) := (blk_cell BK420.out 1).trans rfl
              have hcz16_2 : wr.cell? ⟨gb420, 2, none⟩ = some (.string a0_2) := (blk_cell BK420.out 2).trans rfl
              have hcz16_3 : wr.cell? ⟨gb420, 3, none⟩ = some (.int .i64 a0_3) := (blk_cell BK420.out 3).trans rfl
              have hcz16_4 : wr.cell? ⟨gb420, 4, none⟩ = some (.slice A0_4 l0_4.length c0_4) := (blk_cell BK420.out 4).trans rfl
              have hcz16_5 : wr.cell? ⟨gb420, 5, none⟩ = some (.string a0_5) := (blk_cell BK420.out 5).trans rfl
              have hcz16_6 : wr.cell? ⟨gb420, 6, none⟩ = some (.string a0_6) := (blk_cell BK420.out 6).trans rfl
              have hcz16_7 : wr.cell? ⟨gb420, 7, none⟩ = some (.int .i64 a0_7) := (blk_cell BK420.out 7).trans rfl
              have hcz16_8 : wr.cell? ⟨gb420, 8, none⟩ = some (.slice A0_8 l0_8.length c0_8) := (blk_cell BK420.out 8).trans rfl
              have hcz16_9 : wr.cell? ⟨gb420, 9, none⟩ = some (.slice A0_9 l0_9.length c0_9) := (blk_cell BK420.out 9).trans rfl
              have hcz16_10 : wr.cell? ⟨gb420, 10, none⟩ = some (.slice A0_10 l0_10.length c0_10) := (blk_cell BK420.out 10).trans rfl
              have hfz16_0 := blk_frozen BK420.out 0
              have hfz16_1 := blk_frozen BK420.out 1
              have hfz16_2 := blk_frozen BK420.out 2
              have hfz16_3 := blk_frozen BK420.out 3
              have hfz16_4 := blk_frozen BK420.out 4
              have hfz16_5 := blk_frozen BK420.out 5
              have hfz16_6 := blk_frozen BK420.out 6
              have hfz16_7 := blk_frozen BK420.out 7
              have hfz16_8 := blk_frozen BK420.out 8
              have hfz16_9 := blk_frozen BK420.out 9
              have hfz16_10 := blk_frozen BK420.out 10
              have p427 : 0 ≤ (x9_1 : Int) := of_decide_eq_true (by first | (with_reducible assumption) | assumption)
              have q427 : x9_1 < (l0_10.length : Int) := of_decide_eq_true (by first | (with_reducible assumption) | assumption)
              obtain ⟨ad427, A427_4, c427_4, A427_5, c427_5, e427, hx427_0, hx427_1, hx427_2, hx427_3, hx427_4, hx427_5, hl427_4, hi427_4, hl427_5, hi427_5⟩ := at_T82 HR0_10.out x9_1 p427 q427
              cases e427
              replace hx427_0 := (HB.out.cell (World.block_lt_of_cell? w _ hx427_0)).trans hx427_0
              replace hx427_1 := (HB.out.cell (World.block_lt_of_cell? w _ hx427_1)).trans hx427_1
              replace hx427_2 := (HB.out.cell (World.block_lt_of_cell? w _ hx427_2)).trans hx427_2
              replace hx427_3 := (HB.out.cell (World.block_lt_of_cell? w _ hx427_3)).trans hx427_3
              replace hx427_4 := (HB.out.cell (World.block_lt_of_cell? w _ hx427_4)).trans hx427_4
              replace hx427_5 := (HB.out.cell (World.block_lt_of_cell? w _ hx427_5)).trans hx427_5
              have HR427_4 := Aside0.mk hi427_4
              have HC427_4 := Aside0.mk hl427_4
              clear hi427_4 hl427_4
              have HR427_5 := Aside0.mk hi427_5
              have HC427_5 := Aside0.mk hl427_5
              clear hi427_5 hl427_5
              replace p427 := eq_true p427
              replace q427 := eq_true q427
              go_wp2
              repeat (go_quiet (fail); try go_wp2)
              go_roundg k1
              case measure => have := HK1.out; omega
              case rel => exact ⟨(wrap64 (x9_1 + 1)), (by first | rfl | (simp; done) | (simp [*]; done)), H', ⟨by have := HK1.out; omega⟩, ⟨by (with_reducible repeat (first | refine blk_drewN ?_ _ | refine blk_drew ?_ | refine blk_alloc ?_ _)); exact BK420.out⟩, ⟨by (with_reducible repeat (first | refine blk_drewN ?_ _ | refine blk_drew ?_ | refine blk_alloc ?_ _)); exact BK424.out⟩, ⟨by repeat (first | (with_reducible first | exact HB.out | apply below_alloc | apply pw_below_drewN | apply below_drew1 | refine below_set ?_ GE420.out | refine below_set ?_ GE424.out) | exact HB.out)⟩⟩
            · rw [if_neg c14] at H
              have c14b0 : ((((rd_T82 l0_10 x9_1).f5).length : Int) == 4) = false := beq_eq_false_iff_ne.mpr c14
              have c14b1 : ((((rd_T82 l0_10 x9_1).f5).length : Int) != 4) = true := bne_iff_ne.mpr c14
              simp only [Option.some.injEq, Prod.mk.injEq] at H
              obtain ⟨rfl, rfl⟩ := H
              have hnb17 := NB420_424.out
              have hnc17 := NB424_420.out
              have hcz18_0 : wr.cell? ⟨gb420, 0, none⟩ = some (.int .i64 a0_0) := (blk_cell BK420.out 0).trans rfl
              have hcz18_1 : wr.cell? ⟨gb420, 1, none⟩ = some (.int .i64 a0_1) := (blk_cell BK420.out 1).trans rfl
              have hcz18_2 : wr.cell? ⟨gb420, 2, none⟩ = some (.string a0_2) := (blk_cell BK420.out 2).trans rfl
              have hcz18_3 : wr.cell? ⟨gb420, 3, none⟩ = some (.int .i64 a0_3) := (blk_cell BK420.out 3).trans rfl
              have hcz18_4 : wr.cell? ⟨gb420, 4, none⟩ = some (.slice A0_4 l0_4.length c0_4) := (blk_cell BK420.out 4).trans rfl
              have hcz18_5 : wr.cell? ⟨gb420, 5, none⟩ = some (.string a0_5) := (blk_cell BK420.out 5).trans rfl
              have hcz18_6 : wr.cell? ⟨gb420, 6, none⟩ = some (.string a0_6) := (blk_cell BK420.out 6).trans rfl
              have hcz18_7 : wr.cell? ⟨gb420, 7, none⟩ = some (.int .i64 a0_7) := (blk_cell BK420.out 7).trans rfl
              have hcz18_8 : wr.cell? ⟨gb420, 8, none⟩ = some (.slice A0_8 l0_8.length c0_8) := (blk_cell BK420.out 8).trans rfl
              have hcz18_9 : wr.cell? ⟨gb420, 9, none⟩ = some (.slice A0_9 l0_9.length c0_9) := (blk_cell BK420.out 9).trans rfl
              have hcz18_10 : wr.cell? ⟨gb420, 10, none⟩ = some (.slice A0_10 l0_10.length c0_10) := (blk_cell BK420.out 10).trans rfl
              have hfz18_0 := blk_frozen BK420.out 0
              have hfz18_1 := blk_frozen BK420.out 1
              have hfz18_2 := blk_frozen BK420.out 2
              have hfz18_3 := blk_frozen BK420.out 3
              have hfz18_4 := blk_frozen BK420.out 4
              have hfz18_5 := blk_frozen BK420.out 5
              have hfz18_6 := blk_frozen BK420.out 6
              have hfz18_7 := blk_frozen BK420.out 7
              have hfz18_8 := blk_frozen BK420.out 8
              have hfz18_9 := blk_frozen BK420.out 9
              have hfz18_10 := blk_frozen BK420.out 10
              have p427 : 0 ≤ (x9_1 : Int) := of_decide_eq_true (by first | (with_reducible assumption) | assumption)
              have q427 : x9_1 < (l0_10.length : Int) := of_decide_eq_true (by first | (with_reducible assumption) | assumption)
              obtain ⟨ad427, A427_4, c427_4, A427_5, c427_5, e427, hx427_0, hx427_1, hx427_2, hx427_3, hx427_4, hx427_5, hl427_4, hi427_4, hl427_5, hi427_5⟩ := at_T82 HR0_10.out x9_1 p427 q427
              cases e427
              replace hx427_0 := (HB.out.cell (World.block_lt_of_cell? w _ hx427_0)).trans hx427_0
              replace hx427_1 := (HB.out.cell (World.block_lt_of_cell? w _ hx427_1)).trans hx427_1
              replace hx427_2 := (HB.out.cell (World.block_lt_of_cell? w _ hx427_2)).trans hx427_2
              replace hx427_3 := (HB.out.cell (World.block_lt_of_cell? w _ hx427_3)).trans hx427_3
              replace hx427_4 := (HB.out.cell (World.block_lt_of_cell? w _ hx427_4)).trans hx427_4
              replace hx427_5 := (HB.out.cell (World.block_lt_of_cell? w _ hx427_5)).trans hx427_5
              have HR427_4 := Aside0.mk hi427_4
              have HC427_4 := Aside0.mk hl427_4
              clear hi427_4 hl427_4
              have HR427_5 := Aside0.mk hi427_5
              have HC427_5 := Aside0.mk hl427_5
              clear hi427_5 hl427_5
              replace p427 := eq_true p427
              replace q427 := eq_true q427
              go_wp2
              repeat (go_quiet (fail); try go_wp2)
              go_ret2
              exact ⟨_, by first | rfl | (simp [errW_none, errW_some] <;> rfl) | (simp [*, errW_none, errW_some] <;> rfl), by first | exact Kd.R_nil _ _ _ _ _ | exact Kd.N_nil _ _ _ _ _ | exact Kd.V_nil _ _ _ _ _ | exact Kd.Q_nil _ _ _ _ _ | exact Kd.S_nil _ _ _ _ _, by repeat (first | (with_reducible first | exact HB.out | apply below_alloc | apply pw_below_drewN | apply below_drew1 | refine below_set ?_ GE420.out | refine below_set ?_ GE424.out) | exact HB.out)⟩
          · rw [if_neg c13] at H
            exact absurd H (by simp)
        · rw [if_neg c12] at H
          have c12b0 : decide (x9_1 < (l0_10.length : Int)) = false := decide_eq_false c12
          clear c12
          have H' := Aside0.mk H
          clear H
          have hnb19 := NB420_424.out
          have hnc19 := NB424_420.out
          have hcz20_0 : wr.cell? ⟨gb420, 0, none⟩ = some (.int .i64 a0_0) := (blk_cell BK420.out 0).trans rfl
          have hcz20_1 : wr.cell? ⟨gb420, 1, none⟩ = some (.int .i64 a0_1) := (blk_cell BK420.out 1).trans rfl
          have hcz20_2 : wr.cell? ⟨gb420, 2, none⟩ = some (.string a0_2) := (blk_cell BK420.out 2).trans rfl
          have hcz20_3 : wr.cell? ⟨gb420, 3, none⟩ = some (.int .i64 a0_3) := (blk_cell BK420.out 3).trans rfl
          have hcz20_4 : wr.cell? ⟨gb420, 4, none⟩ = some (.slice A0_4 l0_4.length c0_4) := (blk_cell BK420.out 4).trans rfl
          have hcz20_5 : wr.cell? ⟨gb420, 5, none⟩ = some (.string a0_5) := (blk_cell BK420.out 5).trans rfl
          have hcz20_6 : wr.cell? ⟨gb420, 6, none⟩ = some (.string a0_6) := (blk_cell BK420.out 6).trans rfl
          have hcz20_7 : wr.cell? ⟨gb420, 7, none⟩ = some (.int .i64 a0_7) := (blk_cell BK420.out 7).trans rfl
          have hcz20_8 : wr.cell? ⟨gb420, 8, none⟩ = some (.slice A0_8 l0_8.length c0_8) := (blk_cell BK420.out 8).trans rfl
          have hcz20_9 : wr.cell? ⟨gb420, 9, none⟩ = some (.slice A0_9 l0_9.length c0_9) := (blk_cell BK420.out 9).trans rfl
          have hcz20_10 : wr.cell? ⟨gb420, 10, none⟩ = some (.slice A0_10 l0_10.length c0_10) := (blk_cell BK420.out 10).trans rfl
          have hfz20_0 := blk_frozen BK420.out 0
          have hfz20_1 := blk_frozen BK420.out 1
          have hfz20_2 := blk_frozen BK420.out 2
          have hfz20_3 := blk_frozen BK420.out 3
          have hfz20_4 := blk_frozen BK420.out 4
          have hfz20_5 := blk_frozen BK420.out 5
          have hfz20_6 := blk_frozen BK420.out 6
          have hfz20_7 := blk_frozen BK420.out 7
          have hfz20_8 := blk_frozen BK420.out 8
          have hfz20_9 := blk_frozen BK420.out 9
          have hfz20_10 := blk_frozen BK420.out 10
          go_wp2
          repeat (go_quiet (fail); try go_wp2)
          go_loopg [8, 11] k1 (fun kq v8 v11 w' => ∃ (x8_2 : List Int) (x11_2 : Int), v11 = .int .i64 x11_2 ∧ Aside0 (dioramaref20_Numbers.l1 kq t425 x8_2 x11_2 a0_0 a0_1 a0_2 a0_3 l0_4 a0_5 a0_6 a0_7 l0_8 l0_9 l0_10 = some (r1, r2)) ∧ Aside0 (kq ≤ k1) ∧ Aside0 (Kd.R (Kd.int .i64) 3 w' w.heap.size (fun _ => True) v8 x8_2) ∧ Aside0 (w'.heap[gb420]? = some (.cells #[.int .i64 a0_0, .int .i64 a0_1, .string a0_2, .int .i64 a0_3, (.slice A0_4 l0_4.length c0_4), .string a0_5, .string a0_6, .int .i64 a0_7, (.slice A0_8 l0_8.length c0_8), (.slice A0_9 l0_9.length c0_9), (.slice A0_10 l0_10.length c0_10)] 52 (0, 0))) ∧ Aside0 (w'.heap[gb424]? = some (.cells #[.int .i64 t421, .bool t422] 23 (0, 0))) ∧ Aside0 (Below w.heap.size w w'))
          case atStart => exact ⟨(([] : List Int)), (0), (by first | rfl | (simp; done) | (simp [*]; done)), H', ⟨Nat.le_refl _⟩, ⟨by first | exact Kd.R_nil _ _ _ _ _ | exact Kd.N_nil _ _ _ _ _ | exact Kd.V_nil _ _ _ _ _ | exact Kd.Q_nil _ _ _ _ _ | exact Kd.S_nil _ _ _ _ _⟩, ⟨by (with_reducible repeat (first | refine blk_drewN ?_ _ | refine blk_drew ?_ | refine blk_alloc ?_ _)); exact BK420.out⟩, ⟨by (with_reducible repeat (first | refine blk_drewN ?_ _ | refine blk_drew ?_ | refine blk_alloc ?_ _)); exact BK424.out⟩, ⟨by repeat (first | (with_reducible first | exact HB.out | apply below_alloc | apply pw_below_drewN | apply below_drew1 | refine below_set ?_ GE420.out | refine below_set ?_ GE424.out) | exact HB.out)⟩⟩
          case round =>
            clear H'
            try clear c1
            try clear p2
            try clear c3
            try clear c3b0
            try clear c3b1
            try clear c4
            try clear p4
            try clear q4
            try clear hx4
            try clear p6
            try clear c9
            try clear c12
            try clear c12b0
            try clear c13
            try clear c13b0
            try clear c14
            try clear c14b0
            try clear c14b1
            try clear c15
            try clear c17
            try clear c19
            try clear hcz10_0
            try clear hcz10_1
            try clear hcz16_0
            try clear hcz16_1
            try clear hcz16_10
            try clear hcz16_2
            try clear hcz16_3
            try clear hcz16_4
            try clear hcz16_5
            try clear hcz16_6
            try clear hcz16_7
            try clear hcz16_8
            try clear hcz16_9
            try clear hcz18_0
            try clear hcz18_1
            try clear hcz18_10
            try clear hcz18_2
            try clear hcz18_3
            try clear hcz18_4
            try clear hcz18_5
            try clear hcz18_6
            try clear hcz18_7
            try clear hcz18_8
            try clear hcz18_9
            try clear hcz20_0
            try clear hcz20_1
            try clear hcz20_10
            try clear hcz20_2
            try clear hcz20_3
            try clear hcz20_4
            try clear hcz20_5
            try clear hcz20_6
            try clear hcz20_7
            try clear hcz20_8
            try clear hcz20_9
            try clear hcz6_0
            try clear hcz6_1
            try clear hcz6_10
            try clear hcz6_2
            try clear hcz6_3
            try clear hcz6_4
            try clear hcz6_5
            try clear hcz6_6
            try clear hcz6_7
            try clear hcz6_8
            try clear hcz6_9
            try clear hfz10_0
            try clear hfz10_1
            try clear hfz16_0
            try clear hfz16_1
            try clear hfz16_10
            try clear hfz16_2
            try clear hfz16_3
            try clear hfz16_4
            try clear hfz16_5
            try clear hfz16_6
            try clear hfz16_7
            try clear hfz16_8
            try clear hfz16_9
            try clear hfz18_0
            try clear hfz18_1
            try clear hfz18_10
            try clear hfz18_2
            try clear hfz18_3
            try clear hfz18_4
            try clear hfz18_5
            try clear hfz18_6
            try clear hfz18_7
            try clear hfz18_8
            try clear hfz18_9
            try clear hfz20_0
            try clear hfz20_1
            try clear hfz20_10
            try clear hfz20_2
            try clear hfz20_3
            try clear hfz20_4
            try clear hfz20_5
            try clear hfz20_6
            try clear hfz20_7
            try clear hfz20_8
            try clear hfz20_9
            try clear hfz6_0
            try clear hfz6_1
            try clear hfz6_10
            try clear hfz6_2
            try clear hfz6_3
            try clear hfz6_4
            try clear hfz6_5
            try clear hfz6_6
            try clear hfz6_7
            try clear hfz6_8
            try clear hfz6_9
            try clear hx427_0
            try clear hx427_1
            try clear hx427_2
            try clear hx427_3
            try clear hx427_4
            try clear hx427_5
            try clear p2
            try clear p427
            try clear q427
            obtain ⟨x8_2, x11_2, rfl, HA, HK2, HO_8, BK420, BK424, HB⟩ := hrel
            cases gk with
            | zero => exact absurd HA.out (by simp [dioramaref20_Numbers.l1])
            | succ k2 =>
              have H := HA.out
              clear HA
              simp only [dioramaref20_Numbers.l1] at H
              by_cases c21 : x11_2 < (l0_10.length : Int)
              · rw [if_pos c21] at H
                have c21b0 : decide (x11_2 < (l0_10.length : Int)) = true := decide_eq_true c21
                clear c21
                by_cases c22 : 0 ≤ x11_2
                · rw [if_pos c22] at H
                  have c22b0 : decide (0 ≤ x11_2) = true := decide_eq_true c22
                  clear c22
                  by_cases c23 : 0 < (((rd_T82 l0_10 x11_2).f5).length : Int)
                  · rw [if_pos c23] at H
                    have c23b0 : decide (0 < (((rd_T82 l0_10 x11_2).f5).length : Int)) = true := decide_eq_true c23
                    have c23b1 : decide (0 < ((rd_T82 l0_10 x11_2).f5).length) = true := decide_eq_true (by omega)
                    clear c23
                    by_cases c24 : 1 < (((rd_T82 l0_10 x11_2).f5).length : Int)
                    · rw [if_pos c24] at H
                      have c24b0 : decide (1 < (((rd_T82 l0_10 x11_2).f5).length : Int)) = true := decide_eq_true c24
                      have c24b1 : decide (1 < ((rd_T82 l0_10 x11_2).f5).length) = true := decide_eq_true (by omega)
                      clear c24
                      by_cases c25 : 2 < (((rd_T82 l0_10 x11_2).f5).length : Int)
                      · rw [if_pos c25] at H
                        have c25b0 : decide (2 < (((rd_T82 l0_10 x11_2).f5).length : Int)) = true := decide_eq_true c25
                        have c25b1 : decide (2 < ((rd_T82 l0_10 x11_2).f5).length) = true := decide_eq_true (by omega)
                        clear c25
                        by_cases c26 : 3 < (((rd_T82 l0_10 x11_2).f5).length : Int)
                        · rw [if_pos c26] at H
                          have c26b0 : decide (3 < (((rd_T82 l0_10 x11_2).f5).length : Int)) = true := decide_eq_true c26
                          have c26b1 : decide (3 < ((rd_T82 l0_10 x11_2).f5).length) = true := decide_eq_true (by omega)
                          clear c26
                          by_cases c27 : (wrap64 ((wrap64 ((wrap64 ((wrap64 ((wrap64 (rd ((rd_T82 l0_10 x11_2).f5) 0)) * 16777216)) + (wrap64 ((wrap64 (rd ((rd_T82 l0_10 x11_2).f5) 1)) * 65536)))) + (wrap64 ((wrap64 (rd ((rd_T82 l0_10 x11_2).f5) 2)) * 256)))) + (wrap64 (rd ((rd_T82 l0_10 x11_2).f5) 3)))) ≥ t425
                          · rw [if_pos c27] at H
                            have c27b0 : decide (t425 ≤ (wrap64 ((wrap64 ((wrap64 ((wrap64 ((wrap64 (rd ((rd_T82 l0_10 x11_2).f5) 0)) * 16777216)) + (wrap64 ((wrap64 (rd ((rd_T82 l0_10 x11_2).f5) 1)) * 65536)))) + (wrap64 ((wrap64 (rd ((rd_T82 l0_10 x11_2).f5) 2)) * 256)))) + (wrap64 (rd ((rd_T82 l0_10 x11_2).f5) 3))))) = true := decide_eq_true c27
                            clear c27
                            simp only [Option.some.injEq, Prod.mk.injEq] at H
                            obtain ⟨rfl, rfl⟩ := H
                            have hnb28 := NB420_424.out
                            have hnc28 := NB424_420.out
                            have hcz29_0 : wr.cell? ⟨gb420, 0, none⟩ = some (.int .i64 a0_0) := (blk_cell BK420.out 0).trans rfl
                            have hcz29_1 : wr.cell? ⟨gb420, 1, none⟩ = some (.int .i64 a0_1) := (blk_cell BK420.out 1).trans rfl
                            have hcz29_2 : wr.cell? ⟨gb420, 2, none⟩ = some (.string a0_2) := (blk_cell BK420.out 2).trans rfl
                            have hcz29_3 : wr.cell? ⟨gb420, 3, none⟩ = some (.int .i64 a0_3) := (blk_cell BK420.out 3).trans rfl
                            have hcz29_4 : wr.cell? ⟨gb420, 4, none⟩ = some (.slice A0_4 l0_4.length c0_4) := (blk_cell BK420.out 4).trans rfl
                            have hcz29_5 : wr.cell? ⟨gb420, 5, none⟩ = some (.string a0_5) := (blk_cell BK420.out 5).trans rfl
                            have hcz29_6 : wr.cell? ⟨gb420, 6, none⟩ = some (.string a0_6) := (blk_cell BK420.out 6).trans rfl
                            have hcz29_7 : wr.cell? ⟨gb420, 7, none⟩ = some (.int .i64 a0_7) := (blk_cell BK420.out 7).trans rfl
                            have hcz29_8 : wr.cell? ⟨gb420, 8, none⟩ = some (.slice A0_8 l0_8.length c0_8) := (blk_cell BK420.out 8).trans rfl
                            have hcz29_9 : wr.cell? ⟨gb420, 9, none⟩ = some (.slice A0_9 l0_9.length c0_9) := (blk_cell BK420.out 9).trans rfl
                            have hcz29_10 : wr.cell? ⟨gb420, 10, none⟩ = some (.slice A0_10 l0_10.length c0_10) := (blk_cell BK420.out 10).trans rfl
                            have hfz29_0 := blk_frozen BK420.out 0
                            have hfz29_1 := blk_frozen BK420.out 1
                            have hfz29_2 := blk_frozen BK420.out 2
                            have hfz29_3 := blk_frozen BK420.out 3
                            have hfz29_4 := blk_frozen BK420.out 4
                            have hfz29_5 := blk_frozen BK420.out 5
                            have hfz29_6 := blk_frozen BK420.out 6
                            have hfz29_7 := blk_frozen BK420.out 7
                            have hfz29_8 := blk_frozen BK420.out 8
                            have hfz29_9 := blk_frozen BK420.out 9
                            have hfz29_10 := blk_frozen BK420.out 10
                            have p428 : 0 ≤ (x11_2 : Int) := of_decide_eq_true (by first | (with_reducible assumption) | assumption)
                            have q428 : x11_2 < (l0_10.length : Int) := of_decide_eq_true (by first | (with_reducible assumption) | assumption)
                            obtain ⟨ad428, A428_4, c428_4, A428_5, c428_5, e428, hx428_0, hx428_1, hx428_2, hx428_3, hx428_4, hx428_5, hl428_4, hi428_4, hl428_5, hi428_5⟩ := at_T82 HR0_10.out x11_2 p428 q428
                            cases e428
                            replace hx428_0 := (HB.out.cell (World.block_lt_of_cell? w _ hx428_0)).trans hx428_0
                            replace hx428_1 := (HB.out.cell (World.block_lt_of_cell? w _ hx428_1)).trans hx428_1
                            replace hx428_2 := (HB.out.cell (World.block_lt_of_cell? w _ hx428_2)).trans hx428_2
                            replace hx428_3 := (HB.out.cell (World.block_lt_of_cell? w _ hx428_3)).trans hx428_3
                            replace hx428_4 := (HB.out.cell (World.block_lt_of_cell? w _ hx428_4)).trans hx428_4
                            replace hx428_5 := (HB.out.cell (World.block_lt_of_cell? w _ hx428_5)).trans hx428_5
                            have HR428_4 := Aside0.mk hi428_4
                            have HC428_4 := Aside0.mk hl428_4
                            clear hi428_4 hl428_4
                            have HR428_5 := Aside0.mk hi428_5
                            have HC428_5 := Aside0.mk hl428_5
                            clear hi428_5 hl428_5
                            replace p428 := eq_true p428
                            replace q428 := eq_true q428
                            have p429 : 0 ≤ (0 : Int) := (by omega)
                            have q429 : 0 < (((rd_T82 l0_10 x11_2).f5).length : Int) := of_decide_eq_true (by first | (with_reducible assumption) | assumption)
                            obtain ⟨ad429, e429, hx429_0⟩ := Kd.at_int HR428_5.out 0 p429 q429
                            cases e429
                            have qi429 : (0 < ((rd_T82 l0_10 x11_2).f5).length) = True := eq_true (by omega)
                            (try rw [show ((0 : Int)).toNat = 0 from rfl] at hx429_0)
                            (try rw [Addr.add_zero'] at hx429_0)
                            replace hx429_0 := (HB.out.cell (World.block_lt_of_cell? w _ hx429_0)).trans hx429_0
                            replace p429 := eq_true p429
                            replace q429 := eq_true q429
                            have p430 : 0 ≤ (1 : Int) := (by omega)
                            have q430 : 1 < (((rd_T82 l0_10 x11_2).f5).length : Int) := of_decide_eq_true (by first | (with_reducible assumption) | assumption)
                            obtain ⟨ad430, e430, hx430_0⟩ := Kd.at_int HR428_5.out 1 p430 q430
                            obtain rfl : ad429 = ad430 := (by injection e430)
                            (try simp only [show (1 : Int).toNat = 1 from rfl, Nat.reduceMul, Nat.reduceEqDiff, Go.Addr.add, ↓reduceIte] at hx430_0)
                            have qi430 : (1 < ((rd_T82 l0_10 x11_2).f5).length) = True := eq_true (by omega)
                            (try rw [show ((1 : Int)).toNat = 1 from rfl] at hx430_0)
                            replace hx430_0 := (HB.out.cell (World.block_lt_of_cell? w _ hx430_0)).trans hx430_0
                            replace p430 := eq_true p430
                            replace q430 := eq_true q430
                            have p431 : 0 ≤ (2 : Int) := (by omega)
                            have q431 : 2 < (((rd_T82 l0_10 x11_2).f5).length : Int) := of_decide_eq_true (by first | (with_reducible assumption) | assumption)
                            obtain ⟨ad431, e431, hx431_0⟩ := Kd.at_int HR428_5.out 2 p431 q431
                            obtain rfl : ad429 = ad431 := (by injection e431)
                            (try simp only [show (2 : Int).toNat = 2 from rfl, Nat.reduceMul, Nat.reduceEqDiff, Go.Addr.add, ↓reduceIte] at hx431_0)
                            have qi431 : (2 < ((rd_T82 l0_10 x11_2).f5).length) = True := eq_true (by omega)
                            (try rw [show ((2 : Int)).toNat = 2 from rfl] at hx431_0)
                            replace hx431_0 := (HB.out.cell (World.block_lt_of_cell? w _ hx431_0)).trans hx431_0
                            replace p431 := eq_true p431
                            replace q431 := eq_true q431
                            have p432 : 0 ≤ (3 : Int) := (by omega)
                            have q432 : 3 < (((rd_T82 l0_10 x11_2).f5).length : Int) := of_decide_eq_true (by first | (with_reducible assumption) | assumption)
                            obtain ⟨ad432, e432, hx432_0⟩ := Kd.at_int HR428_5.out 3 p432 q432
                            obtain rfl : ad429 = ad432 := (by injection e432)
                            (try simp only [show (3 : Int).toNat = 3 from rfl, Nat.reduceMul, Nat.reduceEqDiff, Go.Addr.add, ↓reduceIte] at hx432_0)
                            have qi432 : (3 < ((rd_T82 l0_10 x11_2).f5).length) = True := eq_true (by omega)
                            (try rw [show ((3 : Int)).toNat = 3 from rfl] at hx432_0)
                            replace hx432_0 := (HB.out.cell (World.block_lt_of_cell? w _ hx432_0)).trans hx432_0
                            replace p432 := eq_true p432
                            replace q432 := eq_true q432
                            go_wp2
                            repeat (go_quiet (fail); try go_wp2)
                            go_ret2
                            exact ⟨_, by first | rfl | (simp [errW_none, errW_some] <;> rfl) | (simp [*, errW_none, errW_some] <;> rfl), by first | exact Kd.R_nil _ _ _ _ _ | exact Kd.N_nil _ _ _ _ _ | exact Kd.V_nil _ _ _ _ _ | exact Kd.Q_nil _ _ _ _ _ | exact Kd.S_nil _ _ _ _ _, by repeat (first | (with_reducible first | exact HB.out | apply below_alloc | apply pw_below_drewN | apply below_drew1 | refine below_set ?_ GE420.out | refine below_set ?_ GE424.out) | exact HB.out)⟩
                          · rw [if_neg c27] at H
                            have c27b0 : decide (t425 ≤ (wrap64 ((wrap64 ((wrap64 ((wrap64 ((wrap64 (rd ((rd_T82 l0_10 x11_2).f5) 0)) * 16777216)) + (wrap64 ((wrap64 (rd ((rd_T82 l0_10 x11_2).f5) 1)) * 65536)))) + (wrap64 ((wrap64 (rd ((rd_T82 l0_10 x11_2).f5) 2)) * 256)))) + (wrap64 (rd ((rd_T82 l0_10 x11_2).f5) 3))))) = false := decide_eq_false c27
                            clear c27
                            by_cases c30 : x8_2.length < 17592186044416
                            · rw [if_pos c30] at H
                              have LMc30 := Aside0.mk c30
                              clear c30
                              obtain ⟨y433, hy433⟩ : ∃ y_ : List Int, y_ = (x8_2 ++ [wrap64 ((wrap64 ((wrap64 ((wrap64 ((wrap64 (rd ((rd_T82 l0_10 x11_2).f5) 0)) * 16777216)) + (wrap64 ((wrap64 (rd ((rd_T82 l0_10 x11_2).f5) 1)) * 65536)))) + (wrap64 ((wrap64 (rd ((rd_T82 l0_10 x11_2).f5) 2)) * 256)))) + (wrap64 (rd ((rd_T82 l0_10 x11_2).f5) 3)))]) := ⟨_, rfl⟩
                              replace H : (dioramaref20_Numbers.l1 k2 t425 y433 (wrap64 (x11_2 + 1)) a0_0 a0_1 a0_2 a0_3 l0_4 a0_5 a0_6 a0_7 l0_8 l0_9 l0_10) = some (r1, r2) := by first | (rw [hy433]; with_reducible exact H) | (have H2_ := (Option.bind_some _ _).symm.trans H; rw [hy433]; with_reducible exact H2_) | (have H2_ := (Option.bind_some _ _).symm.trans H; with_reducible exact H2_) | with_reducible exact H | (rw [hy433]; exact H) | exact H
                              have Ny433 := Aside0.mk hy433
                              clear hy433
                              have H' := Aside0.mk H
                              clear H
                              have hnb31 := NB420_424.out
                              have hnc31 := NB424_420.out
                              have hcz32_0 : wr.cell? ⟨gb420, 0, none⟩ = some (.int .i64 a0_0) := (blk_cell BK420.out 0).trans rfl
                              have hcz32_1 : wr.cell? ⟨gb420, 1, none⟩ = some (.int .i64 a0_1) := (blk_cell BK420.out 1).trans rfl
                              have hcz32_2 : wr.cell? ⟨gb420, 2, none⟩ = some (.string a0_2) := (blk_cell BK420.out 2).trans rfl
                              have hcz32_3 : wr.cell? ⟨gb420, 3, none⟩ = some (.int .i64 a0_3) := (blk_cell BK420.out 3).trans rfl
                              have hcz32_4 : wr.cell? ⟨gb420, 4, none⟩ = some (.slice A0_4 l0_4.length c0_4) := (blk_cell BK420.out 4).trans rfl
                              have hcz32_5 : wr.cell? ⟨gb420, 5, none⟩ = some (.string a0_5) := (blk_cell BK420.out 5).trans rfl
                              have hcz32_6 : wr.cell? ⟨gb420, 6, none⟩ = some (.string a0_6) := (blk_cell BK420.out 6).trans rfl
                              have hcz32_7 : wr.cell? ⟨gb420, 7, none⟩ = some (.int .i64 a0_7) := (blk_cell BK420.out 7).trans rfl
                              have hcz32_8 : wr.cell? ⟨gb420, 8, none⟩ = some (.slice A0_8 l0_8.length c0_8) := (blk_cell BK420.out 8).trans rfl
                              have hcz32_9 : wr.cell? ⟨gb420, 9, none⟩ = some (.slice A0_9 l0_9.length c0_9) := (blk_cell BK420.out 9).trans rfl
                              have hcz32_10 : wr.cell? ⟨gb420, 10, none⟩ = some (.slice A0_10 l0_10.length c0_10) := (blk_cell BK420.out 10).trans rfl
                              have hfz32_0 := blk_frozen BK420.out 0
                              have hfz32_1 := blk_frozen BK420.out 1
                              have hfz32_2 := blk_frozen BK420.out 2
                              have hfz32_3 := blk_frozen BK420.out 3
                              have hfz32_4 := blk_frozen BK420.out 4
                              have hfz32_5 := blk_frozen BK420.out 5
                              have hfz32_6 := blk_frozen BK420.out 6
                              have hfz32_7 := blk_frozen BK420.out 7
                              have hfz32_8 := blk_frozen BK420.out 8
                              have hfz32_9 := blk_frozen BK420.out 9
                              have hfz32_10 := blk_frozen BK420.out 10
                              have p428 : 0 ≤ (x11_2 : Int) := of_decide_eq_true (by first | (with_reducible assumption) | assumption)
                              have q428 : x11_2 < (l0_10.length : Int) := of_decide_eq_true (by first | (with_reducible assumption) | assumption)
                              obtain ⟨ad428, A428_4, c428_4, A428_5, c428_5, e428, hx428_0, hx428_1, hx428_2, hx428_3, hx428_4, hx428_5, hl428_4, hi428_4, hl428_5, hi428_5⟩ := at_T82 HR0_10.out x11_2 p428 q428
                              cases e428
                              replace hx428_0 := (HB.out.cell (World.block_lt_of_cell? w _ hx428_0)).trans hx428_0
                              replace hx428_1 := (HB.out.cell (World.block_lt_of_cell? w _ hx428_1)).trans hx428_1
                              replace hx428_2 := (HB.out.cell (World.block_lt_of_cell? w _ hx428_2)).trans hx428_2
                              replace hx428_3 := (HB.out.cell (World.block_lt_of_cell? w _ hx428_3)).trans hx428_3
                              replace hx428_4 := (HB.out.cell (World.block_lt_of_cell? w _ hx428_4)).trans hx428_4
                              replace hx428_5 := (HB.out.cell (World.block_lt_of_cell? w _ hx428_5)).trans hx428_5
                              have HR428_4 := Aside0.mk hi428_4
                              have HC428_4 := Aside0.mk hl428_4
                              clear hi428_4 hl428_4
                              have HR428_5 := Aside0.mk hi428_5
                              have HC428_5 := Aside0.mk hl428_5
                              clear hi428_5 hl428_5
                              replace p428 := eq_true p428
                              replace q428 := eq_true q428
                              have p429 : 0 ≤ (0 : Int) := (by omega)
                              have q429 : 0 < (((rd_T82 l0_10 x11_2).f5).length : Int) := of_decide_eq_true (by first | (with_reducible assumption) | assumption)
                              obtain ⟨ad429, e429, hx429_0⟩ := Kd.at_int HR428_5.out 0 p429 q429
                              cases e429
                              have qi429 : (0 < ((rd_T82 l0_10 x11_2).f5).length) = True := eq_true (by omega)
                              (try rw [show ((0 : Int)).toNat = 0 from rfl] at hx429_0)
                              (try rw [Addr.add_zero'] at hx429_0)
                              replace hx429_0 := (HB.out.cell (World.block_lt_of_cell? w _ hx429_0)).trans hx429_0
                              replace p429 := eq_true p429
                              replace q429 := eq_true q429
                              have p430 : 0 ≤ (1 : Int) := (by omega)
                              have q430 : 1 < (((rd_T82 l0_10 x11_2).f5).length : Int) := of_decide_eq_true (by first | (with_reducible assumption) | assumption)
                              obtain ⟨ad430, e430, hx430_0⟩ := Kd.at_int HR428_5.out 1 p430 q430
                              obtain rfl : ad429 = ad430 := (by injection e430)
                              (try simp only [show (1 : Int).toNat = 1 from rfl, Nat.reduceMul, Nat.reduceEqDiff, Go.Addr.add, ↓reduceIte] at hx430_0)
                              have qi430 : (1 < ((rd_T82 l0_10 x11_2).f5).length) = True := eq_true (by omega)
                              (try rw [show ((1 : Int)).toNat = 1 from rfl] at hx430_0)
                              replace hx430_0 := (HB.out.cell (World.block_lt_of_cell? w _ hx430_0)).trans hx430_0
                              replace p430 := eq_true p430
                              replace q430 := eq_true q430
                              have p431 : 0 ≤ (2 : Int) := (by omega)
                              have q431 : 2 < (((rd_T82 l0_10 x11_2).f5).length : Int) := of_decide_eq_true (by first | (with_reducible assumption) | assumption)
                              obtain ⟨ad431, e431, hx431_0⟩ := Kd.at_int HR428_5.out 2 p431 q431
                              obtain rfl : ad429 = ad431 := (by injection e431)
                              (try simp only [show (2 : Int).toNat = 2 from rfl, Nat.reduceMul, Nat.reduceEqDiff, Go.Addr.add, ↓reduceIte] at hx431_0)
                              have qi431 : (2 < ((rd_T82 l0_10 x11_2).f5).length) = True := eq_true (by omega)
                              (try rw [show ((2 : Int)).toNat = 2 from rfl] at hx431_0)
                              replace hx431_0 := (HB.out.cell (World.block_lt_of_cell? w _ hx431_0)).trans hx431_0
                              replace p431 := eq_true p431
                              replace q431 := eq_true q431
                              have p432 : 0 ≤ (3 : Int) := (by omega)
                              have q432 : 3 < (((rd_T82 l0_10 x11_2).f5).length : Int) := of_decide_eq_true (by first | (with_reducible assumption) | assumption)
                              obtain ⟨ad432, e432, hx432_0⟩ := Kd.at_int HR428_5.out 3 p432 q432
                              obtain rfl : ad429 = ad432 := (by injection e432)
                              (try simp only [show (3 : Int).toNat = 3 from rfl, Nat.reduceMul, Nat.reduceEqDiff, Go.Addr.add, ↓reduceIte] at hx432_0)
                              have qi432 : (3 < ((rd_T82 l0_10 x11_2).f5).length) = True := eq_true (by omega)
                              (try rw [show ((3 : Int)).toNat = 3 from rfl] at hx432_0)
                              replace hx432_0 := (HB.out.cell (World.block_lt_of_cell? w _ hx432_0)).trans hx432_0
                              replace p432 := eq_true p432
                              replace q432 := eq_true q432
                              go_wp2_with (first | ((with_reducible refine gate_builtin (b := .append) (xs := #[.tmp 81, .tmp 83]) rfl ?_); at_builtin; refine Kd.R_append (Kd.int .i64) (w0 := w) w.heap.size rfl (.tmp 81) (.tmp 83) 55 3 (.int .i64 0) 8 rfl Try.underlying55 info3 rfl (by decide) (by omega) u8 x8_2 (wrap64 ((wrap64 ((wrap64 ((wrap64 ((wrap64 (rd ((rd_T82 l0_10 x11_2).f5) 0)) * 16777216)) + (wrap64 ((wrap64 (rd ((rd_T82 l0_10 x11_2).f5) 1)) * 65536)))) + (wrap64 ((wrap64 (rd ((rd_T82 l0_10 x11_2).f5) 2)) * 256)))) + (wrap64 (rd ((rd_T82 l0_10 x11_2).f5) 3)))) [.int .i64 (wrap64 ((wrap64 ((wrap64 ((wrap64 ((wrap64 (rd ((rd_T82 l0_10 x11_2).f5) 0)) * 16777216)) + (wrap64 ((wrap64 (rd ((rd_T82 l0_10 x11_2).f5) 1)) * 65536)))) + (wrap64 ((wrap64 (rd ((rd_T82 l0_10 x11_2).f5) 2)) * 256)))) + (wrap64 (rd ((rd_T82 l0_10 x11_2).f5) 3))))] (fun _ => True) (fun _ => False) rfl rfl ?aP (fun _ hk => hk.elim) ?aF ?aO ?aB ?aS ?aL ?_; (case aP => exact rfl); (case aB => exact (by repeat (first | (with_reducible first | exact HB.out | apply below_alloc | apply pw_below_drewN | apply below_drew1 | refine below_set ?_ GE420.out | refine below_set ?_ GE424.out) | exact HB.out))); (case aF => exact (fun _ _ => trivial)); (case aO => exact (by (with_reducible repeat (first | apply Kd.R_alloc | apply Kd.R_drewN | apply Kd.R_drew)); exact HO_8.out)); (case aS => exact (below_size (by repeat (first | (with_reducible first | exact HB.out | apply below_alloc | apply pw_below_drewN | apply below_drew1 | refine below_set ?_ GE420.out | refine below_set ?_ GE424.out) | exact HB.out)))); (case aL => have := LMc30.out; omega); intro v434 w33 ho hb hg hat; rw [← Ny433.out] at ho; have n0_ := Aside0.mk (blk_grown (g := gb420) (o := .cells #[.int .i64 a0_0, .int .i64 a0_1, .string a0_2, .int .i64 a0_3, .slice A0_4 l0_4.length c0_4, .string a0_5, .string a0_6, .int .i64 a0_7, .slice A0_8 l0_8.length c0_8, .slice A0_9 l0_9.length c0_9, .slice (some ad428) l0_10.length c0_10] 52 (0, 0)) (by (with_reducible repeat (first | refine blk_drewN ?_ _ | refine blk_drew ?_ | refine blk_alloc ?_ _)); exact BK420.out) hg (Kd.R_ne HO_8.out BK420.out (by decide))); have n1_ := Aside0.mk (blk_grown (g := gb424) (o := .cells #[.int .i64 t421, .bool t422] 23 (0, 0)) (by (with_reducible repeat (first | refine blk_drewN ?_ _ | refine blk_drew ?_ | refine blk_alloc ?_ _)); exact BK424.out) hg (Kd.R_ne HO_8.out BK424.out (by decide))); have n2_ := Aside0.mk (hb); have n3_ := Aside0.mk (ho); clear BK420; clear BK424; clear HB; clear HO_8; have BK420 := n0_; have BK424 := n1_; have HB := n2_; have HO435 := n3_; clear n0_ n1_ n2_ n3_; clear ho hb hg hat))
                              repeat (go_quiet (first | ((with_reducible refine gate_builtin (b := .append) (xs := #[.tmp 81, .tmp 83]) rfl ?_); at_builtin; refine Kd.R_append (Kd.int .i64) (w0 := w) w.heap.size rfl (.tmp 81) (.tmp 83) 55 3 (.int .i64 0) 8 rfl Try.underlying55 info3 rfl (by decide) (by omega) u8 x8_2 (wrap64 ((wrap64 ((wrap64 ((wrap64 ((wrap64 (rd ((rd_T82 l0_10 x11_2).f5) 0)) * 16777216)) + (wrap64 ((wrap64 (rd ((rd_T82 l0_10 x11_2).f5) 1)) * 65536)))) + (wrap64 ((wrap64 (rd ((rd_T82 l0_10 x11_2).f5) 2)) * 256)))) + (wrap64 (rd ((rd_T82 l0_10 x11_2).f5) 3)))) [.int .i64 (wrap64 ((wrap64 ((wrap64 ((wrap64 ((wrap64 (rd ((rd_T82 l0_10 x11_2).f5) 0)) * 16777216)) + (wrap64 ((wrap64 (rd ((rd_T82 l0_10 x11_2).f5) 1)) * 65536)))) + (wrap64 ((wrap64 (rd ((rd_T82 l0_10 x11_2).f5) 2)) * 256)))) + (wrap64 (rd ((rd_T82 l0_10 x11_2).f5) 3))))] (fun _ => True) (fun _ => False) rfl rfl ?aP (fun _ hk => hk.elim) ?aF ?aO ?aB ?aS ?aL ?_; (case aP => exact rfl); (case aB => exact (by repeat (first | (with_reducible first | exact HB.out | apply below_alloc | apply pw_below_drewN | apply below_drew1 | refine below_set ?_ GE420.out | refine below_set ?_ GE424.out) | exact HB.out))); (case aF => exact (fun _ _ => trivial)); (case aO => exact (by (with_reducible repeat (first | apply Kd.R_alloc | apply Kd.R_drewN | apply Kd.R_drew)); exact HO_8.out)); (case aS => exact (below_size (by repeat (first | (with_reducible first | exact HB.out | apply below_alloc | apply pw_below_drewN | apply below_drew1 | refine below_set ?_ GE420.out | refine below_set ?_ GE424.out) | exact HB.out)))); (case aL => have := LMc30.out; omega); intro v434 w33 ho hb hg hat; rw [← Ny433.out] at ho; have n0_ := Aside0.mk (blk_grown (g := gb420) (o := .cells #[.int .i64 a0_0, .int .i64 a0_1, .string a0_2, .int .i64 a0_3, .slice A0_4 l0_4.length c0_4, .string a0_5, .string a0_6, .int .i64 a0_7, .slice A0_8 l0_8.length c0_8, .slice A0_9 l0_9.length c0_9, .slice (some ad428) l0_10.length c0_10] 52 (0, 0)) (by (with_reducible repeat (first | refine blk_drewN ?_ _ | refine blk_drew ?_ | refine blk_alloc ?_ _)); exact BK420.out) hg (Kd.R_ne HO_8.out BK420.out (by decide))); have n1_ := Aside0.mk (blk_grown (g := gb424) (o := .cells #[.int .i64 t421, .bool t422] 23 (0, 0)) (by (with_reducible repeat (first | refine blk_drewN ?_ _ | refine blk_drew ?_ | refine blk_alloc ?_ _)); exact BK424.out) hg (Kd.R_ne HO_8.out BK424.out (by decide))); have n2_ := Aside0.mk (hb); have n3_ := Aside0.mk (ho); clear BK420; clear BK424; clear HB; clear HO_8; have BK420 := n0_; have BK424 := n1_; have HB := n2_; have HO435 := n3_; clear n0_ n1_ n2_ n3_; clear ho hb hg hat)); try go_wp2_with (first | ((with_reducible refine gate_builtin (b := .append) (xs := #[.tmp 81, .tmp 83]) rfl ?_); at_builtin; refine Kd.R_append (Kd.int .i64) (w0 := w) w.heap.size rfl (.tmp 81) (.tmp 83) 55 3 (.int .i64 0) 8 rfl Try.underlying55 info3 rfl (by decide) (by omega) u8 x8_2 (wrap64 ((wrap64 ((wrap64 ((wrap64 ((wrap64 (rd ((rd_T82 l0_10 x11_2).f5) 0)) * 16777216)) + (wrap64 ((wrap64 (rd ((rd_T82 l0_10 x11_2).f5) 1)) * 65536)))) + (wrap64 ((wrap64 (rd ((rd_T82 l0_10 x11_2).f5) 2)) * 256)))) + (wrap64 (rd ((rd_T82 l0_10 x11_2).f5) 3)))) [.int .i64 (wrap64 ((wrap64 ((wrap64 ((wrap64 ((wrap64 (rd ((rd_T82 l0_10 x11_2).f5) 0)) * 16777216)) + (wrap64 ((wrap64 (rd ((rd_T82 l0_10 x11_2).f5) 1)) * 65536)))) + (wrap64 ((wrap64 (rd ((rd_T82 l0_10 x11_2).f5) 2)) * 256)))) + (wrap64 (rd ((rd_T82 l0_10 x11_2).f5) 3))))] (fun _ => True) (fun _ => False) rfl rfl ?aP (fun _ hk => hk.elim) ?aF ?aO ?aB ?aS ?aL ?_; (case aP => exact rfl); (case aB => exact (by repeat (first | (with_reducible first | exact HB.out | apply below_alloc | apply pw_below_drewN | apply below_drew1 | refine below_set ?_ GE420.out | refine below_set ?_ GE424.out) | exact HB.out))); (case aF => exact (fun _ _ => trivial)); (case aO => exact (by (with_reducible repeat (first | apply Kd.R_alloc | apply Kd.R_drewN | apply Kd.R_drew)); exact HO_8.out)); (case aS => exact (below_size (by repeat (first | (with_reducible first | exact HB.out | apply below_alloc | apply pw_below_drewN | apply below_drew1 | refine below_set ?_ GE420.out | refine below_set ?_ GE424.out) | exact HB.out)))); (case aL => have := LMc30.out; omega); intro v434 w33 ho hb hg hat; rw [← Ny433.out] at ho; have n0_ := Aside0.mk (blk_grown (g := gb420) (o := .cells #[.int .i64 a0_0, .int .i64 a0_1, .string a0_2, .int .i64 a0_3, .slice A0_4 l0_4.length c0_4, .string a0_5, .string a0_6, .int .i64 a0_7, .slice A0_8 l0_8.length c0_8, .slice A0_9 l0_9.length c0_9, .slice (some ad428) l0_10.length c0_10] 52 (0, 0)) (by (with_reducible repeat (first | refine blk_drewN ?_ _ | refine blk_drew ?_ | refine blk_alloc ?_ _)); exact BK420.out) hg (Kd.R_ne HO_8.out BK420.out (by decide))); have n1_ := Aside0.mk (blk_grown (g := gb424) (o := .cells #[.int .i64 t421, .bool t422] 23 (0, 0)) (by (with_reducible repeat (first | refine blk_drewN ?_ _ | refine blk_drew ?_ | refine blk_alloc ?_ _)); exact BK424.out) hg (Kd.R_ne HO_8.out BK424.out (by decide))); have n2_ := Aside0.mk (hb); have n3_ := Aside0.mk (ho); clear BK420; clear BK424; clear HB; clear HO_8; have BK420 := n0_; have BK424 := n1_; have HB := n2_; have HO435 := n3_; clear n0_ n1_ n2_ n3_; clear ho hb hg hat)))
                              go_roundg k2
                              case measure => have := HK1.out; have := HK2.out; omega
                              case rel => exact ⟨(y433), (wrap64 (x11_2 + 1)), (by first | rfl | (simp; done) | (simp [*]; done)), H', ⟨by have := HK1.out; have := HK2.out; omega⟩, ⟨by (with_reducible repeat (first | apply Kd.R_alloc | apply Kd.R_drewN | apply Kd.R_drew)); exact HO435.out⟩, ⟨by (with_reducible repeat (first | refine blk_drewN ?_ _ | refine blk_drew ?_ | refine blk_alloc ?_ _)); exact BK420.out⟩, ⟨by (with_reducible repeat (first | refine blk_drewN ?_ _ | refine blk_drew ?_ | refine blk_alloc ?_ _)); exact BK424.out⟩, ⟨by repeat (first | (with_reducible first | exact HB.out | apply below_alloc | apply pw_below_drewN | apply below_drew1 | refine below_set ?_ GE420.out | refine below_set ?_ GE424.out) | exact HB.out)⟩⟩
                            · rw [if_neg c30] at H
                              exact absurd H (by simp)
                        · rw [if_neg c26] at H
                          exact absurd H (by simp)
                      · rw [if_neg c25] at H
                        exact absurd H (by simp)
                    · rw [if_neg c24] at H
                      exact absurd H (by simp)
                  · rw [if_neg c23] at H
                    exact absurd H (by simp)
                · rw [if_neg c22] at H
                  exact absurd H (by simp)
              · rw [if_neg c21] at H
                have c21b0 : decide (x11_2 < (l0_10.length : Int)) = false := decide_eq_false c21
                clear c21
                simp only [Option.some.injEq, Prod.mk.injEq] at H
                obtain ⟨rfl, rfl⟩ := H
                have hnb34 := NB420_424.out
                have hnc34 := NB424_420.out
                have hcz35_0 : wr.cell? ⟨gb420, 0, none⟩ = some (.int .i64 a0_0) := (blk_cell BK420.out 0).trans rfl
                have hcz35_1 : wr.cell? ⟨gb420, 1, none⟩ = some (.int .i64 a0_1) := (blk_cell BK420.out 1).trans rfl
                have hcz35_2 : wr.cell? ⟨gb420, 2, none⟩ = some (.string a0_2) := (blk_cell BK420.out 2).trans rfl
                have hcz35_3 : wr.cell? ⟨gb420, 3, none⟩ = some (.int .i64 a0_3) := (blk_cell BK420.out 3).trans rfl
                have hcz35_4 : wr.cell? ⟨gb420, 4, none⟩ = some (.slice A0_4 l0_4.length c0_4) := (blk_cell BK420.out 4).trans rfl
                have hcz35_5 : wr.cell? ⟨gb420, 5, none⟩ = some (.string a0_5) := (blk_cell BK420.out 5).trans rfl
                have hcz35_6 : wr.cell? ⟨gb420, 6, none⟩ = some (.string a0_6) := (blk_cell BK420.out 6).trans rfl
                have hcz35_7 : wr.cell? ⟨gb420, 7, none⟩ = some (.int .i64 a0_7) := (blk_cell BK420.out 7).trans rfl
                have hcz35_8 : wr.cell? ⟨gb420, 8, none⟩ = some (.slice A0_8 l0_8.length c0_8) := (blk_cell BK420.out 8).trans rfl
                have hcz35_9 : wr.cell? ⟨gb420, 9, none⟩ = some (.slice A0_9 l0_9.length c0_9) := (blk_cell BK420.out 9).trans rfl
                have hcz35_10 : wr.cell? ⟨gb420, 10, none⟩ = some (.slice A0_10 l0_10.length c0_10) := (blk_cell BK420.out 10).trans rfl
                have hfz35_0 := blk_frozen BK420.out 0
                have hfz35_1 := blk_frozen BK420.out 1
                have hfz35_2 := blk_frozen BK420.out 2
                have hfz35_3 := blk_frozen BK420.out 3
                have hfz35_4 := blk_frozen BK420.out 4
                have hfz35_5 := blk_frozen BK420.out 5
                have hfz35_6 := blk_frozen BK420.out 6
                have hfz35_7 := blk_frozen BK420.out 7
                have hfz35_8 := blk_frozen BK420.out 8
                have hfz35_9 := blk_frozen BK420.out 9
                have hfz35_10 := blk_frozen BK420.out 10
                go_wp2
                repeat (go_quiet (fail); try go_wp2)
                go_ret2
                exact ⟨_, by first | rfl | (simp [errW_none, errW_some] <;> rfl) | (simp [*, errW_none, errW_some] <;> rfl), by (with_reducible repeat (first | apply Kd.R_alloc | apply Kd.R_drewN | apply Kd.R_drew)); exact HO_8.out, by repeat (first | (with_reducible first | exact HB.out | apply below_alloc | apply pw_below_drewN | apply below_drew1 | refine below_set ?_ GE420.out | refine below_set ?_ GE424.out) | exact HB.out)⟩
  · rw [if_neg c3] at H
    have c3b0 : (t423 == 0) = false := beq_eq_false_iff_ne.mpr c3
    have c3b1 : (t423 != 0) = true := bne_iff_ne.mpr c3
    simp only [Option.some.injEq, Prod.mk.injEq] at H
    obtain ⟨rfl, rfl⟩ := H
    go_enter Try.func32, Try.ntmps32
    go_wp2_with (first | ((with_reducible refine gate_dst (N := 1) rfl ?_); refine box_event ?hg (N := 1) ?hd (cs := #[.int .i64 a0_0, .int .i64 a0_1, .string a0_2, .int .i64 a0_3, .slice A0_4 l0_4.length c0_4, .string a0_5, .string a0_6, .int .i64 a0_7, .slice A0_8 l0_8.length c0_8, .slice A0_9 l0_9.length c0_9, .slice A0_10 l0_10.length c0_10]) (t := 52) ?hr ?_; (case hd => rfl); (case hg => rfl); (case hr => first | (go_simp; done) | (go_simp; rfl)); intro gb420 hg w36 hbox hb; have n0_ := Aside0.mk (below_step (by repeat (first | (with_reducible first | exact HB.out | apply below_alloc | apply pw_below_drewN | apply below_drew1) | exact HB.out)) hb); have n1_ := Aside0.mk (hbox); have n2_ := Aside0.mk ((by rw [hg]; exact (below_size (by repeat (first | (with_reducible first | exact HB.out | apply below_alloc | apply pw_below_drewN | apply below_drew1) | exact HB.out))) : w.heap.size ≤ gb420)); have n3_ := Aside0.mk ((by rw [hg]; exact (below_size (by repeat (first | (with_reducible first | exact HB.out | apply below_alloc | apply pw_below_drewN | apply below_drew1) | exact HB.out))) : w.heap.size ≤ gb420)); clear HB; have HB := n0_; have BK420 := n1_; have GW420 := n2_; have GE420 := n3_; clear n0_ n1_ n2_ n3_; clear hb hbox hg; have hcz37_0 : w36.cell? ⟨gb420, 0, none⟩ = some (.int .i64 a0_0) := (blk_cell BK420.out 0).trans rfl; have hcz37_1 : w36.cell? ⟨gb420, 1, none⟩ = some (.int .i64 a0_1) := (blk_cell BK420.out 1).trans rfl; have hcz37_2 : w36.cell? ⟨gb420, 2, none⟩ = some (.string a0_2) := (blk_cell BK420.out 2).trans rfl; have hcz37_3 : w36.cell? ⟨gb420, 3, none⟩ = some (.int .i64 a0_3) := (blk_cell BK420.out 3).trans rfl; have hcz37_4 : w36.cell? ⟨gb420, 4, none⟩ = some (.slice A0_4 l0_4.length c0_4) := (blk_cell BK420.out 4).trans rfl; have hcz37_5 : w36.cell? ⟨gb420, 5, none⟩ = some (.string a0_5) := (blk_cell BK420.out 5).trans rfl; have hcz37_6 : w36.cell? ⟨gb420, 6, none⟩ = some (.string a0_6) := (blk_cell BK420.out 6).trans rfl; have hcz37_7 : w36.cell? ⟨gb420, 7, none⟩ = some (.int .i64 a0_7) := (blk_cell BK420.out 7).trans rfl; have hcz37_8 : w36.cell? ⟨gb420, 8, none⟩ = some (.slice A0_8 l0_8.length c0_8) := (blk_cell BK420.out 8).trans rfl; have hcz37_9 : w36.cell? ⟨gb420, 9, none⟩ = some (.slice A0_9 l0_9.length c0_9) := (blk_cell BK420.out 9).trans rfl; have hcz37_10 : w36.cell? ⟨gb420, 10, none⟩ = some (.slice A0_10 l0_10.length c0_10) := (blk_cell BK420.out 10).trans rfl; have hfz37_0 := blk_frozen BK420.out 0; have hfz37_1 := blk_frozen BK420.out 1; have hfz37_2 := blk_frozen BK420.out 2; have hfz37_3 := blk_frozen BK420.out 3; have hfz37_4 := blk_frozen BK420.out 4; have hfz37_5 := blk_frozen BK420.out 5; have hfz37_6 := blk_frozen BK420.out 6; have hfz37_7 := blk_frozen BK420.out 7; have hfz37_8 := blk_frozen BK420.out 8; have hfz37_9 := blk_frozen BK420.out 9; have hfz37_10 := blk_frozen BK420.out 10) | (go_at_call 30; (with_reducible refine (dioramaref20_Rate.calls k a0_0 a0_1 a0_2 a0_3 _ _ l0_4 a0_5 a0_6 a0_7 _ _ l0_8 _ _ l0_9 _ _ l0_10 t421 t422 t423 _ ?side1 ?side2 ?side3 ?side4 ?side5 ?side6 ?side7 ?side8 A2.out).mono ?_); (case side1 => repeat (first | exact (Kd.C_below HR0_4.out HB.out) | (with_reducible refine Kd.C_alloc ?_ _) | (with_reducible refine Kd.C_drewN ?_ _) | (with_reducible refine Kd.C_drew ?_))); (case side2 => exact HC0_4.out); (case side3 => repeat (first | exact (Kd.C_below HR0_8.out HB.out) | (with_reducible refine Kd.C_alloc ?_ _) | (with_reducible refine Kd.C_drewN ?_ _) | (with_reducible refine Kd.C_drew ?_))); (case side4 => exact HC0_8.out); (case side5 => repeat (first | exact (Kd.C_below HR0_9.out HB.out) | (with_reducible refine Kd.C_alloc ?_ _) | (with_reducible refine Kd.C_drewN ?_ _) | (with_reducible refine Kd.C_drew ?_))); (case side6 => exact HC0_9.out); (case side7 => repeat (first | exact (Kd.C_below HR0_10.out HB.out) | (with_reducible refine Kd.C_alloc ?_ _) | (with_reducible refine Kd.C_drewN ?_ _) | (with_reducible refine Kd.C_drew ?_))); (case side8 => exact HC0_10.out); rintro e w38 ⟨rfl, hb⟩; have n0_ := Aside0.mk (blk_below (g := gb420) (o := .cells #[.int .i64 a0_0, .int .i64 a0_1, .string a0_2, .int .i64 a0_3, .slice A0_4 l0_4.length c0_4, .string a0_5, .string a0_6, .int .i64 a0_7, .slice A0_8 l0_8.length c0_8, .slice A0_9 l0_9.length c0_9, .slice A0_10 l0_10.length c0_10] 52 (0, 0)) (by (with_reducible repeat (first | refine blk_drewN ?_ _ | refine blk_drew ?_ | refine blk_alloc ?_ _)); exact BK420.out) hb); have n1_ := Aside0.mk (below_step (by repeat (first | (with_reducible first | exact HB.out | apply below_alloc | apply pw_below_drewN | apply below_drew1 | refine below_set ?_ GE420.out) | exact HB.out)) hb); clear BK420; clear HB; have BK420 := n0_; have HB := n1_; clear n0_ n1_; (try clear hb); (try clear hb2); (try clear hk); (try clear hi)) | ((with_reducible refine gate_dst (N := 4) rfl ?_); refine box_event ?hg (N := 4) ?hd (cs := #[.int .i64 0, .bool false]) (t := 23) ?hr ?_; (case hd => rfl); (case hg => rfl); (case hr => first | (go_simp; done) | (go_simp; rfl)); intro gb424 hg w39 hbox hb; have n0_ := Aside0.mk (blk_below (g := gb420) (o := .cells #[.int .i64 a0_0, .int .i64 a0_1, .string a0_2, .int .i64 a0_3, .slice A0_4 l0_4.length c0_4, .string a0_5, .string a0_6, .int .i64 a0_7, .slice A0_8 l0_8.length c0_8, .slice A0_9 l0_9.length c0_9, .slice A0_10 l0_10.length c0_10] 52 (0, 0)) (by (with_reducible repeat (first | refine blk_drewN ?_ _ | refine blk_drew ?_ | refine blk_alloc ?_ _)); exact BK420.out) hb); have n1_ := Aside0.mk (below_step (by repeat (first | (with_reducible first | exact HB.out | apply below_alloc | apply pw_below_drewN | apply below_drew1 | refine below_set ?_ GE420.out) | exact HB.out)) hb); have n2_ := Aside0.mk (hbox); have n3_ := Aside0.mk ((by rw [hg]; exact (below_size (by repeat (first | (with_reducible first | exact HB.out | apply below_alloc | apply pw_below_drewN | apply below_drew1 | refine below_set ?_ GE420.out) | exact HB.out))) : w.heap.size ≤ gb424)); have n4_ := Aside0.mk ((by rw [hg]; exact (below_size (by repeat (first | (with_reducible first | exact HB.out | apply below_alloc | apply pw_below_drewN | apply below_drew1 | refine below_set ?_ GE420.out) | exact HB.out))) : w.heap.size ≤ gb424)); have n5_ := Aside0.mk ((by rw [hg]; exact Nat.ne_of_lt (blk_lt (g := gb420) (o := .cells #[.int .i64 a0_0, .int .i64 a0_1, .string a0_2, .int .i64 a0_3, .slice A0_4 l0_4.length c0_4, .string a0_5, .string a0_6, .int .i64 a0_7, .slice A0_8 l0_8.length c0_8, .slice A0_9 l0_9.length c0_9, .slice A0_10 l0_10.length c0_10] 52 (0, 0)) (by (with_reducible repeat (first | refine blk_drewN ?_ _ | refine blk_drew ?_ | refine blk_alloc ?_ _)); exact BK420.out)) : gb420 ≠ gb424)); have n6_ := Aside0.mk ((by rw [hg]; exact Nat.ne_of_gt (blk_lt (g := gb420) (o := .cells #[.int .i64 a0_0, .int .i64 a0_1, .string a0_2, .int .i64 a0_3, .slice A0_4 l0_4.length c0_4, .string a0_5, .string a0_6, .int .i64 a0_7, .slice A0_8 l0_8.length c0_8, .slice A0_9 l0_9.length c0_9, .slice A0_10 l0_10.length c0_10] 52 (0, 0)) (by (with_reducible repeat (first | refine blk_drewN ?_ _ | refine blk_drew ?_ | refine blk_alloc ?_ _)); exact BK420.out)) : gb424 ≠ gb420)); clear BK420; clear HB; have BK420 := n0_; have HB := n1_; have BK424 := n2_; have GW424 := n3_; have GE424 := n4_; have NB420_424 := n5_; have NB424_420 := n6_; clear n0_ n1_ n2_ n3_ n4_ n5_ n6_; clear hb hbox hg; have hnb40 := NB424_420.out; have hnc40 := NB420_424.out; have hcz41_0 : w39.cell? ⟨gb424, 0, none⟩ = some (.int .i64 0) := (blk_cell BK424.out 0).trans rfl; have hcz41_1 : w39.cell? ⟨gb424, 1, none⟩ = some (.bool false) := (blk_cell BK424.out 1).trans rfl; have hfz41_0 := blk_frozen BK424.out 0; have hfz41_1 := blk_frozen BK424.out 1))
    repeat (go_quiet (first | ((with_reducible refine gate_dst (N := 1) rfl ?_); refine box_event ?hg (N := 1) ?hd (cs := #[.int .i64 a0_0, .int .i64 a0_1, .string a0_2, .int .i64 a0_3, .slice A0_4 l0_4.length c0_4, .string a0_5, .string a0_6, .int .i64 a0_7, .slice A0_8 l0_8.length c0_8, .slice A0_9 l0_9.length c0_9, .slice A0_10 l0_10.length c0_10]) (t := 52) ?hr ?_; (case hd => rfl); (case hg => rfl); (case hr => first | (go_simp; done) | (go_simp; rfl)); intro gb420 hg w36 hbox hb; have n0_ := Aside0.mk (below_step (by repeat (first | (with_reducible first | exact HB.out | apply below_alloc | apply pw_below_drewN | apply below_drew1) | exact HB.out)) hb); have n1_ := Aside0.mk (hbox); have n2_ := Aside0.mk ((by rw [hg]; exact (below_size (by repeat (first | (with_reducible first | exact HB.out | apply below_alloc | apply pw_below_drewN | apply below_drew1) | exact HB.out))) : w.heap.size ≤ gb420)); have n3_ := Aside0.mk ((by rw [hg]; exact (below_size (by repeat (first | (with_reducible first | exact HB.out | apply below_alloc | apply pw_below_drewN | apply below_drew1) | exact HB.out))) : w.heap.size ≤ gb420)); clear HB; have HB := n0_; have BK420 := n1_; have GW420 := n2_; have GE420 := n3_; clear n0_ n1_ n2_ n3_; clear hb hbox hg; have hcz37_0 : w36.cell? ⟨gb420, 0, none⟩ = some (.int .i64 a0_0) := (blk_cell BK420.out 0).trans rfl; have hcz37_1 : w36.cell? ⟨gb420, 1, none⟩ = some (.int .i64 a0_1) := (blk_cell BK420.out 1).trans rfl; have hcz37_2 : w36.cell? ⟨gb420, 2, none⟩ = some (.string a0_2) := (blk_cell BK420.out 2).trans rfl; have hcz37_3 : w36.cell? ⟨gb420, 3, none⟩ = some (.int .i64 a0_3) := (blk_cell BK420.out 3).trans rfl; have hcz37_4 : w36.cell? ⟨gb420, 4, none⟩ = some (.slice A0_4 l0_4.length c0_4) := (blk_cell BK420.out 4).trans rfl; have hcz37_5 : w36.cell? ⟨gb420, 5, none⟩ = some (.string a0_5) := (blk_cell BK420.out 5).trans rfl; have hcz37_6 : w36.cell? ⟨gb420, 6, none⟩ = some (.string a0_6) := (blk_cell BK420.out 6).trans rfl; have hcz37_7 : w36.cell? ⟨gb420, 7, none⟩ = some (.int .i64 a0_7) := (blk_cell BK420.out 7).trans rfl; have hcz37_8 : w36.cell? ⟨gb420, 8, none⟩ = some (.slice A0_8 l0_8.length c0_8) := (blk_cell BK420.out 8).trans rfl; have hcz37_9 : w36.cell? ⟨gb420, 9, none⟩ = some (.slice A0_9 l0_9.length c0_9) := (blk_cell BK420.out 9).trans rfl; have hcz37_10 : w36.cell? ⟨gb420, 10, none⟩ = some (.slice A0_10 l0_10.length c0_10) := (blk_cell BK420.out 10).trans rfl; have hfz37_0 := blk_frozen BK420.out 0; have hfz37_1 := blk_frozen BK420.out 1; have hfz37_2 := blk_frozen BK420.out 2; have hfz37_3 := blk_frozen BK420.out 3; have hfz37_4 := blk_frozen BK420.out 4; have hfz37_5 := blk_frozen BK420.out 5; have hfz37_6 := blk_frozen BK420.out 6; have hfz37_7 := blk_frozen BK420.out 7; have hfz37_8 := blk_frozen BK420.out 8; have hfz37_9 := blk_frozen BK420.out 9; have hfz37_10 := blk_frozen BK420.out 10) | (go_at_call 30; (with_reducible refine (dioramaref20_Rate.calls k a0_0 a0_1 a0_2 a0_3 _ _ l0_4 a0_5 a0_6 a0_7 _ _ l0_8 _ _ l0_9 _ _ l0_10 t421 t422 t423 _ ?side1 ?side2 ?side3 ?side4 ?side5 ?side6 ?side7 ?side8 A2.out).mono ?_); (case side1 => repeat (first | exact (Kd.C_below HR0_4.out HB.out) | (with_reducible refine Kd.C_alloc ?_ _) | (with_reducible refine Kd.C_drewN ?_ _) | (with_reducible refine Kd.C_drew ?_))); (case side2 => exact HC0_4.out); (case side3 => repeat (first | exact (Kd.C_below HR0_8.out HB.out) | (with_reducible refine Kd.C_alloc ?_ _) | (with_reducible refine Kd.C_drewN ?_ _) | (with_reducible refine Kd.C_drew ?_))); (case side4 => exact HC0_8.out); (case side5 => repeat (first | exact (Kd.C_below HR0_9.out HB.out) | (with_reducible refine Kd.C_alloc ?_ _) | (with_reducible refine Kd.C_drewN ?_ _) | (with_reducible refine Kd.C_drew ?_))); (case side6 => exact HC0_9.out); (case side7 => repeat (first | exact (Kd.C_below HR0_10.out HB.out) | (with_reducible refine Kd.C_alloc ?_ _) | (with_reducible refine Kd.C_drewN ?_ _) | (with_reducible refine Kd.C_drew ?_))); (case side8 => exact HC0_10.out); rintro e w38 ⟨rfl, hb⟩; have n0_ := Aside0.mk (blk_below (g := gb420) (o := .cells #[.int .i64 a0_0, .int .i64 a0_1, .string a0_2, .int .i64 a0_3, .slice A0_4 l0_4.length c0_4, .string a0_5, .string a0_6, .int .i64 a0_7, .slice A0_8 l0_8.length c0_8, .slice A0_9 l0_9.length c0_9, .slice A0_10 l0_10.length c0_10] 52 (0, 0)) (by (with_reducible repeat (first | refine blk_drewN ?_ _ | refine blk_drew ?_ | refine blk_alloc ?_ _)); exact BK420.out) hb); have n1_ := Aside0.mk (below_step (by repeat (first | (with_reducible first | exact HB.out | apply below_alloc | apply pw_below_drewN | apply below_drew1 | refine below_set ?_ GE420.out) | exact HB.out)) hb); clear BK420; clear HB; have BK420 := n0_; have HB := n1_; clear n0_ n1_; (try clear hb); (try clear hb2); (try clear hk); (try clear hi)) | ((with_reducible refine gate_dst (N := 4) rfl ?_); refine box_event ?hg (N := 4) ?hd (cs := #[.int .i64 0, .bool false]) (t := 23) ?hr ?_; (case hd => rfl); (case hg => rfl); (case hr => first | (go_simp; done) | (go_simp; rfl)); intro gb424 hg w39 hbox hb; have n0_ := Aside0.mk (blk_below (g := gb420) (o := .cells #[.int .i64 a0_0, .int .i64 a0_1, .string a0_2, .int .i64 a0_3, .slice A0_4 l0_4.length c0_4, .string a0_5, .string a0_6, .int .i64 a0_7, .slice A0_8 l0_8.length c0_8, .slice A0_9 l0_9.length c0_9, .slice A0_10 l0_10.length c0_10] 52 (0, 0)) (by (with_reducible repeat (first | refine blk_drewN ?_ _ | refine blk_drew ?_ | refine blk_alloc ?_ _)); exact BK420.out) hb); have n1_ := Aside0.mk (below_step (by repeat (first | (with_reducible first | exact HB.out | apply below_alloc | apply pw_below_drewN | apply below_drew1 | refine below_set ?_ GE420.out) | exact HB.out)) hb); have n2_ := Aside0.mk (hbox); have n3_ := Aside0.mk ((by rw [hg]; exact (below_size (by repeat (first | (with_reducible first | exact HB.out | apply below_alloc | apply pw_below_drewN | apply below_drew1 | refine below_set ?_ GE420.out) | exact HB.out))) : w.heap.size ≤ gb424)); have n4_ := Aside0.mk ((by rw [hg]; exact (below_size (by repeat (first | (with_reducible first | exact HB.out | apply below_alloc | apply pw_below_drewN | apply below_drew1 | refine below_set ?_ GE420.out) | exact HB.out))) : w.heap.size ≤ gb424)); have n5_ := Aside0.mk ((by rw [hg]; exact Nat.ne_of_lt (blk_lt (g := gb420) (o := .cells #[.int .i64 a0_0, .int .i64 a0_1, .string a0_2, .int .i64 a0_3, .slice A0_4 l0_4.length c0_4, .string a0_5, .string a0_6, .int .i64 a0_7, .slice A0_8 l0_8.length c0_8, .slice A0_9 l0_9.length c0_9, .slice A0_10 l0_10.length c0_10] 52 (0, 0)) (by (with_reducible repeat (first | refine blk_drewN ?_ _ | refine blk_drew ?_ | refine blk_alloc ?_ _)); exact BK420.out)) : gb420 ≠ gb424)); have n6_ := Aside0.mk ((by rw [hg]; exact Nat.ne_of_gt (blk_lt (g := gb420) (o := .cells #[.int .i64 a0_0, .int .i64 a0_1, .string a0_2, .int .i64 a0_3, .slice A0_4 l0_4.length c0_4, .string a0_5, .string a0_6, .int .i64 a0_7, .slice A0_8 l0_8.length c0_8, .slice A0_9 l0_9.length c0_9, .slice A0_10 l0_10.length c0_10] 52 (0, 0)) (by (with_reducible repeat (first | refine blk_drewN ?_ _ | refine blk_drew ?_ | refine blk_alloc ?_ _)); exact BK420.out)) : gb424 ≠ gb420)); clear BK420; clear HB; have BK420 := n0_; have HB := n1_; have BK424 := n2_; have GW424 := n3_; have GE424 := n4_; have NB420_424 := n5_; have NB424_420 := n6_; clear n0_ n1_ n2_ n3_ n4_ n5_ n6_; clear hb hbox hg; have hnb40 := NB424_420.out; have hnc40 := NB420_424.out; have hcz41_0 : w39.cell? ⟨gb424, 0, none⟩ = some (.int .i64 0) := (blk_cell BK424.out 0).trans rfl; have hcz41_1 : w39.cell? ⟨gb424, 1, none⟩ = some (.bool false) := (blk_cell BK424.out 1).trans rfl; have hfz41_0 := blk_frozen BK424.out 0; have hfz41_1 := blk_frozen BK424.out 1)); try go_wp2_with (first | ((with_reducible refine gate_dst (N := 1) rfl ?_); refine box_event ?hg (N := 1) ?hd (cs := #[.int .i64 a0_0, .int .i64 a0_1, .string a0_2, .int .i64 a0_3, .slice A0_4 l0_4.length c0_4, .string a0_5, .string a0_6, .int .i64 a0_7, .slice A0_8 l0_8.length c0_8, .slice A0_9 l0_9.length c0_9, .slice A0_10 l0_10.length c0_10]) (t := 52) ?hr ?_; (case hd => rfl); (case hg => rfl); (case hr => first | (go_simp; done) | (go_simp; rfl)); intro gb420 hg w36 hbox hb; have n0_ := Aside0.mk (below_step (by repeat (first | (with_reducible first | exact HB.out | apply below_alloc | apply pw_below_drewN | apply below_drew1) | exact HB.out)) hb); have n1_ := Aside0.mk (hbox); have n2_ := Aside0.mk ((by rw [hg]; exact (below_size (by repeat (first | (with_reducible first | exact HB.out | apply below_alloc | apply pw_below_drewN | apply below_drew1) | exact HB.out))) : w.heap.size ≤ gb420)); have n3_ := Aside0.mk ((by rw [hg]; exact (below_size (by repeat (first | (with_reducible first | exact HB.out | apply below_alloc | apply pw_below_drewN | apply below_drew1) | exact HB.out))) : w.heap.size ≤ gb420)); clear HB; have HB := n0_; have BK420 := n1_; have GW420 := n2_; have GE420 := n3_; clear n0_ n1_ n2_ n3_; clear hb hbox hg; have hcz37_0 : w36.cell? ⟨gb420, 0, none⟩ = some (.int .i64 a0_0) := (blk_cell BK420.out 0).trans rfl; have hcz37_1 : w36.cell? ⟨gb420, 1, none⟩ = some (.int .i64 a0_1) := (blk_cell BK420.out 1).trans rfl; have hcz37_2 : w36.cell? ⟨gb420, 2, none⟩ = some (.string a0_2) := (blk_cell BK420.out 2).trans rfl; have hcz37_3 : w36.cell? ⟨gb420, 3, none⟩ = some (.int .i64 a0_3) := (blk_cell BK420.out 3).trans rfl; have hcz37_4 : w36.cell? ⟨gb420, 4, none⟩ = some (.slice A0_4 l0_4.length c0_4) := (blk_cell BK420.out 4).trans rfl; have hcz37_5 : w36.cell? ⟨gb420, 5, none⟩ = some (.string a0_5) := (blk_cell BK420.out 5).trans rfl; have hcz37_6 : w36.cell? ⟨gb420, 6, none⟩ = some (.string a0_6) := (blk_cell BK420.out 6).trans rfl; have hcz37_7 : w36.cell? ⟨gb420, 7, none⟩ = some (.int .i64 a0_7) := (blk_cell BK420.out 7).trans rfl; have hcz37_8 : w36.cell? ⟨gb420, 8, none⟩ = some (.slice A0_8 l0_8.length c0_8) := (blk_cell BK420.out 8).trans rfl; have hcz37_9 : w36.cell? ⟨gb420, 9, none⟩ = some (.slice A0_9 l0_9.length c0_9) := (blk_cell BK420.out 9).trans rfl; have hcz37_10 : w36.cell? ⟨gb420, 10, none⟩ = some (.slice A0_10 l0_10.length c0_10) := (blk_cell BK420.out 10).trans rfl; have hfz37_0 := blk_frozen BK420.out 0; have hfz37_1 := blk_frozen BK420.out 1; have hfz37_2 := blk_frozen BK420.out 2; have hfz37_3 := blk_frozen BK420.out 3; have hfz37_4 := blk_frozen BK420.out 4; have hfz37_5 := blk_frozen BK420.out 5; have hfz37_6 := blk_frozen BK420.out 6; have hfz37_7 := blk_frozen BK420.out 7; have hfz37_8 := blk_frozen BK420.out 8; have hfz37_9 := blk_frozen BK420.out 9; have hfz37_10 := blk_frozen BK420.out 10) | (go_at_call 30; (with_reducible refine (dioramaref20_Rate.calls k a0_0 a0_1 a0_2 a0_3 _ _ l0_4 a0_5 a0_6 a0_7 _ _ l0_8 _ _ l0_9 _ _ l0_10 t421 t422 t423 _ ?side1 ?side2 ?side3 ?side4 ?side5 ?side6 ?side7 ?side8 A2.out).mono ?_); (case side1 => repeat (first | exact (Kd.C_below HR0_4.out HB.out) | (with_reducible refine Kd.C_alloc ?_ _) | (with_reducible refine Kd.C_drewN ?_ _) | (with_reducible refine Kd.C_drew ?_))); (case side2 => exact HC0_4.out); (case side3 => repeat (first | exact (Kd.C_below HR0_8.out HB.out) | (with_reducible refine Kd.C_alloc ?_ _) | (with_reducible refine Kd.C_drewN ?_ _) | (with_reducible refine Kd.C_drew ?_))); (case side4 => exact HC0_8.out); (case side5 => repeat (first | exact (Kd.C_below HR0_9.out HB.out) | (with_reducible refine Kd.C_alloc ?_ _) | (with_reducible refine Kd.C_drewN ?_ _) | (with_reducible refine Kd.C_drew ?_))); (case side6 => exact HC0_9.out); (case side7 => repeat (first | exact (Kd.C_below HR0_10.out HB.out) | (with_reducible refine Kd.C_alloc ?_ _) | (with_reducible refine Kd.C_drewN ?_ _) | (with_reducible refine Kd.C_drew ?_))); (case side8 => exact HC0_10.out); rintro e w38 ⟨rfl, hb⟩; have n0_ := Aside0.mk (blk_below (g := gb420) (o := .cells #[.int .i64 a0_0, .int .i64 a0_1, .string a0_2, .int .i64 a0_3, .slice A0_4 l0_4.length c0_4, .string a0_5, .string a0_6, .int .i64 a0_7, .slice A0_8 l0_8.length c0_8, .slice A0_9 l0_9.length c0_9, .slice A0_10 l0_10.length c0_10] 52 (0, 0)) (by (with_reducible repeat (first | refine blk_drewN ?_ _ | refine blk_drew ?_ | refine blk_alloc ?_ _)); exact BK420.out) hb); have n1_ := Aside0.mk (below_step (by repeat (first | (with_reducible first | exact HB.out | apply below_alloc | apply pw_below_drewN | apply below_drew1 | refine below_set ?_ GE420.out) | exact HB.out)) hb); clear BK420; clear HB; have BK420 := n0_; have HB := n1_; clear n0_ n1_; (try clear hb); (try clear hb2); (try clear hk); (try clear hi)) | ((with_reducible refine gate_dst (N := 4) rfl ?_); refine box_event ?hg (N := 4) ?hd (cs := #[.int .i64 0, .bool false]) (t := 23) ?hr ?_; (case hd => rfl); (case hg => rfl); (case hr => first | (go_simp; done) | (go_simp; rfl)); intro gb424 hg w39 hbox hb; have n0_ := Aside0.mk (blk_below (g := gb420) (o := .cells #[.int .i64 a0_0, .int .i64 a0_1, .string a0_2, .int .i64 a0_3, .slice A0_4 l0_4.length c0_4, .string a0_5, .string a0_6, .int .i64 a0_7, .slice A0_8 l0_8.length c0_8, .slice A0_9 l0_9.length c0_9, .slice A0_10 l0_10.length c0_10] 52 (0, 0)) (by (with_reducible repeat (first | refine blk_drewN ?_ _ | refine blk_drew ?_ | refine blk_alloc ?_ _)); exact BK420.out) hb); have n1_ := Aside0.mk (below_step (by repeat (first | (with_reducible first | exact HB.out | apply below_alloc | apply pw_below_drewN | apply below_drew1 | refine below_set ?_ GE420.out) | exact HB.out)) hb); have n2_ := Aside0.mk (hbox); have n3_ := Aside0.mk ((by rw [hg]; exact (below_size (by repeat (first | (with_reducible first | exact HB.out | apply below_alloc | apply pw_below_drewN | apply below_drew1 | refine below_set ?_ GE420.out) | exact HB.out))) : w.heap.size ≤ gb424)); have n4_ := Aside0.mk ((by rw [hg]; exact (below_size (by repeat (first | (with_reducible first | exact HB.out | apply below_alloc | apply pw_below_drewN | apply below_drew1 | refine below_set ?_ GE420.out) | exact HB.out))) : w.heap.size ≤ gb424)); have n5_ := Aside0.mk ((by rw [hg]; exact Nat.ne_of_lt (blk_lt (g := gb420) (o := .cells #[.int .i64 a0_0, .int .i64 a0_1, .string a0_2, .int .i64 a0_3, .slice A0_4 l0_4.length c0_4, .string a0_5, .string a0_6, .int .i64 a0_7, .slice A0_8 l0_8.length c0_8, .slice A0_9 l0_9.length c0_9, .slice A0_10 l0_10.length c0_10] 52 (0, 0)) (by (with_reducible repeat (first | refine blk_drewN ?_ _ | refine blk_drew ?_ | refine blk_alloc ?_ _)); exact BK420.out)) : gb420 ≠ gb424)); have n6_ := Aside0.mk ((by rw [hg]; exact Nat.ne_of_gt (blk_lt (g := gb420) (o := .cells #[.int .i64 a0_0, .int .i64 a0_1, .string a0_2, .int .i64 a0_3, .slice A0_4 l0_4.length c0_4, .string a0_5, .string a0_6, .int .i64 a0_7, .slice A0_8 l0_8.length c0_8, .slice A0_9 l0_9.length c0_9, .slice A0_10 l0_10.length c0_10] 52 (0, 0)) (by (with_reducible repeat (first | refine blk_drewN ?_ _ | refine blk_drew ?_ | refine blk_alloc ?_ _)); exact BK420.out)) : gb424 ≠ gb420)); clear BK420; clear HB; have BK420 := n0_; have HB := n1_; have BK424 := n2_; have GW424 := n3_; have GE424 := n4_; have NB420_424 := n5_; have NB424_420 := n6_; clear n0_ n1_ n2_ n3_ n4_ n5_ n6_; clear hb hbox hg; have hnb40 := NB424_420.out; have hnc40 := NB420_424.out; have hcz41_0 : w39.cell? ⟨gb424, 0, none⟩ = some (.int .i64 0) := (blk_cell BK424.out 0).trans rfl; have hcz41_1 : w39.cell? ⟨gb424, 1, none⟩ = some (.bool false) := (blk_cell BK424.out 1).trans rfl; have hfz41_0 := blk_frozen BK424.out 0; have hfz41_1 := blk_frozen BK424.out 1)))
    go_ret2
    exact ⟨_, by first | rfl | (simp [errW_none, errW_some] <;> rfl) | (simp [*, errW_none, errW_some] <;> rfl), by first | exact Kd.R_nil _ _ _ _ _ | exact Kd.N_nil _ _ _ _ _ | exact Kd.V_nil _ _ _ _ _ | exact Kd.Q_nil _ _ _ _ _ | exact Kd.S_nil _ _ _ _ _, by repeat (first | (with_reducible first | exact HB.out | apply below_alloc | apply pw_below_drewN | apply below_drew1 | refine below_set ?_ GE420.out | refine below_set ?_ GE424.out) | exact HB.out)⟩

end Go.Proofs.Ytndbhfbgigefnaa.PA
