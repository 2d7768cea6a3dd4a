-- PRINTED by print.py (a twelfth state) out of the translation. Not trusted: Lean checks it.
import Derived.Test.YtndbhfbgigefnaaPAx0
import Derived.Test.YtndbhfbgigefnaaPAx13
namespace Go.Proofs.Ytndbhfbgigefnaa.PA
open Go.RowKit Go.Proofs.YtndbhfbgigefnaaW.PrintWords Go.Proofs.YtndbhfbgigefnaaW.PrintLast Go.Proofs.YtndbhfbgigefnaaW.PrintMore
attribute [local go_sem] max2_int min2_int max_two min_two max_three min_three max_four min_four   -- for this text's walks alone
set_option linter.unusedVariables false
set_option linter.unusedSimpArgs false

/-! ### dioramaref20_Rate: function 30 -/
mutual
def dioramaref20_Rate.j0 : Nat → Bool → Int → Int → ByteArray → Int → List Int → ByteArray → ByteArray → Int → List (S97) → List (S95) → List (S82) → Option (Int × Bool × Int)
  | 0, _, _, _, _, _, _, _, _, _, _, _, _ => none
  | k + 1, x13, x400000, x400001, x400002, x400003, x400004, x400005, x400006, x400007, x400008, x400009, x400010 => if x13 = true then (some (0, false, 7)) else (if (x400004.length : Int) = 2 then (if 1 < (x400004.length : Int) then (dioramaref20_Rate.j1 k (decide ((rd x400004 1) > 1)) x400000 x400001 x400002 x400003 x400004 x400005 x400006 x400007 x400008 x400009 x400010) else (none)) else (dioramaref20_Rate.j1 k true x400000 x400001 x400002 x400003 x400004 x400005 x400006 x400007 x400008 x400009 x400010))
def dioramaref20_Rate.j1 : Nat → Bool → Int → Int → ByteArray → Int → List Int → ByteArray → ByteArray → Int → List (S97) → List (S95) → List (S82) → Option (Int × Bool × Int)
  | 0, _, _, _, _, _, _, _, _, _, _, _, _ => none
  | k + 1, x25, x400000, x400001, x400002, x400003, x400004, x400005, x400006, x400007, x400008, x400009, x400010 => if x25 = true then (some (0, false, 4)) else (if 0 < (x400004.length : Int) then (if 1 < (x400004.length : Int) then ((dioramaref20_Check.f (wrap64 (rd x400004 0)) ((rd x400004 1) == 1)).bind fun t405 => (if t405 = 0 then (some (wrap64 (rd x400004 0), ((rd x400004 1) == 1), 0)) else (some (0, false, t405)))) else (none)) else (none))
end
def dioramaref20_Rate.f (k : Nat) (a0_0 : Int) (a0_1 : Int) (a0_2 : ByteArray) (a0_3 : Int) (l0_4 : List Int) (a0_5 : ByteArray) (a0_6 : ByteArray) (a0_7 : Int) (l0_8 : List (S97)) (l0_9 : List (S95)) (l0_10 : List (S82)) : Option (Int × Bool × Int) := if a0_1 = 6 then (dioramaref20_Rate.j0 k (a0_2.toList != ([116, 109, 99, 49] : List UInt8)) a0_0 a0_1 a0_2 a0_3 l0_4 a0_5 a0_6 a0_7 l0_8 l0_9 l0_10) else (dioramaref20_Rate.j0 k true a0_0 a0_1 a0_2 a0_3 l0_4 a0_5 a0_6 a0_7 l0_8 l0_9 l0_10)
theorem dioramaref20_Rate.mono_l : ∀ k, (∀ y0 y1 y2 y3 y4 y5 y6 y7 y8 y9 y10 y11, LeO (dioramaref20_Rate.j0 k y0 y1 y2 y3 y4 y5 y6 y7 y8 y9 y10 y11) (dioramaref20_Rate.j0 (k + 1) y0 y1 y2 y3 y4 y5 y6 y7 y8 y9 y10 y11)) ∧ (∀ y0 y1 y2 y3 y4 y5 y6 y7 y8 y9 y10 y11, LeO (dioramaref20_Rate.j1 k y0 y1 y2 y3 y4 y5 y6 y7 y8 y9 y10 y11) (dioramaref20_Rate.j1 (k + 1) y0 y1 y2 y3 y4 y5 y6 y7 y8 y9 y10 y11))
  | 0 => ⟨fun _ _ _ _ _ _ _ _ _ _ _ _ r h => by simp [dioramaref20_Rate.j0] at h, fun _ _ _ _ _ _ _ _ _ _ _ _ r h => by simp [dioramaref20_Rate.j1] at h⟩
  | k + 1 => by
    obtain ⟨ih0, ih1⟩ := dioramaref20_Rate.mono_l k
    refine ⟨?_, ?_⟩
    · intro y0 y1 y2 y3 y4 y5 y6 y7 y8 y9 y10 y11
      unfold dioramaref20_Rate.j0
      repeat' first
      | (with_reducible exact ih0 _ _ _ _ _ _ _ _ _ _ _ _)
      | (with_reducible exact ih1 _ _ _ _ _ _ _ _ _ _ _ _)
      | (with_reducible exact LeO.refl _)
      | (with_reducible exact LeO.none _)
      | (with_reducible refine LeO.ite ?_ ?_)
      | (with_reducible refine LeO.bind ?_ (fun _ => ?_))
      | exact ih0 _ _ _ _ _ _ _ _ _ _ _ _
      | exact ih1 _ _ _ _ _ _ _ _ _ _ _ _
      | exact LeO.none _
      | refine LeO.ite ?_ ?_
      | refine LeO.bind ?_ (fun _ => ?_)
    · intro y0 y1 y2 y3 y4 y5 y6 y7 y8 y9 y10 y11
      unfold dioramaref20_Rate.j1
      repeat' first
      | (with_reducible exact ih0 _ _ _ _ _ _ _ _ _ _ _ _)
      | (with_reducible exact ih1 _ _ _ _ _ _ _ _ _ _ _ _)
      | (with_reducible exact LeO.refl _)
      | (with_reducible exact LeO.none _)
      | (with_reducible refine LeO.ite ?_ ?_)
      | (with_reducible refine LeO.bind ?_ (fun _ => ?_))
      | exact ih0 _ _ _ _ _ _ _ _ _ _ _ _
      | exact ih1 _ _ _ _ _ _ _ _ _ _ _ _
      | exact LeO.none _
      | refine LeO.ite ?_ ?_
      | refine LeO.bind ?_ (fun _ => ?_)
theorem dioramaref20_Rate.mono : ∀ a0 a1 a2 a3 a4 a5 a6 a7 a8 a9 a10 k, LeO (dioramaref20_Rate.f k a0 a1 a2 a3 a4 a5 a6 a7 a8 a9 a10) (dioramaref20_Rate.f (k + 1) a0 a1 a2 a3 a4 a5 a6 a7 a8 a9 a10) := by
  intro a0 a1 a2 a3 a4 a5 a6 a7 a8 a9 a10 k
  obtain ⟨ih0, ih1⟩ := dioramaref20_Rate.mono_l k
  unfold dioramaref20_Rate.f
  repeat' first
      | (with_reducible exact ih0 _ _ _ _ _ _ _ _ _ _ _ _)
      | (with_reducible exact ih1 _ _ _ _ _ _ _ _ _ _ _ _)
      | (with_reducible exact LeO.refl _)
      | (with_reducible exact LeO.none _)
      | (with_reducible refine LeO.ite ?_ ?_)
      | (with_reducible refine LeO.bind ?_ (fun _ => ?_))
      | exact ih0 _ _ _ _ _ _ _ _ _ _ _ _
      | exact ih1 _ _ _ _ _ _ _ _ _ _ _ _
      | exact LeO.none _
      | refine LeO.ite ?_ ?_
      | refine LeO.bind ?_ (fun _ => ?_)
def dioramaref20_Rate.T5 : Bool × List (List Nat × List Nat) := (true, [([], []), ([0], [0]), ([1], [1]), ([2], [2]), ([3], [3]), ([], []), ([5], [5]), ([6], [6]), ([7], [7]), ([8], [8]), ([4, 9], [4, 9]), ([], []), ([11, 10, 0, 1, 2, 3, 4, 5, 6, 7, 8, 9, 10, 11], [10, 11])])
def dioramaref20_Rate.B5 : List Nat := [0, 1, 3, 7, 15, 0, 32, 96, 224, 480, 1023, 0, 4095]
theorem dioramaref20_Rate.tab5 : rtab .any (opsOf Try.f30 5) = dioramaref20_Rate.T5 := by kernel_rfl
theorem dioramaref20_Rate.bits5 : waitsOk dioramaref20_Rate.T5.2 dioramaref20_Rate.B5 = true := by kernel_rfl
set_option maxHeartbeats 8000000 in
set_option maxRecDepth 100000 in
theorem dioramaref20_Rate.calls (k : Nat) (a0_0 : Int) (a0_1 : Int) (a0_2 : ByteArray) (a0_3 : Int) (A0_4 : Option Addr) (c0_4 : Nat) (l0_4 : List Int) (a0_5 : ByteArray) (a0_6 : ByteArray) (a0_7 : Int) (A0_8 : Option Addr) (c0_8 : Nat) (l0_8 : List (S97)) (A0_9 : Option Addr) (c0_9 : Nat) (l0_9 : List (S95)) (A0_10 : Option Addr) (c0_10 : Nat) (l0_10 : List (S82)) (r1 : Int) (r2 : Bool) (r3 : Int) (w : World) (hr0_4 : Kd.C (Kd.int .u8) w A0_4 l0_4.length l0_4) (hc0_4 : l0_4.length ≤ c0_4) (hr0_8 : Kd.C k97 w A0_8 l0_8.length l0_8) (hc0_8 : l0_8.length ≤ c0_8) (hr0_9 : Kd.C k95 w A0_9 l0_9.length l0_9) (hc0_9 : l0_9.length ≤ c0_9) (hr0_10 : Kd.C k82 w A0_10 l0_10.length l0_10) (hc0_10 : l0_10.length ≤ c0_10) (h : dioramaref20_Rate.f k a0_0 a0_1 a0_2 a0_3 l0_4 a0_5 a0_6 a0_7 l0_8 l0_9 l0_10 = some (r1, r2, r3)) :
    Calls Try.prog 30 #[.agg #[.int .i64 a0_0, .int .i64 a0_1, .string a0_2, .int .i64 a0_3, .slice A0_4 l0_4.length c0_4, .string a0_5, .string a0_6, .int .i64 a0_7, .slice A0_8 l0_8.length c0_8, .slice A0_9 l0_9.length c0_9, .slice A0_10 l0_10.length c0_10]] w fun e w' => e = .returned (.tuple #[.agg #[.int .i64 r1, .bool r2], .int .i64 r3]) ∧ Below w.heap.size w w' := by
  have hu52 := Try.underlying52
  have hu23 := Try.underlying23
  have HR0_4 := Aside0.mk hr0_4
  have HC0_4 := Aside0.mk hc0_4
  clear hr0_4 hc0_4
  have HR0_8 := Aside0.mk hr0_8
  have HC0_8 := Aside0.mk hc0_8
  clear hr0_8 hc0_8
  have HR0_9 := Aside0.mk hr0_9
  have HC0_9 := Aside0.mk hc0_9
  clear hr0_9 hc0_9
  have HR0_10 := Aside0.mk hr0_10
  have HC0_10 := Aside0.mk hc0_10
  clear hr0_10 hc0_10
  have HB := Aside0.mk (Below.refl w.heap.size w)
  have H : (if a0_1 = 6 then (dioramaref20_Rate.j0 k (a0_2.toList != ([116, 109, 99, 49] : List UInt8)) a0_0 a0_1 a0_2 a0_3 l0_4 a0_5 a0_6 a0_7 l0_8 l0_9 l0_10) else (dioramaref20_Rate.j0 k true a0_0 a0_1 a0_2 a0_3 l0_4 a0_5 a0_6 a0_7 l0_8 l0_9 l0_10)) = some (r1, r2, r3) := h
  clear h
  have HC2 := Aside0.mk H
  clear H
  go_enter Try.func30, Try.ntmps30
  go_upto_region 1 with (first | ((with_reducible refine gate_dst (N := 1) rfl ?_); refine box_event ?hg (N := 1) ?hd (cs := #[.int .i64 a0_0, .int .i64 a0_1, .string a0_2, .int .i64 a0_3, .slice A0_4 l0_4.length c0_4, .string a0_5, .string a0_6, .int .i64 a0_7, .slice A0_8 l0_8.length c0_8, .slice A0_9 l0_9.length c0_9, .slice A0_10 l0_10.length c0_10]) (t := 52) ?hr ?_; (case hd => rfl); (case hg => rfl); (case hr => first | (go_simp; done) | (go_simp; rfl)); intro gb399 hg w3 hbox hb; have n0_ := Aside0.mk (below_step (by repeat (first | (with_reducible first | exact HB.out | apply below_alloc | apply pw_below_drewN | apply below_drew1) | exact HB.out)) hb); have n1_ := Aside0.mk (hbox); have n2_ := Aside0.mk ((by rw [hg]; exact (below_size (by repeat (first | (with_reducible first | exact HB.out | apply below_alloc | apply pw_below_drewN | apply below_drew1) | exact HB.out))) : w.heap.size ≤ gb399)); have n3_ := Aside0.mk ((by rw [hg]; exact (below_size (by repeat (first | (with_reducible first | exact HB.out | apply below_alloc | apply pw_below_drewN | apply below_drew1) | exact HB.out))) : w.heap.size ≤ gb399)); clear HB; have HB := n0_; have BK399 := n1_; have GW399 := n2_; have GE399 := n3_; clear n0_ n1_ n2_ n3_; clear hb hbox hg) | ((with_reducible refine gate_dst (N := 2) rfl ?_); refine box_event ?hg (N := 2) ?hd (cs := #[.int .i64 0, .bool false]) (t := 23) ?hr ?_; (case hd => rfl); (case hg => rfl); (case hr => first | (go_simp; done) | (go_simp; rfl)); intro gb400 hg w4 hbox hb; have n0_ := Aside0.mk (blk_below (g := gb399) (o := .cells #[.int .i64 a0_0, .int .i64 a0_1, .string a0_2, .int .i64 a0_3, .slice A0_4 l0_4.length c0_4, .string a0_5, .string a0_6, .int .i64 a0_7, .slice A0_8 l0_8.length c0_8, .slice A0_9 l0_9.length c0_9, .slice A0_10 l0_10.length c0_10] 52 (0, 0)) (by (with_reducible repeat (first | refine blk_drewN ?_ _ | refine blk_drew ?_ | refine blk_alloc ?_ _)); exact BK399.out) hb); have n1_ := Aside0.mk (below_step (by repeat (first | (with_reducible first | exact HB.out | apply below_alloc | apply pw_below_drewN | apply below_drew1 | refine below_set ?_ GE399.out) | exact HB.out)) hb); have n2_ := Aside0.mk (hbox); have n3_ := Aside0.mk ((by rw [hg]; exact (below_size (by repeat (first | (with_reducible first | exact HB.out | apply below_alloc | apply pw_below_drewN | apply below_drew1 | refine below_set ?_ GE399.out) | exact HB.out))) : w.heap.size ≤ gb400)); have n4_ := Aside0.mk ((by rw [hg]; exact (below_size (by repeat (first | (with_reducible first | exact HB.out | apply below_alloc | apply pw_below_drewN | apply below_drew1 | refine below_set ?_ GE399.out) | exact HB.out))) : w.heap.size ≤ gb400)); have n5_ := Aside0.mk ((by rw [hg]; exact Nat.ne_of_lt (blk_lt (g := gb399) (o := .cells #[.int .i64 a0_0, .int .i64 a0_1, .string a0_2, .int .i64 a0_3, .slice A0_4 l0_4.length c0_4, .string a0_5, .string a0_6, .int .i64 a0_7, .slice A0_8 l0_8.length c0_8, .slice A0_9 l0_9.length c0_9, .slice A0_10 l0_10.length c0_10] 52 (0, 0)) (by (with_reducible repeat (first | refine blk_drewN ?_ _ | refine blk_drew ?_ | refine blk_alloc ?_ _)); exact BK399.out)) : gb399 ≠ gb400)); have n6_ := Aside0.mk ((by rw [hg]; exact Nat.ne_of_gt (blk_lt (g := gb399) (o := .cells #[.int .i64 a0_0, .int .i64 a0_1, .string a0_2, .int .i64 a0_3, .slice A0_4 l0_4.length c0_4, .string a0_5, .string a0_6, .int .i64 a0_7, .slice A0_8 l0_8.length c0_8, .slice A0_9 l0_9.length c0_9, .slice A0_10 l0_10.length c0_10] 52 (0, 0)) (by (with_reducible repeat (first | refine blk_drewN ?_ _ | refine blk_drew ?_ | refine blk_alloc ?_ _)); exact BK399.out)) : gb400 ≠ gb399)); clear BK399; clear HB; have BK399 := n0_; have HB := n1_; have BK400 := n2_; have GW400 := n3_; have GE400 := n4_; have NB399_400 := n5_; have NB400_399 := n6_; clear n0_ n1_ n2_ n3_ n4_ n5_ n6_; clear hb hbox hg))
  (try simp only [Act.put, List.setIfInBounds_toArray, List.set_cons_zero, List.set_cons_succ])
  go_cut [13] (fun v13 wc => ∃ (kq : Nat) (x13_1 : Bool), v13 = .bool x13_1 ∧ Aside0 (dioramaref20_Rate.j0 kq x13_1 a0_0 a0_1 a0_2 a0_3 l0_4 a0_5 a0_6 a0_7 l0_8 l0_9 l0_10 = some (r1, r2, r3)) ∧ Aside0 (kq ≤ k) ∧ Aside0 (wc.heap[gb399]? = some (.cells #[.int .i64 a0_0, .int .i64 a0_1, .string a0_2, .int .i64 a0_3, (.slice A0_4 l0_4.length c0_4), .string a0_5, .string a0_6, .int .i64 a0_7, (.slice A0_8 l0_8.length c0_8), (.slice A0_9 l0_9.length c0_9), (.slice A0_10 l0_10.length c0_10)] 52 (0, 0))) ∧ Aside0 (wc.heap[gb400]? = some (.cells #[.int .i64 0, .bool false] 23 (0, 0))) ∧ Aside0 (Below w.heap.size w wc))
  case first =>
    have H := HC2.out
    clear HC2
    by_cases c5 : a0_1 = 6
    · rw [if_pos c5] at H
      have c5b0 : (a0_1 == 6) = true := beq_iff_eq.mpr c5
      have c5b1 : (a0_1 != 6) = false := bne_eq_false_iff_eq.mpr c5
      clear c5
      (first | rw [c5b0] | (simp only [i64_w, i32_w]; rw [c5b0]) | skip)
      have H' := Aside0.mk H
      clear H
      have hnb6 := NB399_400.out
      have hnc6 := NB400_399.out
      have hcz7_0 : w4.cell? ⟨gb399, 0, none⟩ = some (.int .i64 a0_0) := (blk_cell BK399.out 0).trans rfl
      have hcz7_1 : w4.cell? ⟨gb399, 1, none⟩ = some (.int .i64 a0_1) := (blk_cell BK399.out 1).trans rfl
      have hcz7_2 : w4.cell? ⟨gb399, 2, none⟩ = some (.string a0_2) := (blk_cell BK399.out 2).trans rfl
      have hcz7_3 : w4.cell? ⟨gb399, 3, none⟩ = some (.int .i64 a0_3) := (blk_cell BK399.out 3).trans rfl
      have hcz7_4 : w4.cell? ⟨gb399, 4, none⟩ = some (.slice A0_4 l0_4.length c0_4) := (blk_cell BK399.out 4).trans rfl
      have hcz7_5 : w4.cell? ⟨gb399, 5, none⟩ = some (.string a0_5) := (blk_cell BK399.out 5).trans rfl
      have hcz7_6 : w4.cell? ⟨gb399, 6, none⟩ = some (.string a0_6) := (blk_cell BK399.out 6).trans rfl
      have hcz7_7 : w4.cell? ⟨gb399, 7, none⟩ = some (.int .i64 a0_7) := (blk_cell BK399.out 7).trans rfl
      have hcz7_8 : w4.cell? ⟨gb399, 8, none⟩ = some (.slice A0_8 l0_8.length c0_8) := (blk_cell BK399.out 8).trans rfl
      have hcz7_9 : w4.cell? ⟨gb399, 9, none⟩ = some (.slice A0_9 l0_9.length c0_9) := (blk_cell BK399.out 9).trans rfl
      have hcz7_10 : w4.cell? ⟨gb399, 10, none⟩ = some (.slice A0_10 l0_10.length c0_10) := (blk_cell BK399.out 10).trans rfl
      have hfz7_0 := blk_frozen BK399.out 0
      have hfz7_1 := blk_frozen BK399.out 1
      have hfz7_2 := blk_frozen BK399.out 2
      have hfz7_3 := blk_frozen BK399.out 3
      have hfz7_4 := blk_frozen BK399.out 4
      have hfz7_5 := blk_frozen BK399.out 5
      have hfz7_6 := blk_frozen BK399.out 6
      have hfz7_7 := blk_frozen BK399.out 7
      have hfz7_8 := blk_frozen BK399.out 8
      have hfz7_9 := blk_frozen BK399.out 9
      have hfz7_10 := blk_frozen BK399.out 10
      go_wp2
      go_meet
      case rel => exact ⟨_, ((a0_2.toList != ([116, 109, 99, 49] : List UInt8))), (by first | rfl | (simp; done) | (simp [*]; done)), H', ⟨by first | omega | exact Nat.le_refl _⟩, ⟨by (with_reducible repeat (first | refine blk_drewN ?_ _ | refine blk_drew ?_ | refine blk_alloc ?_ _)); exact BK399.out⟩, ⟨by (with_reducible repeat (first | refine blk_drewN ?_ _ | refine blk_drew ?_ | refine blk_alloc ?_ _)); exact BK400.out⟩, ⟨by repeat (first | (with_reducible first | exact HB.out | apply below_alloc | apply pw_below_drewN | apply below_drew1 | refine below_set ?_ GE399.out | refine below_set ?_ GE400.out) | exact HB.out)⟩⟩
    · rw [if_neg c5] at H
      have c5b0 : (a0_1 == 6) = false := beq_eq_false_iff_ne.mpr c5
      have c5b1 : (a0_1 != 6) = true := bne_iff_ne.mpr c5
      (first | rw [c5b0] | (simp only [i64_w, i32_w]; rw [c5b0]) | skip)
      have H' := Aside0.mk H
      clear H
      have hnb8 := NB399_400.out
      have hnc8 := NB400_399.out
      have hcz9_0 : w4.cell? ⟨gb399, 0, none⟩ = some (.int .i64 a0_0) := (blk_cell BK399.out 0).trans rfl
      have hcz9_1 : w4.cell? ⟨gb399, 1, none⟩ = some (.int .i64 a0_1) := (blk_cell BK399.out 1).trans rfl
      have hcz9_2 : w4.cell? ⟨gb399, 2, none⟩ = some (.string a0_2) := (blk_cell BK399.out 2).trans rfl
      have hcz9_3 : w4.cell? ⟨gb399, 3, none⟩ = some (.int .i64 a0_3) := (blk_cell BK399.out 3).trans rfl
      have hcz9_4 : w4.cell? ⟨gb399, 4, none⟩ = some (.slice A0_4 l0_4.length c0_4) := (blk_cell BK399.out 4).trans rfl
      have hcz9_5 : w4.cell? ⟨gb399, 5, none⟩ = some (.string a0_5) := (blk_cell BK399.out 5).trans rfl
      have hcz9_6 : w4.cell? ⟨gb399, 6, none⟩ = some (.string a0_6) := (blk_cell BK399.out 6).trans rfl
      have hcz9_7 : w4.cell? ⟨gb399, 7, none⟩ = some (.int .i64 a0_7) := (blk_cell BK399.out 7).trans rfl
      have hcz9_8 : w4.cell? ⟨gb399, 8, none⟩ = some (.slice A0_8 l0_8.length c0_8) := (blk_cell BK399.out 8).trans rfl
      have hcz9_9 : w4.cell? ⟨gb399, 9, none⟩ = some (.slice A0_9 l0_9.length c0_9) := (blk_cell BK399.out 9).trans rfl
      have hcz9_10 : w4.cell? ⟨gb399, 10, none⟩ = some (.slice A0_10 l0_10.length c0_10) := (blk_cell BK399.out 10).trans rfl
      have hfz9_0 := blk_frozen BK399.out 0
      have hfz9_1 := blk_frozen BK399.out 1
      have hfz9_2 := blk_frozen BK399.out 2
      have hfz9_3 := blk_frozen BK399.out 3
      have hfz9_4 := blk_frozen BK399.out 4
      have hfz9_5 := blk_frozen BK399.out 5
      have hfz9_6 := blk_frozen BK399.out 6
      have hfz9_7 := blk_frozen BK399.out 7
      have hfz9_8 := blk_frozen BK399.out 8
      have hfz9_9 := blk_frozen BK399.out 9
      have hfz9_10 := blk_frozen BK399.out 10
      go_wp2
      go_meet
      case rel => exact ⟨_, (true), (by first | rfl | (simp; done) | (simp [*]; done)), H', ⟨by first | omega | exact Nat.le_refl _⟩, ⟨by (with_reducible repeat (first | refine blk_drewN ?_ _ | refine blk_drew ?_ | refine blk_alloc ?_ _)); exact BK399.out⟩, ⟨by (with_reducible repeat (first | refine blk_drewN ?_ _ | refine blk_drew ?_ | refine blk_alloc ?_ _)); exact BK400.out⟩, ⟨by repeat (first | (with_reducible first | exact HB.out | apply below_alloc | apply pw_below_drewN | apply below_drew1 | refine below_set ?_ GE399.out | refine below_set ?_ GE400.out) | exact HB.out)⟩⟩
  case rest =>
    clear HC2
    try clear p2
    try clear c3
    try clear c5
    try clear c5b0
    try clear c5b1
    try clear c6
    try clear c8
    try clear hcz7_0
    try clear hcz7_1
    try clear hcz7_10
    try clear hcz7_2
    try clear hcz7_3
    try clear hcz7_4
    try clear hcz7_5
    try clear hcz7_6
    try clear hcz7_7
    try clear hcz7_8
    try clear hcz7_9
    try clear hcz9_0
    try clear hcz9_1
    try clear hcz9_10
    try clear hcz9_2
    try clear hcz9_3
    try clear hcz9_4
    try clear hcz9_5
    try clear hcz9_6
    try clear hcz9_7
    try clear hcz9_8
    try clear hcz9_9
    try clear hfz7_0
    try clear hfz7_1
    try clear hfz7_10
    try clear hfz7_2
    try clear hfz7_3
    try clear hfz7_4
    try clear hfz7_5
    try clear hfz7_6
    try clear hfz7_7
    try clear hfz7_8
    try clear hfz7_9
    try clear hfz9_0
    try clear hfz9_1
    try clear hfz9_10
    try clear hfz9_2
    try clear hfz9_3
    try clear hfz9_4
    try clear hfz9_5
    try clear hfz9_6
    try clear hfz9_7
    try clear hfz9_8
    try clear hfz9_9
    obtain ⟨kq, x13_1, rfl, HA, HJ1, BK399, BK400, HB⟩ := hcut
    cases kq with
    | zero => exact absurd HA.out (by simp [dioramaref20_Rate.j0])
    | succ kj1 =>
      have H := HA.out
      clear HA
      simp only [dioramaref20_Rate.j0] at H
      by_cases c10 : x13_1 = true
      · subst c10
        have H1 : (some (0, false, 7)) = some (r1, r2, r3) := by rw [if_pos rfl] at H; exact H
        clear H
        have H := H1
        clear H1
        simp only [Option.some.injEq, Prod.mk.injEq] at H
        obtain ⟨rfl, rfl, rfl⟩ := H
        have hnb11 := NB400_399.out
        have hnc11 := NB399_400.out
        have hcz12_0 : wc.cell? ⟨gb400, 0, none⟩ = some (.int .i64 0) := (blk_cell BK400.out 0).trans rfl
        have hcz12_1 : wc.cell? ⟨gb400, 1, none⟩ = some (.bool false) := (blk_cell BK400.out 1).trans rfl
        have hfz12_0 := blk_frozen BK400.out 0
        have hfz12_1 := blk_frozen BK400.out 1
        go_wp2
        refine bodyPost_ret (results_ct rfl _ _ gb400 23 #[.int .i64 0, .bool false] (0, 0) _ rfl (by (with_reducible repeat (first | refine blk_drewN ?_ _ | refine blk_drew ?_ | refine blk_alloc ?_ _)); refine blk_put (cs := #[.int .i64 0, .bool false]) ?_ 1 _ rfl; (with_reducible repeat (first | refine blk_drewN ?_ _ | refine blk_drew ?_ | refine blk_alloc ?_ _)); refine blk_put (cs := #[.int .i64 0, .bool false]) ?_ 0 _ rfl; (with_reducible repeat (first | refine blk_drewN ?_ _ | refine blk_drew ?_ | refine blk_alloc ?_ _)); exact BK400.out) Try.underlying23 rfl (by kernel_rfl)) rfl ?_
        exact ⟨by first | rfl | (simp [errW_none, errW_some] <;> rfl) | (simp [*, errW_none, errW_some] <;> rfl), by repeat (first | (with_reducible first | exact HB.out | apply below_alloc | apply pw_below_drewN | apply below_drew1 | refine below_set ?_ GE399.out | refine below_set ?_ GE400.out) | exact HB.out)⟩
      · replace c10 := Bool.eq_false_iff.mpr c10
        subst c10
        have H1 : (if (l0_4.length : Int) = 2 then (if 1 < (l0_4.length : Int) then (dioramaref20_Rate.j1 kj1 (decide ((rd l0_4 1) > 1)) a0_0 a0_1 a0_2 a0_3 l0_4 a0_5 a0_6 a0_7 l0_8 l0_9 l0_10) else (none)) else (dioramaref20_Rate.j1 kj1 true a0_0 a0_1 a0_2 a0_3 l0_4 a0_5 a0_6 a0_7 l0_8 l0_9 l0_10)) = some (r1, r2, r3) := by rw [if_neg (show ¬ (false = true) by decide)] at H; exact H
        clear H
        have H := H1
        clear H1
        have HC13 := Aside0.mk H
        clear H
        go_upto_region 3 with (fail)
        go_cut [25] (fun v25 wc => ∃ (kq : Nat) (x25_12 : Bool), v25 = .bool x25_12 ∧ Aside0 (dioramaref20_Rate.j1 kq x25_12 a0_0 a0_1 a0_2 a0_3 l0_4 a0_5 a0_6 a0_7 l0_8 l0_9 l0_10 = some (r1, r2, r3)) ∧ Aside0 (kq ≤ kj1) ∧ Aside0 (wc.heap[gb399]? = some (.cells #[.int .i64 a0_0, .int .i64 a0_1, .string a0_2, .int .i64 a0_3, (.slice A0_4 l0_4.length c0_4), .string a0_5, .string a0_6, .int .i64 a0_7, (.slice A0_8 l0_8.length c0_8), (.slice A0_9 l0_9.length c0_9), (.slice A0_10 l0_10.length c0_10)] 52 (0, 0))) ∧ Aside0 (wc.heap[gb400]? = some (.cells #[.int .i64 0, .bool false] 23 (0, 0))) ∧ Aside0 (Below w.heap.size w wc))
        case first =>
          have H := HC13.out
          clear HC13
          by_cases c14 : (l0_4.length : Int) = 2
          · rw [if_pos c14] at H
            have c14b0 : ((l0_4.length : Int) == 2) = true := beq_iff_eq.mpr c14
            have c14b1 : ((l0_4.length : Int) != 2) = false := bne_eq_false_iff_eq.mpr c14
            clear c14
            (first | rw [c14b0] | (simp only [i64_w, i32_w]; rw [c14b0]) | skip)
            by_cases c15 : 1 < (l0_4.length : Int)
            · rw [if_pos c15] at H
              have c15b0 : decide (1 < (l0_4.length : Int)) = true := decide_eq_true c15
              have c15b1 : decide (1 < l0_4.length) = true := decide_eq_true (by omega)
              clear c15
              have H' := Aside0.mk H
              clear H
              have hnb16 := NB399_400.out
              have hnc16 := NB400_399.out
              have hcz17_0 : wc.cell? ⟨gb399, 0, none⟩ = some (.int .i64 a0_0) := (blk_cell BK399.out 0).trans rfl
              have hcz17_1 : wc.cell? ⟨gb399, 1, none⟩ = some (.int .i64 a0_1) := (blk_cell BK399.out 1).trans rfl
              have hcz17_2 : wc.cell? ⟨gb399, 2, none⟩ = some (.string a0_2) := (blk_cell BK399.out 2).trans rfl
              have hcz17_3 : wc.cell? ⟨gb399, 3, none⟩ = some (.int .i64 a0_3) := (blk_cell BK399.out 3).trans rfl
              have hcz17_4 : wc.cell? ⟨gb399, 4, none⟩ = some (.slice A0_4 l0_4.length c0_4) := (blk_cell BK399.out 4).trans rfl
              have hcz17_5 : wc.cell? ⟨gb399, 5, none⟩ = some (.string a0_5) := (blk_cell BK399.out 5).trans rfl
              have hcz17_6 : wc.cell? ⟨gb399, 6, none⟩ = some (.string a0_6) := (blk_cell BK399.out 6).trans rfl
              have hcz17_7 : wc.cell? ⟨gb399, 7, none⟩ = some (.int .i64 a0_7) := (blk_cell BK399.out 7).trans rfl
              have hcz17_8 : wc.cell? ⟨gb399, 8, none⟩ = some (.slice A0_8 l0_8.length c0_8) := (blk_cell BK399.out 8).trans rfl
              have hcz17_9 : wc.cell? ⟨gb399, 9, none⟩ = some (.slice A0_9 l0_9.length c0_9) := (blk_cell BK399.out 9).trans rfl
              have hcz17_10 : wc.cell? ⟨gb399, 10, none⟩ = some (.slice A0_10 l0_10.length c0_10) := (blk_cell BK399.out 10).trans rfl
              have hfz17_0 := blk_frozen BK399.out 0
              have hfz17_1 := blk_frozen BK399.out 1
              have hfz17_2 := blk_frozen BK399.out 2
              have hfz17_3 := blk_frozen BK399.out 3
              have hfz17_4 := blk_frozen BK399.out 4
              have hfz17_5 := blk_frozen BK399.out 5
              have hfz17_6 := blk_frozen BK399.out 6
              have hfz17_7 := blk_frozen BK399.out 7
              have hfz17_8 := blk_frozen BK399.out 8
              have hfz17_9 := blk_frozen BK399.out 9
              have hfz17_10 := blk_frozen BK399.out 10
              have p401 : 0 ≤ (1 : Int) := (by omega)
              have q401 : 1 < (l0_4.length : Int) := of_decide_eq_true (by first | (with_reducible assumption) | assumption)
              obtain ⟨ad401, e401, hx401_0⟩ := Kd.at_int HR0_4.out 1 p401 q401
              cases e401
              (try simp only [show (1 : Int).toNat = 1 from rfl, Nat.reduceMul, Nat.reduceEqDiff, Go.Addr.add, ↓reduceIte] at hx401_0)
              have qi401 : (1 < l0_4.length) = True := eq_true (by omega)
              (try rw [show ((1 : Int)).toNat = 1 from rfl] at hx401_0)
              replace hx401_0 := (HB.out.cell (World.block_lt_of_cell? w _ hx401_0)).trans hx401_0
              replace p401 := eq_true p401
              replace q401 := eq_true q401
              go_wp2
              go_meet
              case rel => exact ⟨_, (decide ((rd l0_4 1) > 1)), (by first | rfl | (simp; done) | (simp [*]; done)), H', ⟨by have := HJ1.out; first | omega | exact Nat.le_refl _⟩, ⟨by (with_reducible repeat (first | refine blk_drewN ?_ _ | refine blk_drew ?_ | refine blk_alloc ?_ _)); exact BK399.out⟩, ⟨by (with_reducible repeat (first | refine blk_drewN ?_ _ | refine blk_drew ?_ | refine blk_alloc ?_ _)); exact BK400.out⟩, ⟨by repeat (first | (with_reducible first | exact HB.out | apply below_alloc | apply pw_below_drewN | apply below_drew1 | refine below_set ?_ GE399.out | refine below_set ?_ GE400.out) | exact HB.out)⟩⟩
            · rw [if_neg c15] at H
              exact absurd H (by simp)
          · rw [if_neg c14] at H
            have c14b0 : ((l0_4.length : Int) == 2) = false := beq_eq_false_iff_ne.mpr c14
            have c14b1 : ((l0_4.length : Int) != 2) = true := bne_iff_ne.mpr c14
            (first | rw [c14b0] | (simp only [i64_w, i32_w]; rw [c14b0]) | skip)
            have H' := Aside0.mk H
            clear H
            have hnb18 := NB399_400.out
            have hnc18 := NB400_399.out
            have hcz19_0 : wc.cell? ⟨gb399, 0, none⟩ = some (.int .i64 a0_0) := (blk_cell BK399.out 0).trans rfl
            have hcz19_1 : wc.cell? ⟨gb399, 1, none⟩ = some (.int .i64 a0_1) := (blk_cell BK399.out 1).trans rfl
            have hcz19_2 : wc.cell? ⟨gb399, 2, none⟩ = some (.string a0_2) := (blk_cell BK399.out 2).trans rfl
            have hcz19_3 : wc.cell? ⟨gb399, 3, none⟩ = some (.int .i64 a0_3) := (blk_cell BK399.out 3).trans rfl
            have hcz19_4 : wc.cell? ⟨gb399, 4, none⟩ = some (.slice A0_4 l0_4.length c0_4) := (blk_cell BK399.out 4).trans rfl
            have hcz19_5 : wc.cell? ⟨gb399, 5, none⟩ = some (.string a0_5) := (blk_cell BK399.out 5).trans rfl
            have hcz19_6 : wc.cell? ⟨gb399, 6, none⟩ = some (.string a0_6) := (blk_cell BK399.out 6).trans rfl
            have hcz19_7 : wc.cell? ⟨gb399, 7, none⟩ = some (.int .i64 a0_7) := (blk_cell BK399.out 7).trans rfl
            have hcz19_8 : wc.cell? ⟨gb399, 8, none⟩ = some (.slice A0_8 l0_8.length c0_8) := (blk_cell BK399.out 8).trans rfl
            have hcz19_9 : wc.cell? ⟨gb399, 9, none⟩ = some (.slice A0_9 l0_9.length c0_9) := (blk_cell BK399.out 9).trans rfl
            have hcz19_10 : wc.cell? ⟨gb399, 10, none⟩ = some (.slice A0_10 l0_10.length c0_10) := (blk_cell BK399.out 10).trans rfl
            have hfz19_0 := blk_frozen BK399.out 0
            have hfz19_1 := blk_frozen BK399.out 1
            have hfz19_2 := blk_frozen BK399.out 2
            have hfz19_3 := blk_frozen BK399.out 3
            have hfz19_4 := blk_frozen BK399.out 4
            have hfz19_5 := blk_frozen BK399.out 5
            have hfz19_6 := blk_frozen BK399.out 6
            have hfz19_7 := blk_frozen BK399.out 7
            have hfz19_8 := blk_frozen BK399.out 8
            have hfz19_9 := blk_frozen BK399.out 9
            have hfz19_10 := blk_frozen BK399.out 10
            go_wp2
            go_meet
            case rel => exact ⟨_, (true), (by first | rfl | (simp; done) | (simp [*]; done)), H', ⟨by have := HJ1.out; first | omega | exact Nat.le_refl _⟩, ⟨by (with_reducible repeat (first | refine blk_drewN ?_ _ | refine blk_drew ?_ | refine blk_alloc ?_ _)); exact BK399.out⟩, ⟨by (with_reducible repeat (first | refine blk_drewN ?_ _ | refine blk_drew ?_ | refine blk_alloc ?_ _)); exact BK400.out⟩, ⟨by repeat (first | (with_reducible first | exact HB.out | apply below_alloc | apply pw_below_drewN | apply below_drew1 | refine below_set ?_ GE399.out | refine below_set ?_ GE400.out) | exact HB.out)⟩⟩
        case rest =>
          clear HC13
          try clear c1
          try clear p2
          try clear c3
          try clear p4
          try clear q4
          try clear hx4
          try clear qi4
          try clear c5
          try clear c5b0
          try clear c5b1
          try clear c6
          try clear c8
          try clear c10
          try clear c11
          try clear c14
          try clear c14b0
          try clear c14b1
          try clear c15
          try clear c15b0
          try clear c15b1
          try clear c16
          try clear c18
          try clear hcz12_0
          try clear hcz12_1
          try clear hcz17_0
          try clear hcz17_1
          try clear hcz17_10
          try clear hcz17_2
          try clear hcz17_3
          try clear hcz17_4
          try clear hcz17_5
          try clear hcz17_6
          try clear hcz17_7
          try clear hcz17_8
          try clear hcz17_9
          try clear hcz19_0
          try clear hcz19_1
          try clear hcz19_10
          try clear hcz19_2
          try clear hcz19_3
          try clear hcz19_4
          try clear hcz19_5
          try clear hcz19_6
          try clear hcz19_7
          try clear hcz19_8
          try clear hcz19_9
          try clear hcz7_0
          try clear hcz7_1
          try clear hcz7_10
          try clear hcz7_2
          try clear hcz7_3
          try clear hcz7_4
          try clear hcz7_5
          try clear hcz7_6
          try clear hcz7_7
          try clear hcz7_8
          try clear hcz7_9
          try clear hcz9_0
          try clear hcz9_1
          try clear hcz9_10
          try clear hcz9_2
          try clear hcz9_3
          try clear hcz9_4
          try clear hcz9_5
          try clear hcz9_6
          try clear hcz9_7
          try clear hcz9_8
          try clear hcz9_9
          try clear hfz12_0
          try clear hfz12_1
          try clear hfz17_0
          try clear hfz17_1
          try clear hfz17_10
          try clear hfz17_2
          try clear hfz17_3
          try clear hfz17_4
          try clear hfz17_5
          try clear hfz17_6
          try clear hfz17_7
          try clear hfz17_8
          try clear hfz17_9
          try clear hfz19_0
          try clear hfz19_1
          try clear hfz19_10
          try clear hfz19_2
          try clear hfz19_3
          try clear hfz19_4
          try clear hfz19_5
          try clear hfz19_6
          try clear hfz19_7
          try clear hfz19_8
          try clear hfz19_9
          try clear hfz7_0
          try clear hfz7_1
          try clear hfz7_10
          try clear hfz7_2
          try clear hfz7_3
          try clear hfz7_4
          try clear hfz7_5
          try clear hfz7_6
          try clear hfz7_7
          try clear hfz7_8
          try clear hfz7_9
          try clear hfz9_0
          try clear hfz9_1
          try clear hfz9_10
          try clear hfz9_2
          try clear hfz9_3
          try clear hfz9_4
          try clear hfz9_5
          try clear hfz9_6
          try clear hfz9_7
          try clear hfz9_8
          try clear hfz9_9
          try clear hx401_0
          try clear p2
          try clear p401
          try clear q401
          obtain ⟨kq, x25_12, rfl, HA, HJ12, BK399, BK400, HB⟩ := hcut
          cases kq with
          | zero => exact absurd HA.out (by simp [dioramaref20_Rate.j1])
          | succ kj12 =>
            have H := HA.out
            clear HA
            simp only [dioramaref20_Rate.j1] at H
            by_cases c20 : x25_12 = true
            · subst c20
              have H1 : (some (0, false, 4)) = some (r1, r2, r3) := by rw [if_pos rfl] at H; exact H
              clear H
              have H := H1
              clear H1
              simp only [Option.some.injEq, Prod.mk.injEq] at H
              obtain ⟨rfl, rfl, rfl⟩ := H
              have hnb21 := NB400_399.out
              have hnc21 := NB399_400.out
              have hcz22_0 : wc.cell? ⟨gb400, 0, none⟩ = some (.int .i64 0) := (blk_cell BK400.out 0).trans rfl
              have hcz22_1 : wc.cell? ⟨gb400, 1, none⟩ = some (.bool false) := (blk_cell BK400.out 1).trans rfl
              have hfz22_0 := blk_frozen BK400.out 0
              have hfz22_1 := blk_frozen BK400.out 1
              go_wp2
              refine bodyPost_ret (results_ct rfl _ _ gb400 23 #[.int .i64 0, .bool false] (0, 0) _ rfl (by (with_reducible repeat (first | refine blk_drewN ?_ _ | refine blk_drew ?_ | refine blk_alloc ?_ _)); refine blk_put (cs := #[.int .i64 0, .bool false]) ?_ 1 _ rfl; (with_reducible repeat (first | refine blk_drewN ?_ _ | refine blk_drew ?_ | refine blk_alloc ?_ _)); refine blk_put (cs := #[.int .i64 0, .bool false]) ?_ 0 _ rfl; (with_reducible repeat (first | refine blk_drewN ?_ _ | refine blk_drew ?_ | refine blk_alloc ?_ _)); exact BK400.out) Try.underlying23 rfl (by kernel_rfl)) rfl ?_
              exact ⟨by first | rfl | (simp [errW_none, errW_some] <;> rfl) | (simp [*, errW_none, errW_some] <;> rfl), by repeat (first | (with_reducible first | exact HB.out | apply below_alloc | apply pw_below_drewN | apply below_drew1 | refine below_set ?_ GE399.out | refine below_set ?_ GE400.out) | exact HB.out)⟩
            · replace c20 := Bool.eq_false_iff.mpr c20
              subst c20
              have H1 : (if 0 < (l0_4.length : Int) then (if 1 < (l0_4.length : Int) then ((dioramaref20_Check.f (wrap64 (rd l0_4 0)) ((rd l0_4 1) == 1)).bind fun t405 => (if t405 = 0 then (some (wrap64 (rd l0_4 0), ((rd l0_4 1) == 1), 0)) else (some (0, false, t405)))) else (none)) else (none)) = some (r1, r2, r3) := by rw [if_neg (show ¬ (false = true) by decide)] at H; exact H
              clear H
              have H := H1
              clear H1
              by_cases c23 : 0 < (l0_4.length : Int)
              · rw [if_pos c23] at H
                have c23b0 : decide (0 < (l0_4.length : Int)) = true := decide_eq_true c23
                have c23b1 : decide (0 < l0_4.length) = true := decide_eq_true (by omega)
                clear c23
                by_cases c24 : 1 < (l0_4.length : Int)
                · rw [if_pos c24] at H
                  have c24b0 : decide (1 < (l0_4.length : Int)) = true := decide_eq_true c24
                  have c24b1 : decide (1 < l0_4.length) = true := decide_eq_true (by omega)
                  clear c24
                  replace H := Option.bind_eq_some_iff.mp H
                  obtain ⟨t405, A250, H⟩ := H
                  replace H : (if t405 = 0 then (some (wrap64 (rd l0_4 0), ((rd l0_4 1) == 1), 0)) else (some (0, false, t405))) = some (r1, r2, r3) := H
                  have A25 := Aside0.mk A250
                  clear A250
                  by_cases c26 : t405 = 0
                  · rw [if_pos c26] at H
                    have c26b0 : (t405 == 0) = true := beq_iff_eq.mpr c26
                    have c26b1 : (t405 != 0) = false := bne_eq_false_iff_eq.mpr c26
                    clear c26
                    simp only [Option.some.injEq, Prod.mk.injEq] at H
                    obtain ⟨rfl, rfl, rfl⟩ := H
                    try go_wp2
                    have n0_ := Aside0.mk (blk_drew BK399.out)
                    have n1_ := Aside0.mk (blk_drew BK400.out)
                    have n2_ := Aside0.mk (below_drew1 HB.out)
                    clear BK399
                    clear BK400
                    clear HB
                    have BK399 := n0_
                    have BK400 := n1_
                    have HB := n2_
                    clear n0_ n1_ n2_
                    have p402 : 0 ≤ (0 : Int) := (by omega)
                    have q402 : 0 < (l0_4.length : Int) := of_decide_eq_true (by first | (with_reducible assumption) | assumption)
                    obtain ⟨ad402, e402, hx402_0⟩ := Kd.at_int HR0_4.out 0 p402 q402
                    have hw402_0 := hx402_0
                    (try rw [show ((0 : Int)).toNat = 0 from rfl] at hw402_0)
                    (try rw [show 0 * 1 = 0 from rfl] at hw402_0)
                    (try rw [Addr.add_zero'] at hw402_0)
                    cases e402
                    have qi402 : (0 < l0_4.length) = True := eq_true (by omega)
                    (try rw [show ((0 : Int)).toNat = 0 from rfl] at hx402_0)
                    (try rw [Addr.add_zero'] at hx402_0)
                    replace hx402_0 := (HB.out.cell (World.block_lt_of_cell? w _ hx402_0)).trans hx402_0
                    replace p402 := eq_true p402
                    replace q402 := eq_true q402
                    have p403 : 0 ≤ (1 : Int) := (by omega)
                    have q403 : 1 < (l0_4.length : Int) := of_decide_eq_true (by first | (with_reducible assumption) | assumption)
                    obtain ⟨ad403, e403, hx403_0⟩ := Kd.at_int HR0_4.out 1 p403 q403
                    have hw403_0 := hx403_0
                    (try rw [show ((1 : Int)).toNat = 1 from rfl] at hw403_0)
                    (try rw [show 1 * 1 = 1 from rfl] at hw403_0)
                    (try simp only [Nat.reduceMul, Nat.reduceEqDiff, Go.Addr.add, ↓reduceIte] at hw403_0)
                    obtain rfl : ad402 = ad403 := (by injection e403)
                    (try simp only [show (1 : Int).toNat = 1 from rfl, Nat.reduceMul, Nat.reduceEqDiff, Go.Addr.add, ↓reduceIte] at hx403_0)
                    have qi403 : (1 < l0_4.length) = True := eq_true (by omega)
                    (try rw [show ((1 : Int)).toNat = 1 from rfl] at hx403_0)
                    replace hx403_0 := (HB.out.cell (World.block_lt_of_cell? w _ hx403_0)).trans hx403_0
                    replace p403 := eq_true p403
                    replace q403 := eq_true q403
                    refine start_ (n := 13) (S := fun w' => w'.cell? ⟨gb399, 0, none⟩ = some (.int .i64 a0_0) ∧ w'.cell? ⟨gb399, 1, none⟩ = some (.int .i64 a0_1) ∧ w'.cell? ⟨gb399, 2, none⟩ = some (.string a0_2) ∧ w'.cell? ⟨gb399, 3, none⟩ = some (.int .i64 a0_3) ∧ w'.cell? ⟨gb399, 4, none⟩ = some (.slice (some ad402) l0_4.length c0_4) ∧ w'.cell? ⟨gb399, 5, none⟩ = some (.string a0_5) ∧ w'.cell? ⟨gb399, 6, none⟩ = some (.string a0_6) ∧ w'.cell? ⟨gb399, 7, none⟩ = some (.int .i64 a0_7) ∧ w'.cell? ⟨gb399, 8, none⟩ = some (.slice A0_8 l0_8.length c0_8) ∧ w'.cell? ⟨gb399, 9, none⟩ = some (.slice A0_9 l0_9.length c0_9) ∧ w'.cell? ⟨gb399, 10, none⟩ = some (.slice A0_10 l0_10.length c0_10) ∧ w'.cell? ad402 = some (.int .u8 (rd l0_4 0)) ∧ w'.cell? ⟨ad402.block, ad402.off + 1, none⟩ = some (.int .u8 (rd l0_4 1))) (ds := []) #[false, false, false, false, false, false, false, false, false, false, false, false, false] (by kernel_rfl) rfl rfl ⟨(blk_cell BK399.out 0).trans rfl, (blk_cell BK399.out 1).trans rfl, (blk_cell BK399.out 2).trans rfl, (blk_cell BK399.out 3).trans rfl, (blk_cell BK399.out 4).trans rfl, (blk_cell BK399.out 5).trans rfl, (blk_cell BK399.out 6).trans rfl, (blk_cell BK399.out 7).trans rfl, (blk_cell BK399.out 8).trans rfl, (blk_cell BK399.out 9).trans rfl, (blk_cell BK399.out 10).trans rfl, ((HB.out.cell (World.block_lt_of_cell? w _ hw402_0)).trans hw402_0), ((HB.out.cell (World.block_lt_of_cell? w _ hw403_0)).trans hw403_0)⟩ (fun hHeld => ?_); refine with_tabW dioramaref20_Rate.tab5 dioramaref20_Rate.bits5 (fun HT_ HW_ => ?_)
                    generalize wc.drew = w27 at BK399 BK400 HB hx402_0 hx403_0 hHeld ⊢
                    refine pure_ (i := 0) (N := some 27) (v := ?_) (a' := ?_) #[true, false, false, false, false, false, false, false, false, false, false, false, false] rfl rfl (any_of HT_.out (by kernel_rfl)) (fun _ _ _ h => h) (Or.inl ⟨by rfl, ?_⟩) ?_ ?_
                    rotate_left
                    · intro w'
                      go_simp
                      with_reducible rfl
                    rotate_left
                    · simp only [Act.put, List.setIfInBounds_toArray, List.set_cons_zero, List.set_cons_succ, i64_w, i32_w]
                      rfl
                    refine pure_ (i := 5) (N := some 32) (v := ?_) (a' := ?_) #[true, false, false, false, false, true, false, false, false, false, false, false, false] rfl rfl (any_of HT_.out (by kernel_rfl)) (fun _ _ _ h => h) (Or.inl ⟨by rfl, ?_⟩) ?_ ?_
                    rotate_left
                    · intro w'
                      go_simp
                      with_reducible rfl
                    rotate_left
                    · simp only [Act.put, List.setIfInBounds_toArray, List.set_cons_zero, List.set_cons_succ, i64_w, i32_w]
                      rfl
                    refine take_ (i := 1) (N := some 28) (v := ?_) (a' := ?_) #[true, true, false, false, false, true, false, false, false, false, false, false, false] rfl rfl (take_ofW HT_.out HW_.out (by kernel_rfl)) (fun _ _ _ h => h) (Or.inl ⟨by rfl, ?_⟩) hHeld ?_ ?_
                    rotate_left
                    · rintro w' ⟨s0, s1, s2, s3, s4, s5, s6, s7, s8, s9, s10, s11, s12⟩
                      go_simp
                      with_reducible rfl
                    rotate_left
                    · simp only [Act.put, List.setIfInBounds_toArray, List.set_cons_zero, List.set_cons_succ, i64_w, i32_w]
                      rfl
                    refine pure_ (i := 2) (N := some 29) (v := ?_) (a' := ?_) #[true, true, true, false, false, true, false, false, false, false, false, false, false] rfl rfl (any_of HT_.out (by kernel_rfl)) (fun _ _ _ h => h) (Or.inl ⟨by rfl, ?_⟩) ?_ ?_
                    rotate_left
                    · intro w'
                      go_simp
                      with_reducible rfl
                    rotate_left
                    · simp only [Act.put, List.setIfInBounds_toArray, List.set_cons_zero, List.set_cons_succ, i64_w, i32_w]
                      rfl
                    refine take_ (i := 3) (N := some 30) (v := ?_) (a' := ?_) #[true, true, true, true, false, true, false, false, false, false, false, false, false] rfl rfl (take_ofW HT_.out HW_.out (by kernel_rfl)) (fun _ _ _ h => h) (Or.inl ⟨by rfl, ?_⟩) hHeld ?_ ?_
                    rotate_left
                    · rintro w' ⟨s0, s1, s2, s3, s4, s5, s6, s7, s8, s9, s10, s11, s12⟩
                      go_simp
                      with_reducible rfl
                    rotate_left
                    · simp only [Act.put, List.setIfInBounds_toArray, List.set_cons_zero, List.set_cons_succ, i64_w, i32_w]
                      rfl
                    refine pure_ (i := 4) (N := some 31) (v := ?_) (a' := ?_) #[true, true, true, true, true, true, false, false, false, false, false, false, false] rfl rfl (any_of HT_.out (by kernel_rfl)) (fun _ _ _ h => h) (Or.inl ⟨by rfl, ?_⟩) ?_ ?_
                    rotate_left
                    · intro w'
                      go_simp
                      with_reducible rfl
                    rotate_left
                    · simp only [Act.put, List.setIfInBounds_toArray, List.set_cons_zero, List.set_cons_succ, i64_w, i32_w]
                      rfl
                    refine take_ (i := 6) (N := some 33) (v := ?_) (a' := ?_) #[true, true, true, true, true, true, true, false, false, false, false, false, false] rfl rfl (take_ofW HT_.out HW_.out (by kernel_rfl)) (fun _ _ _ h => h) (Or.inl ⟨by rfl, ?_⟩) hHeld ?_ ?_
                    rotate_left
                    · rintro w' ⟨s0, s1, s2, s3, s4, s5, s6, s7, s8, s9, s10, s11, s12⟩
                      go_simp
                      with_reducible rfl
                    rotate_left
                    · simp only [Act.put, List.setIfInBounds_toArray, List.set_cons_zero, List.set_cons_succ, i64_w, i32_w]
                      rfl
                    refine pure_ (i := 7) (N := some 34) (v := ?_) (a' := ?_) #[true, true, true, true, true, true, true, true, false, false, false, false, false] rfl rfl (any_of HT_.out (by kernel_rfl)) (fun _ _ _ h => h) (Or.inl ⟨by rfl, ?_⟩) ?_ ?_
                    rotate_left
                    · intro w'
                      go_simp
                      with_reducible rfl
                    rotate_left
                    · simp only [Act.put, List.setIfInBounds_toArray, List.set_cons_zero, List.set_cons_succ, i64_w, i32_w]
                      rfl
                    refine take_ (i := 8) (N := some 35) (v := ?_) (a' := ?_) #[true, true, true, true, true, true, true, true, true, false, false, false, false] rfl rfl (take_ofW HT_.out HW_.out (by kernel_rfl)) (fun _ _ _ h => h) (Or.inl ⟨by rfl, ?_⟩) hHeld ?_ ?_
                    rotate_left
                    · rintro w' ⟨s0, s1, s2, s3, s4, s5, s6, s7, s8, s9, s10, s11, s12⟩
                      go_simp
                      with_reducible rfl
                    rotate_left
                    · simp only [Act.put, List.setIfInBounds_toArray, List.set_cons_zero, List.set_cons_succ, i64_w, i32_w]
                      rfl
                    refine pure_ (i := 9) (N := some 36) (v := ?_) (a' := ?_) #[true, true, true, true, true, true, true, true, true, true, false, false, false] rfl rfl (any_of HT_.out (by kernel_rfl)) (fun _ _ _ h => h) (Or.inl ⟨by rfl, ?_⟩) ?_ ?_
                    rotate_left
                    · intro w'
                      go_simp
                      with_reducible rfl
                    rotate_left
                    · simp only [Act.put, List.setIfInBounds_toArray, List.set_cons_zero, List.set_cons_succ, i64_w, i32_w]
                      rfl
                    refine pure_ (i := 10) (N := some 37) (v := ?_) (a' := ?_) #[true, true, true, true, true, true, true, true, true, true, true, false, false] rfl rfl (any_of HT_.out (by kernel_rfl)) (fun _ _ _ h => h) (Or.inl ⟨by rfl, ?_⟩) ?_ ?_
                    rotate_left
                    · intro w'
                      go_simp
                      with_reducible rfl
                    rotate_left
                    · simp only [Act.put, List.setIfInBounds_toArray, List.set_cons_zero, List.set_cons_succ, i64_w, i32_w]
                      rfl
                    refine one_ (i := 11) (N := some 4) #[true, true, true, true, true, true, true, true, true, true, true, true, false] rfl rfl (one_of HT_.out (by kernel_rfl)) (by decide) (fun K hK => ?_)
                    refine box_step ?hg (N := 4) ?hd (cs := #[.int .i64 0, .bool false]) (t := 23) ?hr ?_; (case hd => rfl); (case hg => rfl); (case hr => first | (go_simp; done) | (go_simp; rfl))
                    intro gb404 hg w28 hbox hb
                    have n0_ := Aside0.mk (blk_below (g := gb399) (o := .cells #[.int .i64 a0_0, .int .i64 a0_1, .string a0_2, .int .i64 a0_3, .slice (some ad402) l0_4.length c0_4, .string a0_5, .string a0_6, .int .i64 a0_7, .slice A0_8 l0_8.length c0_8, .slice A0_9 l0_9.length c0_9, .slice A0_10 l0_10.length c0_10] 52 (0, 0)) (by (with_reducible repeat (first | refine blk_drewN ?_ _ | refine blk_drew ?_ | refine blk_alloc ?_ _)); exact BK399.out) hb)
                    have n1_ := Aside0.mk (blk_below (g := gb400) (o := .cells #[.int .i64 0, .bool false] 23 (0, 0)) (by (with_reducible repeat (first | refine blk_drewN ?_ _ | refine blk_drew ?_ | refine blk_alloc ?_ _)); exact BK400.out) hb)
                    have n2_ := Aside0.mk (below_step (by repeat (first | (with_reducible first | exact HB.out | apply below_alloc | apply pw_below_drewN | apply below_drew1 | refine below_set ?_ GE399.out | refine below_set ?_ GE400.out) | exact HB.out)) hb)
                    have n3_ := Aside0.mk (hbox)
                    have n4_ := Aside0.mk ((by rw [hg]; exact (below_size (by repeat (first | (with_reducible first | exact HB.out | apply below_alloc | apply pw_below_drewN | apply below_drew1 | refine below_set ?_ GE399.out | refine below_set ?_ GE400.out) | exact HB.out))) : w.heap.size ≤ gb404))
                    have n5_ := Aside0.mk ((by rw [hg]; exact (below_size (by repeat (first | (with_reducible first | exact HB.out | apply below_alloc | apply pw_below_drewN | apply below_drew1 | refine below_set ?_ GE399.out | refine below_set ?_ GE400.out) | exact HB.out))) : w.heap.size ≤ gb404))
                    have n6_ := Aside0.mk ((by rw [hg]; exact Nat.ne_of_lt (blk_lt (g := gb399) (o := .cells #[.int .i64 a0_0, .int .i64 a0_1, .string a0_2, .int .i64 a0_3, .slice (some ad402) l0_4.length c0_4, .string a0_5, .string a0_6, .int .i64 a0_7, .slice A0_8 l0_8.length c0_8, .slice A0_9 l0_9.length c0_9, .slice A0_10 l0_10.length c0_10] 52 (0, 0)) (by (with_reducible repeat (first | refine blk_drewN ?_ _ | refine blk_drew ?_ | refine blk_alloc ?_ _)); exact BK399.out)) : gb399 ≠ gb404))
                    have n7_ := Aside0.mk ((by rw [hg]; exact Nat.ne_of_gt (blk_lt (g := gb399) (o := .cells #[.int .i64 a0_0, .int .i64 a0_1, .string a0_2, .int .i64 a0_3, .slice (some ad402) l0_4.length c0_4, .string a0_5, .string a0_6, .int .i64 a0_7, .slice A0_8 l0_8.length c0_8, .slice A0_9 l0_9.length c0_9, .slice A0_10 l0_10.length c0_10] 52 (0, 0)) (by (with_reducible repeat (first | refine blk_drewN ?_ _ | refine blk_drew ?_ | refine blk_alloc ?_ _)); exact BK399.out)) : gb404 ≠ gb399))
                    have n8_ := Aside0.mk ((by rw [hg]; exact Nat.ne_of_lt (blk_lt (g := gb400) (o := .cells #[.int .i64 0, .bool false] 23 (0, 0)) (by (with_reducible repeat (first | refine blk_drewN ?_ _ | refine blk_drew ?_ | refine blk_alloc ?_ _)); exact BK400.out)) : gb400 ≠ gb404))
                    have n9_ := Aside0.mk ((by rw [hg]; exact Nat.ne_of_gt (blk_lt (g := gb400) (o := .cells #[.int .i64 0, .bool false] 23 (0, 0)) (by (with_reducible repeat (first | refine blk_drewN ?_ _ | refine blk_drew ?_ | refine blk_alloc ?_ _)); exact BK400.out)) : gb404 ≠ gb400))
                    clear BK399
                    clear BK400
                    clear HB
                    have BK399 := n0_
                    have BK400 := n1_
                    have HB := n2_
                    have BK404 := n3_
                    have GW404 := n4_
                    have GE404 := n5_
                    have NB399_404 := n6_
                    have NB404_399 := n7_
                    have NB400_404 := n8_
                    have NB404_400 := n9_
                    clear n0_ n1_ n2_ n3_ n4_ n5_ n6_ n7_ n8_ n9_
                    clear hb hbox hg
                    refine hK.out _ _ ⟨(blk_cell BK399.out 0).trans rfl, (blk_cell BK399.out 1).trans rfl, (blk_cell BK399.out 2).trans rfl, (blk_cell BK399.out 3).trans rfl, (blk_cell BK399.out 4).trans rfl, (blk_cell BK399.out 5).trans rfl, (blk_cell BK399.out 6).trans rfl, (blk_cell BK399.out 7).trans rfl, (blk_cell BK399.out 8).trans rfl, (blk_cell BK399.out 9).trans rfl, (blk_cell BK399.out 10).trans rfl, ((HB.out.cell (World.block_lt_of_cell? w _ hw402_0)).trans hw402_0), ((HB.out.cell (World.block_lt_of_cell? w _ hw403_0)).trans hw403_0)⟩ (fun hHeld => ?_)
                    clear hK K
                    refine norm_ (a' := ?_) ?_ ?_
                    rotate_left
                    · show Act.put _ (some 4) _ = _
                      simp only [Act.put, List.setIfInBounds_toArray, List.set_cons_zero, List.set_cons_succ, i64_w, i32_w]
                      rfl
                    refine one_ (i := 12) (N := none) #[true, true, true, true, true, true, true, true, true, true, true, true, true] rfl rfl (one_of HT_.out (by kernel_rfl)) (by decide) (fun K hK => ?_)
                    have hs29 : w28.cell? ⟨gb404, 0, none⟩ = some (.int .i64 0) := (blk_cell BK404.out 0).trans rfl
                    have hfs29 := blk_frozen BK404.out 0
                    have hns29_0 := NB399_404.out
                    have hns29_1 := NB400_404.out
                    have hms29_0 := NB404_399.out
                    have hms29_1 := NB404_400.out
                    have hs30 : w28.cell? ⟨gb404, 1, none⟩ = some (.bool false) := (blk_cell BK404.out 1).trans rfl
                    have hfs30 := blk_frozen BK404.out 1
                    have hns30_0 := NB399_404.out
                    have hns30_1 := NB400_404.out
                    have hms30_0 := NB404_399.out
                    have hms30_1 := NB404_400.out
                    refine skip_ (w1 := ?_) (by rfl) rfl ?_ ?_
                    rotate_left
                    · go_simp
                      rfl
                    refine hK.out _ _ ⟨((cell_far (p := ⟨gb404, _, none⟩) NB399_404.out _).trans (((cell_far (p := ⟨gb404, _, none⟩) NB399_404.out _).trans (hHeld.1)))), ((cell_far (p := ⟨gb404, _, none⟩) NB399_404.out _).trans (((cell_far (p := ⟨gb404, _, none⟩) NB399_404.out _).trans (hHeld.2.1)))), ((cell_far (p := ⟨gb404, _, none⟩) NB399_404.out _).trans (((cell_far (p := ⟨gb404, _, none⟩) NB399_404.out _).trans (hHeld.2.2.1)))), ((cell_far (p := ⟨gb404, _, none⟩) NB399_404.out _).trans (((cell_far (p := ⟨gb404, _, none⟩) NB399_404.out _).trans (hHeld.2.2.2.1)))), ((cell_far (p := ⟨gb404, _, none⟩) NB399_404.out _).trans (((cell_far (p := ⟨gb404, _, none⟩) NB399_404.out _).trans (hHeld.2.2.2.2.1)))), ((cell_far (p := ⟨gb404, _, none⟩) NB399_404.out _).trans (((cell_far (p := ⟨gb404, _, none⟩) NB399_404.out _).trans (hHeld.2.2.2.2.2.1)))), ((cell_far (p := ⟨gb404, _, none⟩) NB399_404.out _).trans (((cell_far (p := ⟨gb404, _, none⟩) NB399_404.out _).trans (hHeld.2.2.2.2.2.2.1)))), ((cell_far (p := ⟨gb404, _, none⟩) NB399_404.out _).trans (((cell_far (p := ⟨gb404, _, none⟩) NB399_404.out _).trans (hHeld.2.2.2.2.2.2.2.1)))), ((cell_far (p := ⟨gb404, _, none⟩) NB399_404.out _).trans (((cell_far (p := ⟨gb404, _, none⟩) NB399_404.out _).trans (hHeld.2.2.2.2.2.2.2.2.1)))), ((cell_far (p := ⟨gb404, _, none⟩) NB399_404.out _).trans (((cell_far (p := ⟨gb404, _, none⟩) NB399_404.out _).trans (hHeld.2.2.2.2.2.2.2.2.2.1)))), ((cell_far (p := ⟨gb404, _, none⟩) NB399_404.out _).trans (((cell_far (p := ⟨gb404, _, none⟩) NB399_404.out _).trans (hHeld.2.2.2.2.2.2.2.2.2.2.1)))), ((cell_far (p := ⟨gb404, _, none⟩) (by first | exact Nat.ne_of_lt (Nat.lt_of_lt_of_le (by have := World.block_lt_of_cell? _ _ hw402_0; first | rwa [add_block] at this | exact this) GW404.out) | (rw [add_block]; exact Nat.ne_of_lt (Nat.lt_of_lt_of_le (by have := World.block_lt_of_cell? _ _ hw402_0; first | rwa [add_block] at this | exact this) GW404.out)) | (show (Addr.add _ _).block ≠ _; rw [add_block]; exact Nat.ne_of_lt (Nat.lt_of_lt_of_le (by have := World.block_lt_of_cell? _ _ hw402_0; first | rwa [add_block] at this | exact this) GW404.out)) | (dsimp only; exact Nat.ne_of_lt (Nat.lt_of_lt_of_le (by have := World.block_lt_of_cell? _ _ hw402_0; first | rwa [add_block] at this | exact this) GW404.out))) _).trans (((cell_far (p := ⟨gb404, _, none⟩) (by first | exact Nat.ne_of_lt (Nat.lt_of_lt_of_le (by have := World.block_lt_of_cell? _ _ hw402_0; first | rwa [add_block] at this | exact this) GW404.out) | (rw [add_block]; exact Nat.ne_of_lt (Nat.lt_of_lt_of_le (by have := World.block_lt_of_cell? _ _ hw402_0; first | rwa [add_block] at this | exact this) GW404.out)) | (show (Addr.add _ _).block ≠ _; rw [add_block]; exact Nat.ne_of_lt (Nat.lt_of_lt_of_le (by have := World.block_lt_of_cell? _ _ hw402_0; first | rwa [add_block] at this | exact this) GW404.out)) | (dsimp only; exact Nat.ne_of_lt (Nat.lt_of_lt_of_le (by have := World.block_lt_of_cell? _ _ hw402_0; first | rwa [add_block] at this | exact this) GW404.out))) _).trans (hHeld.2.2.2.2.2.2.2.2.2.2.2.1)))), ((cell_far (p := ⟨gb404, _, none⟩) (by first | exact Nat.ne_of_lt (Nat.lt_of_lt_of_le (by have := World.block_lt_of_cell? _ _ hw403_0; first | rwa [add_block] at this | exact this) GW404.out) | (rw [add_block]; exact Nat.ne_of_lt (Nat.lt_of_lt_of_le (by have := World.block_lt_of_cell? _ _ hw403_0; first | rwa [add_block] at this | exact this) GW404.out)) | (show (Addr.add _ _).block ≠ _; rw [add_block]; exact Nat.ne_of_lt (Nat.lt_of_lt_of_le (by have := World.block_lt_of_cell? _ _ hw403_0; first | rwa [add_block] at this | exact this) GW404.out)) | (dsimp only; exact Nat.ne_of_lt (Nat.lt_of_lt_of_le (by have := World.block_lt_of_cell? _ _ hw403_0; first | rwa [add_block] at this | exact this) GW404.out))) _).trans (((cell_far (p := ⟨gb404, _, none⟩) (by first | exact Nat.ne_of_lt (Nat.lt_of_lt_of_le (by have := World.block_lt_of_cell? _ _ hw403_0; first | rwa [add_block] at this | exact this) GW404.out) | (rw [add_block]; exact Nat.ne_of_lt (Nat.lt_of_lt_of_le (by have := World.block_lt_of_cell? _ _ hw403_0; first | rwa [add_block] at this | exact this) GW404.out)) | (show (Addr.add _ _).block ≠ _; rw [add_block]; exact Nat.ne_of_lt (Nat.lt_of_lt_of_le (by have := World.block_lt_of_cell? _ _ hw403_0; first | rwa [add_block] at this | exact this) GW404.out)) | (dsimp only; exact Nat.ne_of_lt (Nat.lt_of_lt_of_le (by have := World.block_lt_of_cell? _ _ hw403_0; first | rwa [add_block] at this | exact this) GW404.out))) _).trans (hHeld.2.2.2.2.2.2.2.2.2.2.2.2))))⟩ (fun hHeld => ?_)
                    clear hK K
                    refine done_ (done_of HT_.out (by kernel_rfl)) ?_
                    have hnb31 := NB404_399.out
                    have hnc31 := NB399_404.out
                    have hnb32 := NB404_400.out
                    have hnc32 := NB400_404.out
                    have hcz33_0 : w28.cell? ⟨gb404, 0, none⟩ = some (.int .i64 0) := (blk_cell BK404.out 0).trans rfl
                    have hcz33_1 : w28.cell? ⟨gb404, 1, none⟩ = some (.bool false) := (blk_cell BK404.out 1).trans rfl
                    have hfz33_0 := blk_frozen BK404.out 0
                    have hfz33_1 := blk_frozen BK404.out 1
                    try go_wp2_with (first | ((with_reducible refine gate_callee (f := 26) rfl ?_); refine goesL_ (some 39) rfl rfl Try.func26 (by kernel_rfl) rfl #[.agg #[.int .i64 (wrap64 (rd l0_4 0)), .bool ((rd l0_4 1) == 1)]] rfl (by (try simp only [List.map_toArray, List.map_cons, List.map_nil]); first | done | rfl | (simp only [List.length_drop, List.length_take]; rfl)) ?_; (with_reducible refine (dioramaref20_Check.calls (wrap64 (rd l0_4 0)) ((rd l0_4 1) == 1) t405 _ A25.out).mono ?_); rintro e w34 ⟨rfl, hb⟩; refine ⟨_, rfl, ?_⟩; have n0_ := Aside0.mk (blk_below (g := gb399) (o := .cells #[.int .i64 a0_0, .int .i64 a0_1, .string a0_2, .int .i64 a0_3, .slice (some ad402) l0_4.length c0_4, .string a0_5, .string a0_6, .int .i64 a0_7, .slice A0_8 l0_8.length c0_8, .slice A0_9 l0_9.length c0_9, .slice A0_10 l0_10.length c0_10] 52 (0, 0)) (by (with_reducible repeat (first | refine blk_drewN ?_ _ | refine blk_drew ?_ | refine blk_alloc ?_ _)); refine blk_far ?_ NB399_404.out _; (with_reducible repeat (first | refine blk_drewN ?_ _ | refine blk_drew ?_ | refine blk_alloc ?_ _)); refine blk_far ?_ NB399_404.out _; (with_reducible repeat (first | refine blk_drewN ?_ _ | refine blk_drew ?_ | refine blk_alloc ?_ _)); exact BK399.out) hb); have n1_ := Aside0.mk (blk_below (g := gb400) (o := .cells #[.int .i64 0, .bool false] 23 (0, 0)) (by (with_reducible repeat (first | refine blk_drewN ?_ _ | refine blk_drew ?_ | refine blk_alloc ?_ _)); refine blk_far ?_ NB400_404.out _; (with_reducible repeat (first | refine blk_drewN ?_ _ | refine blk_drew ?_ | refine blk_alloc ?_ _)); refine blk_far ?_ NB400_404.out _; (with_reducible repeat (first | refine blk_drewN ?_ _ | refine blk_drew ?_ | refine blk_alloc ?_ _)); exact BK400.out) hb); have n2_ := Aside0.mk (blk_below (g := gb404) (o := .cells #[.int .i64 (wrap64 (rd l0_4 0)), .bool ((rd l0_4 1) == 1)] 23 (0, 0)) (by (with_reducible repeat (first | refine blk_drewN ?_ _ | refine blk_drew ?_ | refine blk_alloc ?_ _)); refine blk_put (cs := #[.int .i64 (wrap64 (rd l0_4 0)), .bool false]) ?_ 1 _ rfl; (with_reducible repeat (first | refine blk_drewN ?_ _ | refine blk_drew ?_ | refine blk_alloc ?_ _)); refine blk_put (cs := #[.int .i64 0, .bool false]) ?_ 0 _ rfl; (with_reducible repeat (first | refine blk_drewN ?_ _ | refine blk_drew ?_ | refine blk_alloc ?_ _)); exact BK404.out) hb); have n3_ := Aside0.mk (below_step (by repeat (first | (with_reducible first | exact HB.out | apply below_alloc | apply pw_below_drewN | apply below_drew1 | refine below_set ?_ GE399.out | refine below_set ?_ GE400.out | refine below_set ?_ GE404.out) | exact HB.out)) hb); clear BK399; clear BK400; clear BK404; clear HB; have BK399 := n0_; have BK400 := n1_; have BK404 := n2_; have HB := n3_; clear n0_ n1_ n2_ n3_; (try clear hb); (try clear hb2); (try clear hk); (try clear hi); have hcz35_0 : w34.cell? ⟨gb404, 0, none⟩ = some (.int .i64 (wrap64 (rd l0_4 0))) := (blk_cell BK404.out 0).trans rfl; have hcz35_1 : w34.cell? ⟨gb404, 1, none⟩ = some (.bool ((rd l0_4 1) == 1)) := (blk_cell BK404.out 1).trans rfl; have hfz35_0 := blk_frozen BK404.out 0; have hfz35_1 := blk_frozen BK404.out 1; have hnb36 := NB400_399.out; have hnc36 := NB399_400.out; have hcz37_0 : w34.cell? ⟨gb400, 0, none⟩ = some (.int .i64 0) := (blk_cell BK400.out 0).trans rfl; have hcz37_1 : w34.cell? ⟨gb400, 1, none⟩ = some (.bool false) := (blk_cell BK400.out 1).trans rfl; have hfz37_0 := blk_frozen BK400.out 0; have hfz37_1 := blk_frozen BK400.out 1))
                    refine bodyPost_ret (results_ct rfl _ _ gb400 23 #[.int .i64 (wrap64 (rd l0_4 0)), .bool ((rd l0_4 1) == 1)] (0, 0) _ rfl (by (with_reducible repeat (first | refine blk_drewN ?_ _ | refine blk_drew ?_ | refine blk_alloc ?_ _)); refine blk_put (cs := #[.int .i64 (wrap64 (rd l0_4 0)), .bool false]) ?_ 1 _ rfl; (with_reducible repeat (first | refine blk_drewN ?_ _ | refine blk_drew ?_ | refine blk_alloc ?_ _)); refine blk_put (cs := #[.int .i64 0, .bool false]) ?_ 0 _ rfl; (with_reducible repeat (first | refine blk_drewN ?_ _ | refine blk_drew ?_ | refine blk_alloc ?_ _)); exact BK400.out) Try.underlying23 rfl (by kernel_rfl)) rfl ?_
                    exact ⟨by first | rfl | (simp [errW_none, errW_some] <;> rfl) | (simp [*, errW_none, errW_some] <;> rfl), by repeat (first | (with_reducible first | exact HB.out | apply below_alloc | apply pw_below_drewN | apply below_drew1 | refine below_set ?_ GE399.out | refine below_set ?_ GE400.out | refine below_set ?_ GE404.out) | exact HB.out)⟩
                  · rw [if_neg c26] at H
                    have c26b0 : (t405 == 0) = false := beq_eq_false_iff_ne.mpr c26
                    have c26b1 : (t405 != 0) = true := bne_iff_ne.mpr c26
                    simp only [Option.some.injEq, Prod.mk.injEq] at H
                    obtain ⟨rfl, rfl, rfl⟩ := H
                    try go_wp2
                    have n0_ := Aside0.mk (blk_drew BK399.out)
                    have n1_ := Aside0.mk (blk_drew BK400.out)
                    have n2_ := Aside0.mk (below_drew1 HB.out)
                    clear BK399
                    clear BK400
                    clear HB
                    have BK399 := n0_
                    have BK400 := n1_
                    have HB := n2_
                    clear n0_ n1_ n2_
                    have p402 : 0 ≤ (0 : Int) := (by omega)
                    have q402 : 0 < (l0_4.length : Int) := of_decide_eq_true (by first | (with_reducible assumption) | assumption)
                    obtain ⟨ad402, e402, hx402_0⟩ := Kd.at_int HR0_4.out 0 p402 q402
                    have hw402_0 := hx402_0
                    (try rw [show ((0 : Int)).toNat = 0 from rfl] at hw402_0)
                    (try rw [show 0 * 1 = 0 from rfl] at hw402_0)
                    (try rw [Addr.add_zero'] at hw402_0)
                    cases e402
                    have qi402 : (0 < l0_4.length) = True := eq_true (by omega)
                    (try rw [show ((0 : Int)).toNat = 0 from rfl] at hx402_0)
                    (try rw [Addr.add_zero'] at hx402_0)
                    replace hx402_0 := (HB.out.cell (World.block_lt_of_cell? w _ hx402_0)).trans hx402_0
                    replace p402 := eq_true p402
                    replace q402 := eq_true q402
                    have p403 : 0 ≤ (1 : Int) := (by omega)
                    have q403 : 1 < (l0_4.length : Int) := of_decide_eq_true (by first | (with_reducible assumption) | assumption)
                    obtain ⟨ad403, e403, hx403_0⟩ := Kd.at_int HR0_4.out 1 p403 q403
                    have hw403_0 := hx403_0
                    (try rw [show ((1 : Int)).toNat = 1 from rfl] at hw403_0)
                    (try rw [show 1 * 1 = 1 from rfl] at hw403_0)
                    (try simp only [Nat.reduceMul, Nat.reduceEqDiff, Go.Addr.add, ↓reduceIte] at hw403_0)
                    obtain rfl : ad402 = ad403 := (by injection e403)
                    (try simp only [show (1 : Int).toNat = 1 from rfl, Nat.reduceMul, Nat.reduceEqDiff, Go.Addr.add, ↓reduceIte] at hx403_0)
                    have qi403 : (1 < l0_4.length) = True := eq_true (by omega)
                    (try rw [show ((1 : Int)).toNat = 1 from rfl] at hx403_0)
                    replace hx403_0 := (HB.out.cell (World.block_lt_of_cell? w _ hx403_0)).trans hx403_0
                    replace p403 := eq_true p403
                    replace q403 := eq_true q403
                    refine start_ (n := 13) (S := fun w' => w'.cell? ⟨gb399, 0, none⟩ = some (.int .i64 a0_0) ∧ w'.cell? ⟨gb399, 1, none⟩ = some (.int .i64 a0_1) ∧ w'.cell? ⟨gb399, 2, none⟩ = some (.string a0_2) ∧ w'.cell? ⟨gb399, 3, none⟩ = some (.int .i64 a0_3) ∧ w'.cell? ⟨gb399, 4, none⟩ = some (.slice (some ad402) l0_4.length c0_4) ∧ w'.cell? ⟨gb399, 5, none⟩ = some (.string a0_5) ∧ w'.cell? ⟨gb399, 6, none⟩ = some (.string a0_6) ∧ w'.cell? ⟨gb399, 7, none⟩ = some (.int .i64 a0_7) ∧ w'.cell? ⟨gb399, 8, none⟩ = some (.slice A0_8 l0_8.length c0_8) ∧ w'.cell? ⟨gb399, 9, none⟩ = some (.slice A0_9 l0_9.length c0_9) ∧ w'.cell? ⟨gb399, 10, none⟩ = some (.slice A0_10 l0_10.length c0_10) ∧ w'.cell? ad402 = some (.int .u8 (rd l0_4 0)) ∧ w'.cell? ⟨ad402.block, ad402.off + 1, none⟩ = some (.int .u8 (rd l0_4 1))) (ds := []) #[false, false, false, false, false, false, false, false, false, false, false, false, false] (by kernel_rfl) rfl rfl ⟨(blk_cell BK399.out 0).trans rfl, (blk_cell BK399.out 1).trans rfl, (blk_cell BK399.out 2).trans rfl, (blk_cell BK399.out 3).trans rfl, (blk_cell BK399.out 4).trans rfl, (blk_cell BK399.out 5).trans rfl, (blk_cell BK399.out 6).trans rfl, (blk_cell BK399.out 7).trans rfl, (blk_cell BK399.out 8).trans rfl, (blk_cell BK399.out 9).trans rfl, (blk_cell BK399.out 10).trans rfl, ((HB.out.cell (World.block_lt_of_cell? w _ hw402_0)).trans hw402_0), ((HB.out.cell (World.block_lt_of_cell? w _ hw403_0)).trans hw403_0)⟩ (fun hHeld => ?_); refine with_tabW dioramaref20_Rate.tab5 dioramaref20_Rate.bits5 (fun HT_ HW_ => ?_)
                    generalize wc.drew = w38 at BK399 BK400 HB hx402_0 hx403_0 hHeld ⊢
                    refine pure_ (i := 0) (N := some 27) (v := ?_) (a' := ?_) #[true, false, false, false, false, false, false, false, false, false, false, false, false] rfl rfl (any_of HT_.out (by kernel_rfl)) (fun _ _ _ h => h) (Or.inl ⟨by rfl, ?_⟩) ?_ ?_
                    rotate_left
                    · intro w'
                      go_simp
                      with_reducible rfl
                    rotate_left
                    · simp only [Act.put, List.setIfInBounds_toArray, List.set_cons_zero, List.set_cons_succ, i64_w, i32_w]
                      rfl
                    refine pure_ (i := 5) (N := some 32) (v := ?_) (a' := ?_) #[true, false, false, false, false, true, false, false, false, false, false, false, false] rfl rfl (any_of HT_.out (by kernel_rfl)) (fun _ _ _ h => h) (Or.inl ⟨by rfl, ?_⟩) ?_ ?_
                    rotate_left
                    · intro w'
                      go_simp
                      with_reducible rfl
                    rotate_left
                    · simp only [Act.put, List.setIfInBounds_toArray, List.set_cons_zero, List.set_cons_succ, i64_w, i32_w]
                      rfl
                    refine take_ (i := 1) (N := some 28) (v := ?_) (a' := ?_) #[true, true, false, false, false, true, false, false, false, false, false, false, false] rfl rfl (take_ofW HT_.out HW_.out (by kernel_rfl)) (fun _ _ _ h => h) (Or.inl ⟨by rfl, ?_⟩) hHeld ?_ ?_
                    rotate_left
                    · rintro w' ⟨s0, s1, s2, s3, s4, s5, s6, s7, s8, s9, s10, s11, s12⟩
                      go_simp
                      with_reducible rfl
                    rotate_left
                    · simp only [Act.put, List.setIfInBounds_toArray, List.set_cons_zero, List.set_cons_succ, i64_w, i32_w]
                      rfl
                    refine pure_ (i := 2) (N := some 29) (v := ?_) (a' := ?_) #[true, true, true, false, false, true, false, false, false, false, false, false, false] rfl rfl (any_of HT_.out (by kernel_rfl)) (fun _ _ _ h => h) (Or.inl ⟨by rfl, ?_⟩) ?_ ?_
                    rotate_left
                    · intro w'
                      go_simp
                      with_reducible rfl
                    rotate_left
                    · simp only [Act.put, List.setIfInBounds_toArray, List.set_cons_zero, List.set_cons_succ, i64_w, i32_w]
                      rfl
                    refine take_ (i := 3) (N := some 30) (v := ?_) (a' := ?_) #[true, true, true, true, false, true, false, false, false, false, false, false, false] rfl rfl (take_ofW HT_.out HW_.out (by kernel_rfl)) (fun _ _ _ h => h) (Or.inl ⟨by rfl, ?_⟩) hHeld ?_ ?_
                    rotate_left
                    · rintro w' ⟨s0, s1, s2, s3, s4, s5, s6, s7, s8, s9, s10, s11, s12⟩
                      go_simp
                      with_reducible rfl
                    rotate_left
                    · simp only [Act.put, List.setIfInBounds_toArray, List.set_cons_zero, List.set_cons_succ, i64_w, i32_w]
                      rfl
                    refine pure_ (i := 4) (N := some 31) (v := ?_) (a' := ?_) #[true, true, true, true, true, true, false, false, false, false, false, false, false] rfl rfl (any_of HT_.out (by kernel_rfl)) (fun _ _ _ h => h) (Or.inl ⟨by rfl, ?_⟩) ?_ ?_
                    rotate_left
                    · intro w'
                      go_simp
                      with_reducible rfl
                    rotate_left
                    · simp only [Act.put, List.setIfInBounds_toArray, List.set_cons_zero, List.set_cons_succ, i64_w, i32_w]
                      rfl
                    refine take_ (i := 6) (N := some 33) (v := ?_) (a' := ?_) #[true, true, true, true, true, true, true, false, false, false, false, false, false] rfl rfl (take_ofW HT_.out HW_.out (by kernel_rfl)) (fun _ _ _ h => h) (Or.inl ⟨by rfl, ?_⟩) hHeld ?_ ?_
                    rotate_left
                    · rintro w' ⟨s0, s1, s2, s3, s4, s5, s6, s7, s8, s9, s10, s11, s12⟩
                      go_simp
                      with_reducible rfl
                    rotate_left
                    · simp only [Act.put, List.setIfInBounds_toArray, List.set_cons_zero, List.set_cons_succ, i64_w, i32_w]
                      rfl
                    refine pure_ (i := 7) (N := some 34) (v := ?_) (a' := ?_) #[true, true, true, true, true, true, true, true, false, false, false, false, false] rfl rfl (any_of HT_.out (by kernel_rfl)) (fun _ _ _ h => h) (Or.inl ⟨by rfl, ?_⟩) ?_ ?_
                    rotate_left
                    · intro w'
                      go_simp
                      with_reducible rfl
                    rotate_left
                    · simp only [Act.put, List.setIfInBounds_toArray, List.set_cons_zero, List.set_cons_succ, i64_w, i32_w]
                      rfl
                    refine take_ (i := 8) (N := some 35) (v := ?_) (a' := ?_) #[true, true, true, true, true, true, true, true, true, false, false, false, false] rfl rfl (take_ofW HT_.out HW_.out (by kernel_rfl)) (fun _ _ _ h => h) (Or.inl ⟨by rfl, ?_⟩) hHeld ?_ ?_
                    rotate_left
                    · rintro w' ⟨s0, s1, s2, s3, s4, s5, s6, s7, s8, s9, s10, s11, s12⟩
                      go_simp
                      with_reducible rfl
                    rotate_left
                    · simp only [Act.put, List.setIfInBounds_toArray, List.set_cons_zero, List.set_cons_succ, i64_w, i32_w]
                      rfl
                    refine pure_ (i := 9) (N := some 36) (v := ?_) (a' := ?_) #[true, true, true, true, true, true, true, true, true, true, false, false, false] rfl rfl (any_of HT_.out (by kernel_rfl)) (fun _ _ _ h => h) (Or.inl ⟨by rfl, ?_⟩) ?_ ?_
                    rotate_left
                    · intro w'
                      go_simp
                      with_reducible rfl
                    rotate_left
                    · simp only [Act.put, List.setIfInBounds_toArray, List.set_cons_zero, List.set_cons_succ, i64_w, i32_w]
                      rfl
                    refine pure_ (i := 10) (N := some 37) (v := ?_) (a' := ?_) #[true, true, true, true, true, true, true, true, true, true, true, false, false] rfl rfl (any_of HT_.out (by kernel_rfl)) (fun _ _ _ h => h) (Or.inl ⟨by rfl, ?_⟩) ?_ ?_
                    rotate_left
                    · intro w'
                      go_simp
                      with_reducible rfl
                    rotate_left
                    · simp only [Act.put, List.setIfInBounds_toArray, List.set_cons_zero, List.set_cons_succ, i64_w, i32_w]
                      rfl
                    refine one_ (i := 11) (N := some 4) #[true, true, true, true, true, true, true, true, true, true, true, true, false] rfl rfl (one_of HT_.out (by kernel_rfl)) (by decide) (fun K hK => ?_)
                    refine box_step ?hg (N := 4) ?hd (cs := #[.int .i64 0, .bool false]) (t := 23) ?hr ?_; (case hd => rfl); (case hg => rfl); (case hr => first | (go_simp; done) | (go_simp; rfl))
                    intro gb404 hg w39 hbox hb
                    have n0_ := Aside0.mk (blk_below (g := gb399) (o := .cells #[.int .i64 a0_0, .int .i64 a0_1, .string a0_2, .int .i64 a0_3, .slice (some ad402) l0_4.length c0_4, .string a0_5, .string a0_6, .int .i64 a0_7, .slice A0_8 l0_8.length c0_8, .slice A0_9 l0_9.length c0_9, .slice A0_10 l0_10.length c0_10] 52 (0, 0)) (by (with_reducible repeat (first | refine blk_drewN ?_ _ | refine blk_drew ?_ | refine blk_alloc ?_ _)); exact BK399.out) hb)
                    have n1_ := Aside0.mk (blk_below (g := gb400) (o := .cells #[.int .i64 0, .bool false] 23 (0, 0)) (by (with_reducible repeat (first | refine blk_drewN ?_ _ | refine blk_drew ?_ | refine blk_alloc ?_ _)); exact BK400.out) hb)
                    have n2_ := Aside0.mk (below_step (by repeat (first | (with_reducible first | exact HB.out | apply below_alloc | apply pw_below_drewN | apply below_drew1 | refine below_set ?_ GE399.out | refine below_set ?_ GE400.out) | exact HB.out)) hb)
                    have n3_ := Aside0.mk (hbox)
                    have n4_ := Aside0.mk ((by rw [hg]; exact (below_size (by repeat (first | (with_reducible first | exact HB.out | apply below_alloc | apply pw_below_drewN | apply below_drew1 | refine below_set ?_ GE399.out | refine below_set ?_ GE400.out) | exact HB.out))) : w.heap.size ≤ gb404))
                    have n5_ := Aside0.mk ((by rw [hg]; exact (below_size (by repeat (first | (with_reducible first | exact HB.out | apply below_alloc | apply pw_below_drewN | apply below_drew1 | refine below_set ?_ GE399.out | refine below_set ?_ GE400.out) | exact HB.out))) : w.heap.size ≤ gb404))
                    have n6_ := Aside0.mk ((by rw [hg]; exact Nat.ne_of_lt (blk_lt (g := gb399) (o := .cells #[.int .i64 a0_0, .int .i64 a0_1, .string a0_2, .int .i64 a0_3, .slice (some ad402) l0_4.length c0_4, .string a0_5, .string a0_6, .int .i64 a0_7, .slice A0_8 l0_8.length c0_8, .slice A0_9 l0_9.length c0_9, .slice A0_10 l0_10.length c0_10] 52 (0, 0)) (by (with_reducible repeat (first | refine blk_drewN ?_ _ | refine blk_drew ?_ | refine blk_alloc ?_ _)); exact BK399.out)) : gb399 ≠ gb404))
                    have n7_ := Aside0.mk ((by rw [hg]; exact Nat.ne_of_gt (blk_lt (g := gb399) (o := .cells #[.int .i64 a0_0, .int .i64 a0_1, .string a0_2, .int .i64 a0_3, .slice (some ad402) l0_4.length c0_4, .string a0_5, .string a0_6, .int .i64 a0_7, .slice A0_8 l0_8.length c0_8, .slice A0_9 l0_9.length c0_9, .slice A0_10 l0_10.length c0_10] 52 (0, 0)) (by (with_reducible repeat (first | refine blk_drewN ?_ _ | refine blk_drew ?_ | refine blk_alloc ?_ _)); exact BK399.out)) : gb404 ≠ gb399))
                    have n8_ := Aside0.mk ((by rw [hg]; exact Nat.ne_of_lt (blk_lt (g := gb400) (o := .cells #[.int .i64 0, .bool false] 23 (0, 0)) (by (with_reducible repeat (first | refine blk_drewN ?_ _ | refine blk_drew ?_ | refine blk_alloc ?_ _)); exact BK400.out)) : gb400 ≠ gb404))
                    have n9_ := Aside0.mk ((by rw [hg]; exact Nat.ne_of_gt (blk_lt (g := gb400) (o := .cells #[.int .i64 0, .bool false] 23 (0, 0)) (by (with_reducible repeat (first | refine blk_drewN ?_ _ | refine blk_drew ?_ | refine blk_alloc ?_ _)); exact BK400.out)) : gb404 ≠ gb400))
                    clear BK399
                    clear BK400
                    clear HB
                    have BK399 := n0_
                    have BK400 := n1_
                    have HB := n2_
                    have BK404 := n3_
                    have GW404 := n4_
                    have GE404 := n5_
                    have NB399_404 := n6_
                    have NB404_399 := n7_
                    have NB400_404 := n8_
                    have NB404_400 := n9_
                    clear n0_ n1_ n2_ n3_ n4_ n5_ n6_ n7_ n8_ n9_
                    clear hb hbox hg
                    refine hK.out _ _ ⟨(blk_cell BK399.out 0).trans rfl, (blk_cell BK399.out 1).trans rfl, (blk_cell BK399.out 2).trans rfl, (blk_cell BK399.out 3).trans rfl, (blk_cell BK399.out 4).trans rfl, (blk_cell BK399.out 5).trans rfl, (blk_cell BK399.out 6).trans rfl, (blk_cell BK399.out 7).trans rfl, (blk_cell BK399.out 8).trans rfl, (blk_cell BK399.out 9).trans rfl, (blk_cell BK399.out 10).trans rfl, ((HB.out.cell (World.block_lt_of_cell? w _ hw402_0)).trans hw402_0), ((HB.out.cell (World.block_lt_of_cell? w _ hw403_0)).trans hw403_0)⟩ (fun hHeld => ?_)
                    clear hK K
                    refine norm_ (a' := ?_) ?_ ?_
                    rotate_left
                    · show Act.put _ (some 4) _ = _
                      simp only [Act.put, List.setIfInBounds_toArray, List.set_cons_zero, List.set_cons_succ, i64_w, i32_w]
                      rfl
                    refine one_ (i := 12) (N := none) #[true, true, true, true, true, true, true, true, true, true, true, true, true] rfl rfl (one_of HT_.out (by kernel_rfl)) (by decide) (fun K hK => ?_)
                    have hs40 : w39.cell? ⟨gb404, 0, none⟩ = some (.int .i64 0) := (blk_cell BK404.out 0).trans rfl
                    have hfs40 := blk_frozen BK404.out 0
                    have hns40_0 := NB399_404.out
                    have hns40_1 := NB400_404.out
                    have hms40_0 := NB404_399.out
                    have hms40_1 := NB404_400.out
                    have hs41 : w39.cell? ⟨gb404, 1, none⟩ = some (.bool false) := (blk_cell BK404.out 1).trans rfl
                    have hfs41 := blk_frozen BK404.out 1
                    have hns41_0 := NB399_404.out
                    have hns41_1 := NB400_404.out
                    have hms41_0 := NB404_399.out
                    have hms41_1 := NB404_400.out
                    refine skip_ (w1 := ?_) (by rfl) rfl ?_ ?_
                    rotate_left
                    · go_simp
                      rfl
                    refine hK.out _ _ ⟨((cell_far (p := ⟨gb404, _, none⟩) NB399_404.out _).trans (((cell_far (p := ⟨gb404, _, none⟩) NB399_404.out _).trans (hHeld.1)))), ((cell_far (p := ⟨gb404, _, none⟩) NB399_404.out _).trans (((cell_far (p := ⟨gb404, _, none⟩) NB399_404.out _).trans (hHeld.2.1)))), ((cell_far (p := ⟨gb404, _, none⟩) NB399_404.out _).trans (((cell_far (p := ⟨gb404, _, none⟩) NB399_404.out _).trans (hHeld.2.2.1)))), ((cell_far (p := ⟨gb404, _, none⟩) NB399_404.out _).trans (((cell_far (p := ⟨gb404, _, none⟩) NB399_404.out _).trans (hHeld.2.2.2.1)))), ((cell_far (p := ⟨gb404, _, none⟩) NB399_404.out _).trans (((cell_far (p := ⟨gb404, _, none⟩) NB399_404.out _).trans (hHeld.2.2.2.2.1)))), ((cell_far (p := ⟨gb404, _, none⟩) NB399_404.out _).trans (((cell_far (p := ⟨gb404, _, none⟩) NB399_404.out _).trans (hHeld.2.2.2.2.2.1)))), ((cell_far (p := ⟨gb404, _, none⟩) NB399_404.out _).trans (((cell_far (p := ⟨gb404, _, none⟩) NB399_404.out _).trans (hHeld.2.2.2.2.2.2.1)))), ((cell_far (p := ⟨gb404, _, none⟩) NB399_404.out _).trans (((cell_far (p := ⟨gb404, _, none⟩) NB399_404.out _).trans (hHeld.2.2.2.2.2.2.2.1)))), ((cell_far (p := ⟨gb404, _, none⟩) NB399_404.out _).trans (((cell_far (p := ⟨gb404, _, none⟩) NB399_404.out _).trans (hHeld.2.2.2.2.2.2.2.2.1)))), ((cell_far (p := ⟨gb404, _, none⟩) NB399_404.out _).trans (((cell_far (p := ⟨gb404, _, none⟩) NB399_404.out _).trans (hHeld.2.2.2.2.2.2.2.2.2.1)))), ((cell_far (p := ⟨gb404, _, none⟩) NB399_404.out _).trans (((cell_far (p := ⟨gb404, _, none⟩) NB399_404.out _).trans (hHeld.2.2.2.2.2.2.2.2.2.2.1)))), ((cell_far (p := ⟨gb404, _, none⟩) (by first | exact Nat.ne_of_lt (Nat.lt_of_lt_of_le (by have := World.block_lt_of_cell? _ _ hw402_0; first | rwa [add_block] at this | exact this) GW404.out) | (rw [add_block]; exact Nat.ne_of_lt (Nat.lt_of_lt_of_le (by have := World.block_lt_of_cell? _ _ hw402_0; first | rwa [add_block] at this | exact this) GW404.out)) | (show (Addr.add _ _).block ≠ _; rw [add_block]; exact Nat.ne_of_lt (Nat.lt_of_lt_of_le (by have := World.block_lt_of_cell? _ _ hw402_0; first | rwa [add_block] at this | exact this) GW404.out)) | (dsimp only; exact Nat.ne_of_lt (Nat.lt_of_lt_of_le (by have := World.block_lt_of_cell? _ _ hw402_0; first | rwa [add_block] at this | exact this) GW404.out))) _).trans (((cell_far (p := ⟨gb404, _, none⟩) (by first | exact Nat.ne_of_lt (Nat.lt_of_lt_of_le (by have := World.block_lt_of_cell? _ _ hw402_0; first | rwa [add_block] at this | exact this) GW404.out) | (rw [add_block]; exact Nat.ne_of_lt (Nat.lt_of_lt_of_le (by have := World.block_lt_of_cell? _ _ hw402_0; first | rwa [add_block] at this | exact this) GW404.out)) | (show (Addr.add _ _).block ≠ _; rw [add_block]; exact Nat.ne_of_lt (Nat.lt_of_lt_of_le (by have := World.block_lt_of_cell? _ _ hw402_0; first | rwa [add_block] at this | exact this) GW404.out)) | (dsimp only; exact Nat.ne_of_lt (Nat.lt_of_lt_of_le (by have := World.block_lt_of_cell? _ _ hw402_0; first | rwa [add_block] at this | exact this) GW404.out))) _).trans (hHeld.2.2.2.2.2.2.2.2.2.2.2.1)))), ((cell_far (p := ⟨gb404, _, none⟩) (by first | exact Nat.ne_of_lt (Nat.lt_of_lt_of_le (by have := World.block_lt_of_cell? _ _ hw403_0; first | rwa [add_block] at this | exact this) GW404.out) | (rw [add_block]; exact Nat.ne_of_lt (Nat.lt_of_lt_of_le (by have := World.block_lt_of_cell? _ _ hw403_0; first | rwa [add_block] at this | exact this) GW404.out)) | (show (Addr.add _ _).block ≠ _; rw [add_block]; exact Nat.ne_of_lt (Nat.lt_of_lt_of_le (by have := World.block_lt_of_cell? _ _ hw403_0; first | rwa [add_block] at this | exact this) GW404.out)) | (dsimp only; exact Nat.ne_of_lt (Nat.lt_of_lt_of_le (by have := World.block_lt_of_cell? _ _ hw403_0; first | rwa [add_block] at this | exact this) GW404.out))) _).trans (((cell_far (p := ⟨gb404, _, none⟩) (by first | exact Nat.ne_of_lt (Nat.lt_of_lt_of_le (by have := World.block_lt_of_cell? _ _ hw403_0; first | rwa [add_block] at this | exact this) GW404.out) | (rw [add_block]; exact Nat.ne_of_lt (Nat.lt_of_lt_of_le (by have := World.block_lt_of_cell? _ _ hw403_0; first | rwa [add_block] at this | exact this) GW404.out)) | (show (Addr.add _ _).block ≠ _; rw [add_block]; exact Nat.ne_of_lt (Nat.lt_of_lt_of_le (by have := World.block_lt_of_cell? _ _ hw403_0; first | rwa [add_block] at this | exact this) GW404.out)) | (dsimp only; exact Nat.ne_of_lt (Nat.lt_of_lt_of_le (by have := World.block_lt_of_cell? _ _ hw403_0; first | rwa [add_block] at this | exact this) GW404.out))) _).trans (hHeld.2.2.2.2.2.2.2.2.2.2.2.2))))⟩ (fun hHeld => ?_)
                    clear hK K
                    refine done_ (done_of HT_.out (by kernel_rfl)) ?_
                    have hnb42 := NB404_399.out
                    have hnc42 := NB399_404.out
                    have hnb43 := NB404_400.out
                    have hnc43 := NB400_404.out
                    have hcz44_0 : w39.cell? ⟨gb404, 0, none⟩ = some (.int .i64 0) := (blk_cell BK404.out 0).trans rfl
                    have hcz44_1 : w39.cell? ⟨gb404, 1, none⟩ = some (.bool false) := (blk_cell BK404.out 1).trans rfl
                    have hfz44_0 := blk_frozen BK404.out 0
                    have hfz44_1 := blk_frozen BK404.out 1
                    try go_wp2_with (first | ((with_reducible refine gate_callee (f := 26) rfl ?_); refine goesL_ (some 39) rfl rfl Try.func26 (by kernel_rfl) rfl #[.agg #[.int .i64 (wrap64 (rd l0_4 0)), .bool ((rd l0_4 1) == 1)]] rfl (by (try simp only [List.map_toArray, List.map_cons, List.map_nil]); first | done | rfl | (simp only [List.length_drop, List.length_take]; rfl)) ?_; (with_reducible refine (dioramaref20_Check.calls (wrap64 (rd l0_4 0)) ((rd l0_4 1) == 1) t405 _ A25.out).mono ?_); rintro e w45 ⟨rfl, hb⟩; refine ⟨_, rfl, ?_⟩; have n0_ := Aside0.mk (blk_below (g := gb399) (o := .cells #[.int .i64 a0_0, .int .i64 a0_1, .string a0_2, .int .i64 a0_3, .slice (some ad402) l0_4.length c0_4, .string a0_5, .string a0_6, .int .i64 a0_7, .slice A0_8 l0_8.length c0_8, .slice A0_9 l0_9.length c0_9, .slice A0_10 l0_10.length c0_10] 52 (0, 0)) (by (with_reducible repeat (first | refine blk_drewN ?_ _ | refine blk_drew ?_ | refine blk_alloc ?_ _)); refine blk_far ?_ NB399_404.out _; (with_reducible repeat (first | refine blk_drewN ?_ _ | refine blk_drew ?_ | refine blk_alloc ?_ _)); refine blk_far ?_ NB399_404.out _; (with_reducible repeat (first | refine blk_drewN ?_ _ | refine blk_drew ?_ | refine blk_alloc ?_ _)); exact BK399.out) hb); have n1_ := Aside0.mk (blk_below (g := gb400) (o := .cells #[.int .i64 0, .bool false] 23 (0, 0)) (by (with_reducible repeat (first | refine blk_drewN ?_ _ | refine blk_drew ?_ | refine blk_alloc ?_ _)); refine blk_far ?_ NB400_404.out _; (with_reducible repeat (first | refine blk_drewN ?_ _ | refine blk_drew ?_ | refine blk_alloc ?_ _)); refine blk_far ?_ NB400_404.out _; (with_reducible repeat (first | refine blk_drewN ?_ _ | refine blk_drew ?_ | refine blk_alloc ?_ _)); exact BK400.out) hb); have n2_ := Aside0.mk (blk_below (g := gb404) (o := .cells #[.int .i64 (wrap64 (rd l0_4 0)), .bool ((rd l0_4 1) == 1)] 23 (0, 0)) (by (with_reducible repeat (first | refine blk_drewN ?_ _ | refine blk_drew ?_ | refine blk_alloc ?_ _)); refine blk_put (cs := #[.int .i64 (wrap64 (rd l0_4 0)), .bool false]) ?_ 1 _ rfl; (with_reducible repeat (first | refine blk_drewN ?_ _ | refine blk_drew ?_ | refine blk_alloc ?_ _)); refine blk_put (cs := #[.int .i64 0, .bool false]) ?_ 0 _ rfl; (with_reducible repeat (first | refine blk_drewN ?_ _ | refine blk_drew ?_ | refine blk_alloc ?_ _)); exact BK404.out) hb); have n3_ := Aside0.mk (below_step (by repeat (first | (with_reducible first | exact HB.out | apply below_alloc | apply pw_below_drewN | apply below_drew1 | refine below_set ?_ GE399.out | refine below_set ?_ GE400.out | refine below_set ?_ GE404.out) | exact HB.out)) hb); clear BK399; clear BK400; clear BK404; clear HB; have BK399 := n0_; have BK400 := n1_; have BK404 := n2_; have HB := n3_; clear n0_ n1_ n2_ n3_; (try clear hb); (try clear hb2); (try clear hk); (try clear hi); have hnb46 := NB400_399.out; have hnc46 := NB399_400.out; have hcz47_0 : w45.cell? ⟨gb400, 0, none⟩ = some (.int .i64 0) := (blk_cell BK400.out 0).trans rfl; have hcz47_1 : w45.cell? ⟨gb400, 1, none⟩ = some (.bool false) := (blk_cell BK400.out 1).trans rfl; have hfz47_0 := blk_frozen BK400.out 0; have hfz47_1 := blk_frozen BK400.out 1))
                    refine bodyPost_ret (results_ct rfl _ _ gb400 23 #[.int .i64 0, .bool false] (0, 0) _ rfl (by (with_reducible repeat (first | refine blk_drewN ?_ _ | refine blk_drew ?_ | refine blk_alloc ?_ _)); refine blk_put (cs := #[.int .i64 0, .bool false]) ?_ 1 _ rfl; (with_reducible repeat (first | refine blk_drewN ?_ _ | refine blk_drew ?_ | refine blk_alloc ?_ _)); refine blk_put (cs := #[.int .i64 0, .bool false]) ?_ 0 _ rfl; (with_reducible repeat (first | refine blk_drewN ?_ _ | refine blk_drew ?_ | refine blk_alloc ?_ _)); exact BK400.out) Try.underlying23 rfl (by kernel_rfl)) rfl ?_
                    exact ⟨by first | rfl | (simp [errW_none, errW_some] <;> rfl) | (simp [*, errW_none, errW_some] <;> rfl), by repeat (first | (with_reducible first | exact HB.out | apply below_alloc | apply pw_below_drewN | apply below_drew1 | refine below_set ?_ GE399.out | refine below_set ?_ GE400.out | refine below_set ?_ GE404.out) | exact HB.out)⟩
                · rw [if_neg c24] at H
                  exact absurd H (by simp)
              · rw [if_neg c23] at H
                exact absurd H (by simp)

end Go.Proofs.Ytndbhfbgigefnaa.PA
