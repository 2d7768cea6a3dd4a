-- PRINTED by print.py (a twelfth state) out of the translation. Not trusted: Lean checks it.
import Derived.Test.YtndbhfbgigefnaaPAx0
import Derived.Test.YtndbhfbgigefnaaPAx12
import Derived.Test.YtndbhfbgigefnaaPAx13
import Derived.Test.YtndbhfbgigefnaaPAx14
import Derived.Test.YtndbhfbgigefnaaPAx15
import Derived.Test.YtndbhfbgigefnaaPAx16
namespace Go.Proofs.Ytndbhfbgigefnaa.PA
open Go.RowKit Go.Proofs.YtndbhfbgigefnaaW.PrintWords Go.Proofs.YtndbhfbgigefnaaW.PrintLast Go.Proofs.YtndbhfbgigefnaaW.PrintMore
attribute [local go_sem] max2_int min2_int max_two min_two max_three min_three max_four min_four   -- for this text's walks alone
set_option linter.unusedVariables false
set_option linter.unusedSimpArgs false

/-! ### dioramaref20_Count: function 22 -/
mutual
def dioramaref20_Count.j0 : Nat → Bool → Int → Bool → Int → Int → Int → Int → Option (Int × Int)
  | 0, _, _, _, _, _, _, _ => none
  | k + 1, x38, x203000, x203001, x204000, x204001, x204002, x204003 => if x38 = true then (some (0, 1)) else (if x204002 = 0 then ((dioramaref20_missing.f x203000 x203001 x204001).bind fun t209 => (dioramaref20_Count.j1 k (decide (x204003 < t209)) x203000 x203001 x204000 x204001 x204002 x204003)) else (dioramaref20_Count.j1 k false x203000 x203001 x204000 x204001 x204002 x204003))
def dioramaref20_Count.j1 : Nat → Bool → Int → Bool → Int → Int → Int → Int → Option (Int × Int)
  | 0, _, _, _, _, _, _, _ => none
  | k + 1, x50, x203000, x203001, x204000, x204001, x204002, x204003 => if x50 = true then (some (0, 200)) else ((dioramaref20_hour.f k x203000 x203001).bind fun t210 => (dioramaref20_Count.l0 k (wrap64 (x204000 * t210)) 0 x203000 x203001 x204000 x204001 x204002 x204003))
def dioramaref20_Count.l0 : Nat → Int → Int → Int → Bool → Int → Int → Int → Int → Option (Int × Int)
  | 0, _, _, _, _, _, _, _, _ => none
  | k + 1, x7, x8, x203000, x203001, x204000, x204001, x204002, x204003 => if x8 < x204001 then ((dioramaref20_minute.f x203000 x203001 x8).bind fun t211 => (dioramaref20_Count.l0 k (wrap64 (x7 + t211)) (wrap64 (x8 + 1)) x203000 x203001 x204000 x204001 x204002 x204003)) else ((dioramaref20_missing.f x203000 x203001 x204001).bind fun t212 => (some (wrap64 ((wrap64 ((wrap64 (x7 + (wrap64 (x204002 * x203000)))) + x204003)) - t212), 0)))
end
def dioramaref20_Count.f (k : Nat) (a0_0 : Int) (a0_1 : Bool) (a1_0 : Int) (a1_1 : Int) (a1_2 : Int) (a1_3 : Int) : Option (Int × Int) := (dioramaref20_Check.f a0_0 a0_1).bind fun t204 => (if t204 = 0 then ((dioramaref20_in.f a1_0 0 23).bind fun t205 => (if t205 = true then ((dioramaref20_in.f a1_1 0 59).bind fun t206 => (if t206 = true then ((dioramaref20_in.f a1_2 0 59).bind fun t207 => (if t207 = true then ((dioramaref20_in.f a1_3 0 (wrap64 (a0_0 - 1))).bind fun t208 => (dioramaref20_Count.j0 k (!t208) a0_0 a0_1 a1_0 a1_1 a1_2 a1_3)) else (dioramaref20_Count.j0 k true a0_0 a0_1 a1_0 a1_1 a1_2 a1_3))) else (dioramaref20_Count.j0 k true a0_0 a0_1 a1_0 a1_1 a1_2 a1_3))) else (dioramaref20_Count.j0 k true a0_0 a0_1 a1_0 a1_1 a1_2 a1_3))) else (some (0, t204)))
theorem dioramaref20_Count.mono_l : ∀ k, (∀ y0 y1 y2 y3 y4 y5 y6, LeO (dioramaref20_Count.j0 k y0 y1 y2 y3 y4 y5 y6) (dioramaref20_Count.j0 (k + 1) y0 y1 y2 y3 y4 y5 y6)) ∧ (∀ y0 y1 y2 y3 y4 y5 y6, LeO (dioramaref20_Count.j1 k y0 y1 y2 y3 y4 y5 y6) (dioramaref20_Count.j1 (k + 1) y0 y1 y2 y3 y4 y5 y6)) ∧ (∀ y0 y1 y2 y3 y4 y5 y6 y7, LeO (dioramaref20_Count.l0 k y0 y1 y2 y3 y4 y5 y6 y7) (dioramaref20_Count.l0 (k + 1) y0 y1 y2 y3 y4 y5 y6 y7))
  | 0 => ⟨fun _ _ _ _ _ _ _ r h => by simp [dioramaref20_Count.j0] at h, fun _ _ _ _ _ _ _ r h => by simp [dioramaref20_Count.j1] at h, fun _ _ _ _ _ _ _ _ r h => by simp [dioramaref20_Count.l0] at h⟩
  | k + 1 => by
    obtain ⟨ih0, ih1, ih2⟩ := dioramaref20_Count.mono_l k
    refine ⟨?_, ?_, ?_⟩
    · intro y0 y1 y2 y3 y4 y5 y6
      unfold dioramaref20_Count.j0
      repeat' first
      | (with_reducible exact ih0 _ _ _ _ _ _ _)
      | (with_reducible exact ih1 _ _ _ _ _ _ _)
      | (with_reducible exact ih2 _ _ _ _ _ _ _ _)
      | (with_reducible exact dioramaref20_hour.mono _ _ _)
      | (with_reducible exact LeO.refl _)
      | (with_reducible exact LeO.none _)
      | (with_reducible refine LeO.ite ?_ ?_)
      | (with_reducible refine LeO.bind ?_ (fun _ => ?_))
      | exact ih0 _ _ _ _ _ _ _
      | exact ih1 _ _ _ _ _ _ _
      | exact ih2 _ _ _ _ _ _ _ _
      | exact dioramaref20_hour.mono _ _ _
      | exact LeO.none _
      | refine LeO.ite ?_ ?_
      | refine LeO.bind ?_ (fun _ => ?_)
    · intro y0 y1 y2 y3 y4 y5 y6
      unfold dioramaref20_Count.j1
      repeat' first
      | (with_reducible exact ih0 _ _ _ _ _ _ _)
      | (with_reducible exact ih1 _ _ _ _ _ _ _)
      | (with_reducible exact ih2 _ _ _ _ _ _ _ _)
      | (with_reducible exact dioramaref20_hour.mono _ _ _)
      | (with_reducible exact LeO.refl _)
      | (with_reducible exact LeO.none _)
      | (with_reducible refine LeO.ite ?_ ?_)
      | (with_reducible refine LeO.bind ?_ (fun _ => ?_))
      | exact ih0 _ _ _ _ _ _ _
      | exact ih1 _ _ _ _ _ _ _
      | exact ih2 _ _ _ _ _ _ _ _
      | exact dioramaref20_hour.mono _ _ _
      | exact LeO.none _
      | refine LeO.ite ?_ ?_
      | refine LeO.bind ?_ (fun _ => ?_)
    · intro y0 y1 y2 y3 y4 y5 y6 y7
      unfold dioramaref20_Count.l0
      repeat' first
      | (with_reducible exact ih0 _ _ _ _ _ _ _)
      | (with_reducible exact ih1 _ _ _ _ _ _ _)
      | (with_reducible exact ih2 _ _ _ _ _ _ _ _)
      | (with_reducible exact dioramaref20_hour.mono _ _ _)
      | (with_reducible exact LeO.refl _)
      | (with_reducible exact LeO.none _)
      | (with_reducible refine LeO.ite ?_ ?_)
      | (with_reducible refine LeO.bind ?_ (fun _ => ?_))
      | exact ih0 _ _ _ _ _ _ _
      | exact ih1 _ _ _ _ _ _ _
      | exact ih2 _ _ _ _ _ _ _ _
      | exact dioramaref20_hour.mono _ _ _
      | exact LeO.none _
      | refine LeO.ite ?_ ?_
      | refine LeO.bind ?_ (fun _ => ?_)
theorem dioramaref20_Count.mono : ∀ a0 a1 a2 a3 a4 a5 k, LeO (dioramaref20_Count.f k a0 a1 a2 a3 a4 a5) (dioramaref20_Count.f (k + 1) a0 a1 a2 a3 a4 a5) := by
  intro a0 a1 a2 a3 a4 a5 k
  obtain ⟨ih0, ih1, ih2⟩ := dioramaref20_Count.mono_l k
  unfold dioramaref20_Count.f
  repeat' first
      | (with_reducible exact ih0 _ _ _ _ _ _ _)
      | (with_reducible exact ih1 _ _ _ _ _ _ _)
      | (with_reducible exact ih2 _ _ _ _ _ _ _ _)
      | (with_reducible exact dioramaref20_hour.mono _ _ _)
      | (with_reducible exact LeO.refl _)
      | (with_reducible exact LeO.none _)
      | (with_reducible refine LeO.ite ?_ ?_)
      | (with_reducible refine LeO.bind ?_ (fun _ => ?_))
      | exact ih0 _ _ _ _ _ _ _
      | exact ih1 _ _ _ _ _ _ _
      | exact ih2 _ _ _ _ _ _ _ _
      | exact dioramaref20_hour.mono _ _ _
      | exact LeO.none _
      | refine LeO.ite ?_ ?_
      | refine LeO.bind ?_ (fun _ => ?_)
def dioramaref20_Count.T6 : Bool × List (List Nat × List Nat) := (true, [([], []), ([0], [0]), ([1], [1]), ([2], [2]), ([3], [3]), ([4, 3], [3, 4]), ([3], [3]), ([3], [3]), ([7, 3], [3, 7]), ([6, 8, 3, 3], [3, 6, 8]), ([5, 9, 3], [3, 5, 9]), ([3, 10], [3, 10])])
def dioramaref20_Count.B6 : List Nat := [0, 1, 3, 7, 15, 31, 15, 15, 143, 463, 1023, 2047]
theorem dioramaref20_Count.tab6 : rtab .any (opsOf Try.f22 6) = dioramaref20_Count.T6 := by kernel_rfl
theorem dioramaref20_Count.bits6 : waitsOk dioramaref20_Count.T6.2 dioramaref20_Count.B6 = true := by kernel_rfl
def dioramaref20_Count.T13 : Bool × List (List Nat × List Nat) := (true, [([], []), ([], []), ([1], [1]), ([], []), ([3], [3]), ([2, 4], [2, 4]), ([0, 5], [0, 5]), ([], []), ([7], [7]), ([6, 8], [6, 8]), ([], []), ([], []), ([11], [11]), ([10, 12], [10, 12]), ([9, 13], [9, 13]), ([14, 13, 0, 1, 2, 3, 4, 5, 6, 7, 8, 9, 10, 11, 12, 13, 14], [14]), ([15, 0, 1, 2, 3, 4, 5, 6, 7, 8, 9, 10, 11, 12, 13, 14, 15], [])])
def dioramaref20_Count.B13 : List Nat := [0, 0, 2, 0, 8, 30, 63, 0, 128, 511, 0, 0, 2048, 7168, 16383, 32767, 65535]
theorem dioramaref20_Count.tab13 : rtab .any (opsOf Try.f22 13) = dioramaref20_Count.T13 := by kernel_rfl
theorem dioramaref20_Count.bits13 : waitsOk dioramaref20_Count.T13.2 dioramaref20_Count.B13 = true := by kernel_rfl
set_option maxHeartbeats 8000000 in
set_option maxRecDepth 100000 in
theorem dioramaref20_Count.calls (k : Nat) (a0_0 : Int) (a0_1 : Bool) (a1_0 : Int) (a1_1 : Int) (a1_2 : Int) (a1_3 : Int) (r1 : Int) (r2 : Int) (w : World) (h : dioramaref20_Count.f k a0_0 a0_1 a1_0 a1_1 a1_2 a1_3 = some (r1, r2)) :
    Calls Try.prog 22 #[.agg #[.int .i64 a0_0, .bool a0_1], .agg #[.int .i64 a1_0, .int .i64 a1_1, .int .i64 a1_2, .int .i64 a1_3]] w fun e w' => e = .returned (.tuple #[.int .i64 r1, .int .i64 r2]) ∧ Below w.heap.size w w' := by
  have hu23 := Try.underlying23
  have hu25 := Try.underlying25
  have HB := Aside0.mk (Below.refl w.heap.size w)
  have H : ((dioramaref20_Check.f a0_0 a0_1).bind fun t204 => (if t204 = 0 then ((dioramaref20_in.f a1_0 0 23).bind fun t205 => (if t205 = true then ((dioramaref20_in.f a1_1 0 59).bind fun t206 => (if t206 = true then ((dioramaref20_in.f a1_2 0 59).bind fun t207 => (if t207 = true then ((dioramaref20_in.f a1_3 0 (wrap64 (a0_0 - 1))).bind fun t208 => (dioramaref20_Count.j0 k (!t208) a0_0 a0_1 a1_0 a1_1 a1_2 a1_3)) else (dioramaref20_Count.j0 k true a0_0 a0_1 a1_0 a1_1 a1_2 a1_3))) else (dioramaref20_Count.j0 k true a0_0 a0_1 a1_0 a1_1 a1_2 a1_3))) else (dioramaref20_Count.j0 k true a0_0 a0_1 a1_0 a1_1 a1_2 a1_3))) else (some (0, t204)))) = some (r1, r2) := h
  clear h
  replace H := Option.bind_eq_some_iff.mp H
  obtain ⟨t204, A30, H⟩ := H
  replace H : (if t204 = 0 then ((dioramaref20_in.f a1_0 0 23).bind fun t205 => (if t205 = true then ((dioramaref20_in.f a1_1 0 59).bind fun t206 => (if t206 = true then ((dioramaref20_in.f a1_2 0 59).bind fun t207 => (if t207 = true then ((dioramaref20_in.f a1_3 0 (wrap64 (a0_0 - 1))).bind fun t208 => (dioramaref20_Count.j0 k (!t208) a0_0 a0_1 a1_0 a1_1 a1_2 a1_3)) else (dioramaref20_Count.j0 k true a0_0 a0_1 a1_0 a1_1 a1_2 a1_3))) else (dioramaref20_Count.j0 k true a0_0 a0_1 a1_0 a1_1 a1_2 a1_3))) else (dioramaref20_Count.j0 k true a0_0 a0_1 a1_0 a1_1 a1_2 a1_3))) else (some (0, t204))) = some (r1, r2) := H
  have A3 := Aside0.mk A30
  clear A30
  by_cases c4 : t204 = 0
  · rw [if_pos c4] at H
    have c4b0 : (t204 == 0) = true := beq_iff_eq.mpr c4
    have c4b1 : (t204 != 0) = false := bne_eq_false_iff_eq.mpr c4
    clear c4
    have HC5 := Aside0.mk H
    clear H
    go_enter Try.func22, Try.ntmps22
    go_upto_region 4 with (first | ((with_reducible refine gate_dst (N := 2) rfl ?_); refine box_event ?hg (N := 2) ?hd (cs := #[.int .i64 a0_0, .bool a0_1]) (t := 23) ?hr ?_; (case hd => rfl); (case hg => rfl); (case hr => first | (go_simp; done) | (go_simp; rfl)); intro gb202 hg w6 hbox hb; have n0_ := Aside0.mk (below_step (by repeat (first | (with_reducible first | exact HB.out | apply below_alloc | apply pw_below_drewN | apply below_drew1) | exact HB.out)) hb); have n1_ := Aside0.mk (hbox); have n2_ := Aside0.mk ((by rw [hg]; exact (below_size (by repeat (first | (with_reducible first | exact HB.out | apply below_alloc | apply pw_below_drewN | apply below_drew1) | exact HB.out))) : w.heap.size ≤ gb202)); have n3_ := Aside0.mk ((by rw [hg]; exact (below_size (by repeat (first | (with_reducible first | exact HB.out | apply below_alloc | apply pw_below_drewN | apply below_drew1) | exact HB.out))) : w.heap.size ≤ gb202)); clear HB; have HB := n0_; have BK202 := n1_; have GW202 := n2_; have GE202 := n3_; clear n0_ n1_ n2_ n3_; clear hb hbox hg) | ((with_reducible refine gate_dst (N := 3) rfl ?_); refine box_event ?hg (N := 3) ?hd (cs := #[.int .i64 a1_0, .int .i64 a1_1, .int .i64 a1_2, .int .i64 a1_3]) (t := 25) ?hr ?_; (case hd => rfl); (case hg => rfl); (case hr => first | (go_simp; done) | (go_simp; rfl)); intro gb203 hg w7 hbox hb; have n0_ := Aside0.mk (blk_below (g := gb202) (o := .cells #[.int .i64 a0_0, .bool a0_1] 23 (0, 0)) (by (with_reducible repeat (first | refine blk_drewN ?_ _ | refine blk_drew ?_ | refine blk_alloc ?_ _)); exact BK202.out) hb); have n1_ := Aside0.mk (below_step (by repeat (first | (with_reducible first | exact HB.out | apply below_alloc | apply pw_below_drewN | apply below_drew1 | refine below_set ?_ GE202.out) | exact HB.out)) hb); have n2_ := Aside0.mk (hbox); have n3_ := Aside0.mk ((by rw [hg]; exact (below_size (by repeat (first | (with_reducible first | exact HB.out | apply below_alloc | apply pw_below_drewN | apply below_drew1 | refine below_set ?_ GE202.out) | exact HB.out))) : w.heap.size ≤ gb203)); have n4_ := Aside0.mk ((by rw [hg]; exact (below_size (by repeat (first | (with_reducible first | exact HB.out | apply below_alloc | apply pw_below_drewN | apply below_drew1 | refine below_set ?_ GE202.out) | exact HB.out))) : w.heap.size ≤ gb203)); have n5_ := Aside0.mk ((by rw [hg]; exact Nat.ne_of_lt (blk_lt (g := gb202) (o := .cells #[.int .i64 a0_0, .bool a0_1] 23 (0, 0)) (by (with_reducible repeat (first | refine blk_drewN ?_ _ | refine blk_drew ?_ | refine blk_alloc ?_ _)); exact BK202.out)) : gb202 ≠ gb203)); have n6_ := Aside0.mk ((by rw [hg]; exact Nat.ne_of_gt (blk_lt (g := gb202) (o := .cells #[.int .i64 a0_0, .bool a0_1] 23 (0, 0)) (by (with_reducible repeat (first | refine blk_drewN ?_ _ | refine blk_drew ?_ | refine blk_alloc ?_ _)); exact BK202.out)) : gb203 ≠ gb202)); clear BK202; clear HB; have BK202 := n0_; have HB := n1_; have BK203 := n2_; have GW203 := n3_; have GE203 := n4_; have NB202_203 := n5_; have NB203_202 := n6_; clear n0_ n1_ n2_ n3_ n4_ n5_ n6_; clear hb hbox hg; have hnb8 := NB202_203.out; have hnc8 := NB203_202.out; have hcz9_0 : w7.cell? ⟨gb202, 0, none⟩ = some (.int .i64 a0_0) := (blk_cell BK202.out 0).trans rfl; have hcz9_1 : w7.cell? ⟨gb202, 1, none⟩ = some (.bool a0_1) := (blk_cell BK202.out 1).trans rfl; have hfz9_0 := blk_frozen BK202.out 0; have hfz9_1 := blk_frozen BK202.out 1) | ((with_reducible refine gate_callee (f := 26) rfl ?_); refine goesL_ (some 10) rfl rfl Try.func26 (by kernel_rfl) rfl #[.agg #[.int .i64 a0_0, .bool a0_1]] rfl (by (try simp only [List.map_toArray, List.map_cons, List.map_nil]); first | done | rfl | (simp only [List.length_drop, List.length_take]; rfl)) ?_; (with_reducible refine (dioramaref20_Check.calls a0_0 a0_1 t204 _ A3.out).mono ?_); rintro e w10 ⟨rfl, hb⟩; refine ⟨_, rfl, ?_⟩; have n0_ := Aside0.mk (blk_below (g := gb202) (o := .cells #[.int .i64 a0_0, .bool a0_1] 23 (0, 0)) (by (with_reducible repeat (first | refine blk_drewN ?_ _ | refine blk_drew ?_ | refine blk_alloc ?_ _)); exact BK202.out) hb); have n1_ := Aside0.mk (blk_below (g := gb203) (o := .cells #[.int .i64 a1_0, .int .i64 a1_1, .int .i64 a1_2, .int .i64 a1_3] 25 (0, 0)) (by (with_reducible repeat (first | refine blk_drewN ?_ _ | refine blk_drew ?_ | refine blk_alloc ?_ _)); exact BK203.out) hb); have n2_ := Aside0.mk (below_step (by repeat (first | (with_reducible first | exact HB.out | apply below_alloc | apply pw_below_drewN | apply below_drew1 | refine below_set ?_ GE202.out | refine below_set ?_ GE203.out) | exact HB.out)) hb); clear BK202; clear BK203; clear HB; have BK202 := n0_; have BK203 := n1_; have HB := n2_; clear n0_ n1_ n2_; (try clear hb); (try clear hb2); (try clear hk); (try clear hi)))
    (try simp only [Act.put, List.setIfInBounds_toArray, List.set_cons_zero, List.set_cons_succ])
    go_cut [38] (fun v38 wc => ∃ (kq : Nat) (x38_4 : Bool), v38 = .bool x38_4 ∧ Aside0 (dioramaref20_Count.j0 kq x38_4 a0_0 a0_1 a1_0 a1_1 a1_2 a1_3 = some (r1, r2)) ∧ Aside0 (kq ≤ k) ∧ Aside0 (wc.heap[gb202]? = some (.cells #[.int .i64 a0_0, .bool a0_1] 23 (0, 0))) ∧ Aside0 (wc.heap[gb203]? = some (.cells #[.int .i64 a1_0, .int .i64 a1_1, .int .i64 a1_2, .int .i64 a1_3] 25 (0, 0))) ∧ Aside0 (Below w.heap.size w wc))
    case first =>
      have H := HC5.out
      clear HC5
      replace H := Option.bind_eq_some_iff.mp H
      obtain ⟨t205, A110, H⟩ := H
      replace H : (if t205 = true then ((dioramaref20_in.f a1_1 0 59).bind fun t206 => (if t206 = true then ((dioramaref20_in.f a1_2 0 59).bind fun t207 => (if t207 = true then ((dioramaref20_in.f a1_3 0 (wrap64 (a0_0 - 1))).bind fun t208 => (dioramaref20_Count.j0 k (!t208) a0_0 a0_1 a1_0 a1_1 a1_2 a1_3)) else (dioramaref20_Count.j0 k true a0_0 a0_1 a1_0 a1_1 a1_2 a1_3))) else (dioramaref20_Count.j0 k true a0_0 a0_1 a1_0 a1_1 a1_2 a1_3))) else (dioramaref20_Count.j0 k true a0_0 a0_1 a1_0 a1_1 a1_2 a1_3)) = some (r1, r2) := H
      have A11 := Aside0.mk A110
      clear A110
      by_cases c12 : t205 = true
      · subst c12
        have H1 : ((dioramaref20_in.f a1_1 0 59).bind fun t206 => (if t206 = true then ((dioramaref20_in.f a1_2 0 59).bind fun t207 => (if t207 = true then ((dioramaref20_in.f a1_3 0 (wrap64 (a0_0 - 1))).bind fun t208 => (dioramaref20_Count.j0 k (!t208) a0_0 a0_1 a1_0 a1_1 a1_2 a1_3)) else (dioramaref20_Count.j0 k true a0_0 a0_1 a1_0 a1_1 a1_2 a1_3))) else (dioramaref20_Count.j0 k true a0_0 a0_1 a1_0 a1_1 a1_2 a1_3))) = some (r1, r2) := by rw [if_pos rfl] at H; exact H
        clear H
        have H := H1
        clear H1
        replace H := Option.bind_eq_some_iff.mp H
        obtain ⟨t206, A130, H⟩ := H
        replace H : (if t206 = true then ((dioramaref20_in.f a1_2 0 59).bind fun t207 => (if t207 = true then ((dioramaref20_in.f a1_3 0 (wrap64 (a0_0 - 1))).bind fun t208 => (dioramaref20_Count.j0 k (!t208) a0_0 a0_1 a1_0 a1_1 a1_2 a1_3)) else (dioramaref20_Count.j0 k true a0_0 a0_1 a1_0 a1_1 a1_2 a1_3))) else (dioramaref20_Count.j0 k true a0_0 a0_1 a1_0 a1_1 a1_2 a1_3)) = some (r1, r2) := H
        have A13 := Aside0.mk A130
        clear A130
        by_cases c14 : t206 = true
        · subst c14
          have H1 : ((dioramaref20_in.f a1_2 0 59).bind fun t207 => (if t207 = true then ((dioramaref20_in.f a1_3 0 (wrap64 (a0_0 - 1))).bind fun t208 => (dioramaref20_Count.j0 k (!t208) a0_0 a0_1 a1_0 a1_1 a1_2 a1_3)) else (dioramaref20_Count.j0 k true a0_0 a0_1 a1_0 a1_1 a1_2 a1_3))) = some (r1, r2) := by rw [if_pos rfl] at H; exact H
          clear H
          have H := H1
          clear H1
          replace H := Option.bind_eq_some_iff.mp H
          obtain ⟨t207, A150, H⟩ := H
          replace H : (if t207 = true then ((dioramaref20_in.f a1_3 0 (wrap64 (a0_0 - 1))).bind fun t208 => (dioramaref20_Count.j0 k (!t208) a0_0 a0_1 a1_0 a1_1 a1_2 a1_3)) else (dioramaref20_Count.j0 k true a0_0 a0_1 a1_0 a1_1 a1_2 a1_3)) = some (r1, r2) := H
          have A15 := Aside0.mk A150
          clear A150
          by_cases c16 : t207 = true
          · subst c16
            have H1 : ((dioramaref20_in.f a1_3 0 (wrap64 (a0_0 - 1))).bind fun t208 => (dioramaref20_Count.j0 k (!t208) a0_0 a0_1 a1_0 a1_1 a1_2 a1_3)) = some (r1, r2) := by rw [if_pos rfl] at H; exact H
            clear H
            have H := H1
            clear H1
            replace H := Option.bind_eq_some_iff.mp H
            obtain ⟨t208, A170, H⟩ := H
            replace H : (dioramaref20_Count.j0 k (!t208) a0_0 a0_1 a1_0 a1_1 a1_2 a1_3) = some (r1, r2) := H
            have A17 := Aside0.mk A170
            clear A170
            have H' := Aside0.mk H
            clear H
            have hnb18 := NB203_202.out
            have hnc18 := NB202_203.out
            have hcz19_0 : w10.cell? ⟨gb203, 0, none⟩ = some (.int .i64 a1_0) := (blk_cell BK203.out 0).trans rfl
            have hcz19_1 : w10.cell? ⟨gb203, 1, none⟩ = some (.int .i64 a1_1) := (blk_cell BK203.out 1).trans rfl
            have hcz19_2 : w10.cell? ⟨gb203, 2, none⟩ = some (.int .i64 a1_2) := (blk_cell BK203.out 2).trans rfl
            have hcz19_3 : w10.cell? ⟨gb203, 3, none⟩ = some (.int .i64 a1_3) := (blk_cell BK203.out 3).trans rfl
            have hfz19_0 := blk_frozen BK203.out 0
            have hfz19_1 := blk_frozen BK203.out 1
            have hfz19_2 := blk_frozen BK203.out 2
            have hfz19_3 := blk_frozen BK203.out 3
            go_wp2_with (first | ((with_reducible refine gate_callee (f := 39) rfl ?_); refine goesL_ (some 16) rfl rfl Try.func39 (by kernel_rfl) rfl #[.int .i64 a1_0, .int .i64 0, .int .i64 23] rfl (by (try simp only [List.map_toArray, List.map_cons, List.map_nil]); first | done | rfl | (simp only [List.length_drop, List.length_take]; rfl)) ?_; (with_reducible refine (dioramaref20_in.calls a1_0 0 23 true _ A11.out).mono ?_); rintro e w' ⟨rfl, ⟨nd, rfl⟩⟩; refine ⟨_, rfl, ?_⟩) | (go_at_call 39; (with_reducible refine (dioramaref20_in.calls a1_1 0 59 true _ A13.out).mono ?_); rintro e w' ⟨rfl, ⟨nd, rfl⟩⟩) | (go_at_call 39; (with_reducible refine (dioramaref20_in.calls a1_2 0 59 true _ A15.out).mono ?_); rintro e w' ⟨rfl, ⟨nd, rfl⟩⟩; have hcz20_0 : w10.cell? ⟨gb202, 0, none⟩ = some (.int .i64 a0_0) := (blk_cell BK202.out 0).trans rfl; have hcz20_1 : w10.cell? ⟨gb202, 1, none⟩ = some (.bool a0_1) := (blk_cell BK202.out 1).trans rfl; have hfz20_0 := blk_frozen BK202.out 0; have hfz20_1 := blk_frozen BK202.out 1) | (go_at_call 39; (with_reducible refine (dioramaref20_in.calls a1_3 0 (wrap64 (a0_0 - 1)) t208 _ A17.out).mono ?_); rintro e w' ⟨rfl, ⟨nd, rfl⟩⟩))
            go_meet
            case rel => exact ⟨_, (!t208), (by first | rfl | (simp; done) | (simp [*]; done)), H', ⟨by first | omega | exact Nat.le_refl _⟩, ⟨by (with_reducible repeat (first | refine blk_drewN ?_ _ | refine blk_drew ?_ | refine blk_alloc ?_ _)); exact BK202.out⟩, ⟨by (with_reducible repeat (first | refine blk_drewN ?_ _ | refine blk_drew ?_ | refine blk_alloc ?_ _)); exact BK203.out⟩, ⟨by repeat (first | (with_reducible first | exact HB.out | apply below_alloc | apply pw_below_drewN | apply below_drew1 | refine below_set ?_ GE202.out | refine below_set ?_ GE203.out) | exact HB.out)⟩⟩
          · replace c16 := Bool.eq_false_iff.mpr c16
            subst c16
            have H1 : (dioramaref20_Count.j0 k true a0_0 a0_1 a1_0 a1_1 a1_2 a1_3) = some (r1, r2) := by rw [if_neg (show ¬ (false = true) by decide)] at H; exact H
            clear H
            have H := H1
            clear H1
            have H' := Aside0.mk H
            clear H
            have hnb21 := NB203_202.out
            have hnc21 := NB202_203.out
            have hcz22_0 : w10.cell? ⟨gb203, 0, none⟩ = some (.int .i64 a1_0) := (blk_cell BK203.out 0).trans rfl
            have hcz22_1 : w10.cell? ⟨gb203, 1, none⟩ = some (.int .i64 a1_1) := (blk_cell BK203.out 1).trans rfl
            have hcz22_2 : w10.cell? ⟨gb203, 2, none⟩ = some (.int .i64 a1_2) := (blk_cell BK203.out 2).trans rfl
            have hcz22_3 : w10.cell? ⟨gb203, 3, none⟩ = some (.int .i64 a1_3) := (blk_cell BK203.out 3).trans rfl
            have hfz22_0 := blk_frozen BK203.out 0
            have hfz22_1 := blk_frozen BK203.out 1
            have hfz22_2 := blk_frozen BK203.out 2
            have hfz22_3 := blk_frozen BK203.out 3
            go_wp2_with (first | ((with_reducible refine gate_callee (f := 39) rfl ?_); refine goesL_ (some 16) rfl rfl Try.func39 (by kernel_rfl) rfl #[.int .i64 a1_0, .int .i64 0, .int .i64 23] rfl (by (try simp only [List.map_toArray, List.map_cons, List.map_nil]); first | done | rfl | (simp only [List.length_drop, List.length_take]; rfl)) ?_; (with_reducible refine (dioramaref20_in.calls a1_0 0 23 true _ A11.out).mono ?_); rintro e w' ⟨rfl, ⟨nd, rfl⟩⟩; refine ⟨_, rfl, ?_⟩) | (go_at_call 39; (with_reducible refine (dioramaref20_in.calls a1_1 0 59 true _ A13.out).mono ?_); rintro e w' ⟨rfl, ⟨nd, rfl⟩⟩) | (go_at_call 39; (with_reducible refine (dioramaref20_in.calls a1_2 0 59 false _ A15.out).mono ?_); rintro e w' ⟨rfl, ⟨nd, rfl⟩⟩))
            go_meet
            case rel => exact ⟨_, (true), (by first | rfl | (simp; done) | (simp [*]; done)), H', ⟨by first | omega | exact Nat.le_refl _⟩, ⟨by (with_reducible repeat (first | refine blk_drewN ?_ _ | refine blk_drew ?_ | refine blk_alloc ?_ _)); exact BK202.out⟩, ⟨by (with_reducible repeat (first | refine blk_drewN ?_ _ | refine blk_drew ?_ | refine blk_alloc ?_ _)); exact BK203.out⟩, ⟨by repeat (first | (with_reducible first | exact HB.out | apply below_alloc | apply pw_below_drewN | apply below_drew1 | refine below_set ?_ GE202.out | refine below_set ?_ GE203.out) | exact HB.out)⟩⟩
        · replace c14 := Bool.eq_false_iff.mpr c14
          subst c14
          have H1 : (dioramaref20_Count.j0 k true a0_0 a0_1 a1_0 a1_1 a1_2 a1_3) = some (r1, r2) := by rw [if_neg (show ¬ (false = true) by decide)] at H; exact H
          clear H
          have H := H1
          clear H1
          have H' := Aside0.mk H
          clear H
          have hnb23 := NB203_202.out
          have hnc23 := NB202_203.out
          have hcz24_0 : w10.cell? ⟨gb203, 0, none⟩ = some (.int .i64 a1_0) := (blk_cell BK203.out 0).trans rfl
          have hcz24_1 : w10.cell? ⟨gb203, 1, none⟩ = some (.int .i64 a1_1) := (blk_cell BK203.out 1).trans rfl
          have hcz24_2 : w10.cell? ⟨gb203, 2, none⟩ = some (.int .i64 a1_2) := (blk_cell BK203.out 2).trans rfl
          have hcz24_3 : w10.cell? ⟨gb203, 3, none⟩ = some (.int .i64 a1_3) := (blk_cell BK203.out 3).trans rfl
          have hfz24_0 := blk_frozen BK203.out 0
          have hfz24_1 := blk_frozen BK203.out 1
          have hfz24_2 := blk_frozen BK203.out 2
          have hfz24_3 := blk_frozen BK203.out 3
          go_wp2_with (first | ((with_reducible refine gate_callee (f := 39) rfl ?_); refine goesL_ (some 16) rfl rfl Try.func39 (by kernel_rfl) rfl #[.int .i64 a1_0, .int .i64 0, .int .i64 23] rfl (by (try simp only [List.map_toArray, List.map_cons, List.map_nil]); first | done | rfl | (simp only [List.length_drop, List.length_take]; rfl)) ?_; (with_reducible refine (dioramaref20_in.calls a1_0 0 23 true _ A11.out).mono ?_); rintro e w' ⟨rfl, ⟨nd, rfl⟩⟩; refine ⟨_, rfl, ?_⟩) | (go_at_call 39; (with_reducible refine (dioramaref20_in.calls a1_1 0 59 false _ A13.out).mono ?_); rintro e w' ⟨rfl, ⟨nd, rfl⟩⟩))
          go_meet
          case rel => exact ⟨_, (true), (by first | rfl | (simp; done) | (simp [*]; done)), H', ⟨by first | omega | exact Nat.le_refl _⟩, ⟨by (with_reducible repeat (first | refine blk_drewN ?_ _ | refine blk_drew ?_ | refine blk_alloc ?_ _)); exact BK202.out⟩, ⟨by (with_reducible repeat (first | refine blk_drewN ?_ _ | refine blk_drew ?_ | refine blk_alloc ?_ _)); exact BK203.out⟩, ⟨by repeat (first | (with_reducible first | exact HB.out | apply below_alloc | apply pw_below_drewN | apply below_drew1 | refine below_set ?_ GE202.out | refine below_set ?_ GE203.out) | exact HB.out)⟩⟩
      · replace c12 := Bool.eq_false_iff.mpr c12
        subst c12
        have H1 : (dioramaref20_Count.j0 k true a0_0 a0_1 a1_0 a1_1 a1_2 a1_3) = some (r1, r2) := by rw [if_neg (show ¬ (false = true) by decide)] at H; exact H
        clear H
        have H := H1
        clear H1
        have H' := Aside0.mk H
        clear H
        have hnb25 := NB203_202.out
        have hnc25 := NB202_203.out
        have hcz26_0 : w10.cell? ⟨gb203, 0, none⟩ = some (.int .i64 a1_0) := (blk_cell BK203.out 0).trans rfl
        have hcz26_1 : w10.cell? ⟨gb203, 1, none⟩ = some (.int .i64 a1_1) := (blk_cell BK203.out 1).trans rfl
        have hcz26_2 : w10.cell? ⟨gb203, 2, none⟩ = some (.int .i64 a1_2) := (blk_cell BK203.out 2).trans rfl
        have hcz26_3 : w10.cell? ⟨gb203, 3, none⟩ = some (.int .i64 a1_3) := (blk_cell BK203.out 3).trans rfl
        have hfz26_0 := blk_frozen BK203.out 0
        have hfz26_1 := blk_frozen BK203.out 1
        have hfz26_2 := blk_frozen BK203.out 2
        have hfz26_3 := blk_frozen BK203.out 3
        go_wp2_with (first | ((with_reducible refine gate_callee (f := 39) rfl ?_); refine goesL_ (some 16) rfl rfl Try.func39 (by kernel_rfl) rfl #[.int .i64 a1_0, .int .i64 0, .int .i64 23] rfl (by (try simp only [List.map_toArray, List.map_cons, List.map_nil]); first | done | rfl | (simp only [List.length_drop, List.length_take]; rfl)) ?_; (with_reducible refine (dioramaref20_in.calls a1_0 0 23 false _ A11.out).mono ?_); rintro e w' ⟨rfl, ⟨nd, rfl⟩⟩; refine ⟨_, rfl, ?_⟩))
        go_meet
        case rel => exact ⟨_, (true), (by first | rfl | (simp; done) | (simp [*]; done)), H', ⟨by first | omega | exact Nat.le_refl _⟩, ⟨by (with_reducible repeat (first | refine blk_drewN ?_ _ | refine blk_drew ?_ | refine blk_alloc ?_ _)); exact BK202.out⟩, ⟨by (with_reducible repeat (first | refine blk_drewN ?_ _ | refine blk_drew ?_ | refine blk_alloc ?_ _)); exact BK203.out⟩, ⟨by repeat (first | (with_reducible first | exact HB.out | apply below_alloc | apply pw_below_drewN | apply below_drew1 | refine below_set ?_ GE202.out | refine below_set ?_ GE203.out) | exact HB.out)⟩⟩
    case rest =>
      clear HC5
      try clear c1
      try clear c2
      try clear p2
      try clear c3
      try clear c4
      try clear c4b0
      try clear c4b1
      try clear p6
      try clear c8
      try clear c12
      try clear c14
      try clear c16
      try clear c18
      try clear c21
      try clear c22
      try clear c23
      try clear c25
      try clear c26
      try clear hcz19_0
      try clear hcz19_1
      try clear hcz19_2
      try clear hcz19_3
      try clear hcz20_0
      try clear hcz20_1
      try clear hcz22_0
      try clear hcz22_1
      try clear hcz22_2
      try clear hcz22_3
      try clear hcz24_0
      try clear hcz24_1
      try clear hcz24_2
      try clear hcz24_3
      try clear hcz26_0
      try clear hcz26_1
      try clear hcz26_2
      try clear hcz26_3
      try clear hcz9_0
      try clear hcz9_1
      try clear hfz19_0
      try clear hfz19_1
      try clear hfz19_2
      try clear hfz19_3
      try clear hfz20_0
      try clear hfz20_1
      try clear hfz22_0
      try clear hfz22_1
      try clear hfz22_2
      try clear hfz22_3
      try clear hfz24_0
      try clear hfz24_1
      try clear hfz24_2
      try clear hfz24_3
      try clear hfz26_0
      try clear hfz26_1
      try clear hfz26_2
      try clear hfz26_3
      try clear hfz9_0
      try clear hfz9_1
      obtain ⟨kq, x38_4, rfl, HA, HJ4, BK202, BK203, HB⟩ := hcut
      cases kq with
      | zero => exact absurd HA.out (by simp [dioramaref20_Count.j0])
      | succ kj4 =>
        have H := HA.out
        clear HA
        simp only [dioramaref20_Count.j0] at H
        by_cases c27 : x38_4 = true
        · subst c27
          have H1 : (some (0, 1)) = some (r1, r2) := by rw [if_pos rfl] at H; exact H
          clear H
          have H := H1
          clear H1
          simp only [Option.some.injEq, Prod.mk.injEq] at H
          obtain ⟨rfl, rfl⟩ := H
          go_wp2
          go_ret2
          exact ⟨by first | rfl | (simp [errW_none, errW_some] <;> rfl) | (simp [*, errW_none, errW_some] <;> rfl), by repeat (first | (with_reducible first | exact HB.out | apply below_alloc | apply pw_below_drewN | apply below_drew1 | refine below_set ?_ GE202.out | refine below_set ?_ GE203.out) | exact HB.out)⟩
        · replace c27 := Bool.eq_false_iff.mpr c27
          subst c27
          have H1 : (if a1_2 = 0 then ((dioramaref20_missing.f a0_0 a0_1 a1_1).bind fun t209 => (dioramaref20_Count.j1 kj4 (decide (a1_3 < t209)) a0_0 a0_1 a1_0 a1_1 a1_2 a1_3)) else (dioramaref20_Count.j1 kj4 false a0_0 a0_1 a1_0 a1_1 a1_2 a1_3)) = some (r1, r2) := by rw [if_neg (show ¬ (false = true) by decide)] at H; exact H
          clear H
          have H := H1
          clear H1
          have HC28 := Aside0.mk H
          clear H
          go_upto_region 6 with (fail)
          go_cut [50] (fun v50 wc => ∃ (kq : Nat) (x50_27 : Bool), v50 = .bool x50_27 ∧ Aside0 (dioramaref20_Count.j1 kq x50_27 a0_0 a0_1 a1_0 a1_1 a1_2 a1_3 = some (r1, r2)) ∧ Aside0 (kq ≤ kj4) ∧ Aside0 (wc.heap[gb202]? = some (.cells #[.int .i64 a0_0, .bool a0_1] 23 (0, 0))) ∧ Aside0 (wc.heap[gb203]? = some (.cells #[.int .i64 a1_0, .int .i64 a1_1, .int .i64 a1_2, .int .i64 a1_3] 25 (0, 0))) ∧ Aside0 (Below w.heap.size w wc))
          case first =>
            have H := HC28.out
            clear HC28
            by_cases c29 : a1_2 = 0
            · rw [if_pos c29] at H
              have c29b0 : (a1_2 == 0) = true := beq_iff_eq.mpr c29
              have c29b1 : (a1_2 != 0) = false := bne_eq_false_iff_eq.mpr c29
              clear c29
              (first | rw [c29b0] | (simp only [i64_w, i32_w]; rw [c29b0]) | skip)
              replace H := Option.bind_eq_some_iff.mp H
              obtain ⟨t209, A300, H⟩ := H
              replace H : (dioramaref20_Count.j1 kj4 (decide (a1_3 < t209)) a0_0 a0_1 a1_0 a1_1 a1_2 a1_3) = some (r1, r2) := H
              have A30 := Aside0.mk A300
              clear A300
              have H' := Aside0.mk H
              clear H
              try go_wp2
              have n0_ := Aside0.mk (blk_drew BK202.out)
              have n1_ := Aside0.mk (blk_drew BK203.out)
              have n2_ := Aside0.mk (below_drew1 HB.out)
              clear BK202
              clear BK203
              clear HB
              have BK202 := n0_
              have BK203 := n1_
              have HB := n2_
              clear n0_ n1_ n2_
              refine start_ (n := 12) (S := fun w' => w'.cell? ⟨gb203, 0, none⟩ = some (.int .i64 a1_0) ∧ w'.cell? ⟨gb203, 1, none⟩ = some (.int .i64 a1_1) ∧ w'.cell? ⟨gb203, 2, none⟩ = some (.int .i64 a1_2) ∧ w'.cell? ⟨gb203, 3, none⟩ = some (.int .i64 a1_3) ∧ w'.cell? ⟨gb202, 0, none⟩ = some (.int .i64 a0_0) ∧ w'.cell? ⟨gb202, 1, none⟩ = some (.bool a0_1)) (ds := []) #[false, false, false, false, false, false, false, false, false, false, false, false] (by kernel_rfl) rfl rfl ⟨(blk_cell BK203.out 0).trans rfl, (blk_cell BK203.out 1).trans rfl, (blk_cell BK203.out 2).trans rfl, (blk_cell BK203.out 3).trans rfl, (blk_cell BK202.out 0).trans rfl, (blk_cell BK202.out 1).trans rfl⟩ (fun hHeld => ?_); refine with_tabW dioramaref20_Count.tab6 dioramaref20_Count.bits6 (fun HT_ HW_ => ?_)
              generalize wc.drew = w31 at BK202 BK203 HB hHeld ⊢
              refine pure_ (i := 0) (N := some 39) (v := ?_) (a' := ?_) #[true, false, false, false, false, false, false, false, false, false, false, false] rfl rfl (any_of HT_.out (by kernel_rfl)) (fun _ _ _ h => h) (Or.inl ⟨by rfl, ?_⟩) ?_ ?_
              rotate_left
              · intro w'
                go_simp
                with_reducible rfl
              rotate_left
              · simp only [Act.put, List.setIfInBounds_toArray, List.set_cons_zero, List.set_cons_succ, i64_w, i32_w]
                rfl
              refine take_ (i := 1) (N := some 40) (v := ?_) (a' := ?_) #[true, true, false, false, false, false, false, false, false, false, false, false] rfl rfl (take_ofW HT_.out HW_.out (by kernel_rfl)) (fun _ _ _ h => h) (Or.inl ⟨by rfl, ?_⟩) hHeld ?_ ?_
              rotate_left
              · rintro w' ⟨s0, s1, s2, s3, s4, s5⟩
                go_simp
                with_reducible rfl
              rotate_left
              · simp only [Act.put, List.setIfInBounds_toArray, List.set_cons_zero, List.set_cons_succ, i64_w, i32_w]
                rfl
              refine pure_ (i := 2) (N := some 41) (v := ?_) (a' := ?_) #[true, true, true, false, false, false, false, false, false, false, false, false] rfl rfl (any_of HT_.out (by kernel_rfl)) (fun _ _ _ h => h) (Or.inl ⟨by rfl, ?_⟩) ?_ ?_
              rotate_left
              · intro w'
                go_simp
                with_reducible rfl
              rotate_left
              · simp only [Act.put, List.setIfInBounds_toArray, List.set_cons_zero, List.set_cons_succ, i64_w, i32_w]
                rfl
              refine pure_ (i := 3) (N := some 42) (v := ?_) (a' := ?_) #[true, true, true, true, false, false, false, false, false, false, false, false] rfl rfl (any_of HT_.out (by kernel_rfl)) (fun _ _ _ h => h) (Or.inl ⟨by rfl, ?_⟩) ?_ ?_
              rotate_left
              · intro w'
                go_simp
                with_reducible rfl
              rotate_left
              · simp only [Act.put, List.setIfInBounds_toArray, List.set_cons_zero, List.set_cons_succ, i64_w, i32_w]
                rfl
              refine pure_ (i := 4) (N := some 43) (v := ?_) (a' := ?_) #[true, true, true, true, true, false, false, false, false, false, false, false] rfl rfl (any_of HT_.out (by kernel_rfl)) (fun _ _ _ h => h) (Or.inl ⟨by rfl, ?_⟩) ?_ ?_
              rotate_left
              · intro w'
                go_simp
                with_reducible rfl
              rotate_left
              · simp only [Act.put, List.setIfInBounds_toArray, List.set_cons_zero, List.set_cons_succ, i64_w, i32_w]
                rfl
              refine pure_ (i := 7) (N := some 46) (v := ?_) (a' := ?_) #[true, true, true, true, true, false, false, true, false, false, false, false] rfl rfl (any_of HT_.out (by kernel_rfl)) (fun _ _ _ h => h) (Or.inl ⟨by rfl, ?_⟩) ?_ ?_
              rotate_left
              · intro w'
                go_simp
                with_reducible rfl
              rotate_left
              · simp only [Act.put, List.setIfInBounds_toArray, List.set_cons_zero, List.set_cons_succ, i64_w, i32_w]
                rfl
              refine take_ (i := 5) (N := some 44) (v := ?_) (a' := ?_) #[true, true, true, true, true, true, false, true, false, false, false, false] rfl rfl (take_ofW HT_.out HW_.out (by kernel_rfl)) (fun _ _ _ h => h) (Or.inl ⟨by rfl, ?_⟩) hHeld ?_ ?_
              rotate_left
              · rintro w' ⟨s0, s1, s2, s3, s4, s5⟩
                go_simp
                with_reducible rfl
              rotate_left
              · simp only [Act.put, List.setIfInBounds_toArray, List.set_cons_zero, List.set_cons_succ, i64_w, i32_w]
                rfl
              refine take_ (i := 6) (N := some 45) (v := ?_) (a' := ?_) #[true, true, true, true, true, true, true, true, false, false, false, false] rfl rfl (take_ofW HT_.out HW_.out (by kernel_rfl)) (fun _ _ _ h => h) (Or.inl ⟨by rfl, ?_⟩) hHeld ?_ ?_
              rotate_left
              · rintro w' ⟨s0, s1, s2, s3, s4, s5⟩
                go_simp
                with_reducible rfl
              rotate_left
              · simp only [Act.put, List.setIfInBounds_toArray, List.set_cons_zero, List.set_cons_succ, i64_w, i32_w]
                rfl
              refine take_ (i := 8) (N := some 47) (v := ?_) (a' := ?_) #[true, true, true, true, true, true, true, true, true, false, false, false] rfl rfl (take_ofW HT_.out HW_.out (by kernel_rfl)) (fun _ _ _ h => h) (Or.inl ⟨by rfl, ?_⟩) hHeld ?_ ?_
              rotate_left
              · rintro w' ⟨s0, s1, s2, s3, s4, s5⟩
                go_simp
                with_reducible rfl
              rotate_left
              · simp only [Act.put, List.setIfInBounds_toArray, List.set_cons_zero, List.set_cons_succ, i64_w, i32_w]
                rfl
              refine one_ (i := 9) (N := some 48) #[true, true, true, true, true, true, true, true, true, true, false, false] rfl rfl (one_of HT_.out (by kernel_rfl)) (by decide) (fun K hK => ?_)
              refine goes_ Try.func42 (by kernel_rfl) rfl #[.agg #[.int .i64 a0_0, .bool a0_1], .int .i64 a1_1] (by rfl) rfl rfl (by (try simp only [List.map_toArray, List.map_cons, List.map_nil]); first | done | rfl | (simp only [List.length_drop, List.length_take]; rfl)) ?_
              with_reducible refine (dioramaref20_missing.calls a0_0 a0_1 a1_1 t209 _ A30.out).mono ?_
              rintro e w32 ⟨rfl, hb⟩
              refine ⟨_, rfl, ?_⟩
              have n0_ := Aside0.mk (blk_below (g := gb202) (o := .cells #[.int .i64 a0_0, .bool a0_1] 23 (0, 0)) (by (with_reducible repeat (first | refine blk_drewN ?_ _ | refine blk_drew ?_ | refine blk_alloc ?_ _)); exact BK202.out) hb)
              have n1_ := Aside0.mk (blk_below (g := gb203) (o := .cells #[.int .i64 a1_0, .int .i64 a1_1, .int .i64 a1_2, .int .i64 a1_3] 25 (0, 0)) (by (with_reducible repeat (first | refine blk_drewN ?_ _ | refine blk_drew ?_ | refine blk_alloc ?_ _)); exact BK203.out) hb)
              have n2_ := Aside0.mk (below_step (by repeat (first | (with_reducible first | exact HB.out | apply below_alloc | apply pw_below_drewN | apply below_drew1 | refine below_set ?_ GE202.out | refine below_set ?_ GE203.out) | exact HB.out)) hb)
              clear BK202
              clear BK203
              clear HB
              have BK202 := n0_
              have BK203 := n1_
              have HB := n2_
              clear n0_ n1_ n2_
              (try clear hb)
              (try clear hb2)
              (try clear hk)
              (try clear hi)
              refine hK.out _ _ ⟨(blk_cell BK203.out 0).trans rfl, (blk_cell BK203.out 1).trans rfl, (blk_cell BK203.out 2).trans rfl, (blk_cell BK203.out 3).trans rfl, (blk_cell BK202.out 0).trans rfl, (blk_cell BK202.out 1).trans rfl⟩ (fun hHeld => ?_)
              clear hK K
              refine norm_ (a' := ?_) ?_ ?_
              rotate_left
              · show Act.put _ (some 48) _ = _
                simp only [Act.put, List.setIfInBounds_toArray, List.set_cons_zero, List.set_cons_succ, i64_w, i32_w]
                rfl
              refine pure_ (i := 10) (N := some 49) (v := ?_) (a' := ?_) #[true, true, true, true, true, true, true, true, true, true, true, false] rfl rfl (any_of HT_.out (by kernel_rfl)) (fun _ _ _ h => h) (Or.inl ⟨by rfl, ?_⟩) ?_ ?_
              rotate_left
              · intro w'
                go_simp
                with_reducible rfl
              rotate_left
              · simp only [Act.put, List.setIfInBounds_toArray, List.set_cons_zero, List.set_cons_succ, i64_w, i32_w]
                rfl
              refine pure_ (i := 11) (N := some 50) (v := ?_) (a' := ?_) #[true, true, true, true, true, true, true, true, true, true, true, true] rfl rfl (any_of HT_.out (by kernel_rfl)) (fun _ _ _ h => h) (Or.inl ⟨by rfl, ?_⟩) ?_ ?_
              rotate_left
              · intro w'
                go_simp
                with_reducible rfl
              rotate_left
              · simp only [Act.put, List.setIfInBounds_toArray, List.set_cons_zero, List.set_cons_succ, i64_w, i32_w]
                rfl
              refine done_ (done_of HT_.out (by kernel_rfl)) ?_
              try go_wp2
              go_meet
              case rel => exact ⟨_, (decide (a1_3 < t209)), (by first | rfl | (simp; done) | (simp [*]; done)), H', ⟨by have := HJ4.out; first | omega | exact Nat.le_refl _⟩, ⟨by (with_reducible repeat (first | refine blk_drewN ?_ _ | refine blk_drew ?_ | refine blk_alloc ?_ _)); exact BK202.out⟩, ⟨by (with_reducible repeat (first | refine blk_drewN ?_ _ | refine blk_drew ?_ | refine blk_alloc ?_ _)); exact BK203.out⟩, ⟨by repeat (first | (with_reducible first | exact HB.out | apply below_alloc | apply pw_below_drewN | apply below_drew1 | refine below_set ?_ GE202.out | refine below_set ?_ GE203.out) | exact HB.out)⟩⟩
            · rw [if_neg c29] at H
              have c29b0 : (a1_2 == 0) = false := beq_eq_false_iff_ne.mpr c29
              have c29b1 : (a1_2 != 0) = true := bne_iff_ne.mpr c29
              (first | rw [c29b0] | (simp only [i64_w, i32_w]; rw [c29b0]) | skip)
              have H' := Aside0.mk H
              clear H
              try go_wp2
              have n0_ := Aside0.mk (blk_drew BK202.out)
              have n1_ := Aside0.mk (blk_drew BK203.out)
              have n2_ := Aside0.mk (below_drew1 HB.out)
              clear BK202
              clear BK203
              clear HB
              have BK202 := n0_
              have BK203 := n1_
              have HB := n2_
              clear n0_ n1_ n2_
              refine start_ (n := 12) (S := fun w' => w'.cell? ⟨gb203, 0, none⟩ = some (.int .i64 a1_0) ∧ w'.cell? ⟨gb203, 1, none⟩ = some (.int .i64 a1_1) ∧ w'.cell? ⟨gb203, 2, none⟩ = some (.int .i64 a1_2) ∧ w'.cell? ⟨gb203, 3, none⟩ = some (.int .i64 a1_3)) (ds := []) #[false, false, false, false, false, false, false, false, false, false, false, false] (by kernel_rfl) rfl rfl ⟨(blk_cell BK203.out 0).trans rfl, (blk_cell BK203.out 1).trans rfl, (blk_cell BK203.out 2).trans rfl, (blk_cell BK203.out 3).trans rfl⟩ (fun hHeld => ?_); refine with_tabW dioramaref20_Count.tab6 dioramaref20_Count.bits6 (fun HT_ HW_ => ?_)
              generalize wc.drew = w33 at BK202 BK203 HB hHeld ⊢
              refine pure_ (i := 0) (N := some 39) (v := ?_) (a' := ?_) #[true, false, false, false, false, false, false, false, false, false, false, false] rfl rfl (any_of HT_.out (by kernel_rfl)) (fun _ _ _ h => h) (Or.inl ⟨by rfl, ?_⟩) ?_ ?_
              rotate_left
              · intro w'
                go_simp
                with_reducible rfl
              rotate_left
              · simp only [Act.put, List.setIfInBounds_toArray, List.set_cons_zero, List.set_cons_succ, i64_w, i32_w]
                rfl
              refine take_ (i := 1) (N := some 40) (v := ?_) (a' := ?_) #[true, true, false, false, false, false, false, false, false, false, false, false] rfl rfl (take_ofW HT_.out HW_.out (by kernel_rfl)) (fun _ _ _ h => h) (Or.inl ⟨by rfl, ?_⟩) hHeld ?_ ?_
              rotate_left
              · rintro w' ⟨s0, s1, s2, s3⟩
                go_simp
                with_reducible rfl
              rotate_left
              · simp only [Act.put, List.setIfInBounds_toArray, List.set_cons_zero, List.set_cons_succ, i64_w, i32_w]
                rfl
              refine pure_ (i := 2) (N := some 41) (v := ?_) (a' := ?_) #[true, true, true, false, false, false, false, false, false, false, false, false] rfl rfl (any_of HT_.out (by kernel_rfl)) (fun _ _ _ h => h) (Or.inl ⟨by rfl, ?_⟩) ?_ ?_
              rotate_left
              · intro w'
                go_simp
                with_reducible rfl
              rotate_left
              · simp only [Act.put, List.setIfInBounds_toArray, List.set_cons_zero, List.set_cons_succ, i64_w, i32_w]
                rfl
              refine pure_ (i := 3) (N := some 42) (v := ?_) (a' := ?_) #[true, true, true, true, false, false, false, false, false, false, false, false] rfl rfl (any_of HT_.out (by kernel_rfl)) (fun _ _ _ h => h) (Or.inl ⟨by rfl, ?_⟩) ?_ ?_
              rotate_left
              · intro w'
                go_simp
                with_reducible rfl
              rotate_left
              · simp only [Act.put, List.setIfInBounds_toArray, List.set_cons_zero, List.set_cons_succ, i64_w, i32_w]
                rfl
              refine pure_ (i := 4) (N := some 43) (v := undef) (a' := ?_) #[true, true, true, true, true, false, false, false, false, false, false, false] rfl rfl (any_of HT_.out (by kernel_rfl)) (fun _ _ _ h => h) (Or.inr ⟨by rfl, rfl⟩) ?_ ?_
              rotate_left
              · simp only [Act.put, List.setIfInBounds_toArray, List.set_cons_zero, List.set_cons_succ, i64_w, i32_w]
                rfl
              refine pure_ (i := 5) (N := some 44) (v := undef) (a' := ?_) #[true, true, true, true, true, true, false, false, false, false, false, false] rfl rfl (any_of HT_.out (by kernel_rfl)) (fun _ _ _ h => h) (Or.inr ⟨by rfl, rfl⟩) ?_ ?_
              rotate_left
              · simp only [Act.put, List.setIfInBounds_toArray, List.set_cons_zero, List.set_cons_succ, i64_w, i32_w]
                rfl
              refine pure_ (i := 6) (N := some 45) (v := undef) (a' := ?_) #[true, true, true, true, true, true, true, false, false, false, false, false] rfl rfl (any_of HT_.out (by kernel_rfl)) (fun _ _ _ h => h) (Or.inr ⟨by rfl, rfl⟩) ?_ ?_
              rotate_left
              · simp only [Act.put, List.setIfInBounds_toArray, List.set_cons_zero, List.set_cons_succ, i64_w, i32_w]
                rfl
              refine pure_ (i := 7) (N := some 46) (v := undef) (a' := ?_) #[true, true, true, true, true, true, true, true, false, false, false, false] rfl rfl (any_of HT_.out (by kernel_rfl)) (fun _ _ _ h => h) (Or.inr ⟨by rfl, rfl⟩) ?_ ?_
              rotate_left
              · simp only [Act.put, List.setIfInBounds_toArray, List.set_cons_zero, List.set_cons_succ, i64_w, i32_w]
                rfl
              refine pure_ (i := 8) (N := some 47) (v := undef) (a' := ?_) #[true, true, true, true, true, true, true, true, true, false, false, false] rfl rfl (any_of HT_.out (by kernel_rfl)) (fun _ _ _ h => h) (Or.inr ⟨by rfl, rfl⟩) ?_ ?_
              rotate_left
              · simp only [Act.put, List.setIfInBounds_toArray, List.set_cons_zero, List.set_cons_succ, i64_w, i32_w]
                rfl
              refine pure_ (i := 9) (N := some 48) (v := undef) (a' := ?_) #[true, true, true, true, true, true, true, true, true, true, false, false] rfl rfl (any_of HT_.out (by kernel_rfl)) (fun _ _ _ h => h) (Or.inr ⟨by rfl, rfl⟩) ?_ ?_
              rotate_left
              · simp only [Act.put, List.setIfInBounds_toArray, List.set_cons_zero, List.set_cons_succ, i64_w, i32_w]
                rfl
              refine pure_ (i := 10) (N := some 49) (v := undef) (a' := ?_) #[true, true, true, true, true, true, true, true, true, true, true, false] rfl rfl (any_of HT_.out (by kernel_rfl)) (fun _ _ _ h => h) (Or.inr ⟨by rfl, rfl⟩) ?_ ?_
              rotate_left
              · simp only [Act.put, List.setIfInBounds_toArray, List.set_cons_zero, List.set_cons_succ, i64_w, i32_w]
                rfl
              refine pure_ (i := 11) (N := some 50) (v := ?_) (a' := ?_) #[true, true, true, true, true, true, true, true, true, true, true, true] rfl rfl (any_of HT_.out (by kernel_rfl)) (fun _ _ _ h => h) (Or.inl ⟨by rfl, ?_⟩) ?_ ?_
              rotate_left
              · intro w'
                go_simp
                with_reducible rfl
              rotate_left
              · simp only [Act.put, List.setIfInBounds_toArray, List.set_cons_zero, List.set_cons_succ, i64_w, i32_w]
                rfl
              refine done_ (done_of HT_.out (by kernel_rfl)) ?_
              try go_wp2
              go_meet
              case rel => exact ⟨_, (false), (by first | rfl | (simp; done) | (simp [*]; done)), H', ⟨by have := HJ4.out; first | omega | exact Nat.le_refl _⟩, ⟨by (with_reducible repeat (first | refine blk_drewN ?_ _ | refine blk_drew ?_ | refine blk_alloc ?_ _)); exact BK202.out⟩, ⟨by (with_reducible repeat (first | refine blk_drewN ?_ _ | refine blk_drew ?_ | refine blk_alloc ?_ _)); exact BK203.out⟩, ⟨by repeat (first | (with_reducible first | exact HB.out | apply below_alloc | apply pw_below_drewN | apply below_drew1 | refine below_set ?_ GE202.out | refine below_set ?_ GE203.out) | exact HB.out)⟩⟩
          case rest =>
            clear HC28
            try clear c1
            try clear c2
            try clear p2
            try clear c3
            try clear c4
            try clear c4b0
            try clear c4b1
            try clear p6
            try clear c8
            try clear c12
            try clear c14
            try clear c16
            try clear c18
            try clear c21
            try clear c22
            try clear c23
            try clear c25
            try clear c26
            try clear c27
            try clear c29
            try clear c29b0
            try clear c29b1
            try clear hcz19_0
            try clear hcz19_1
            try clear hcz19_2
            try clear hcz19_3
            try clear hcz20_0
            try clear hcz20_1
            try clear hcz22_0
            try clear hcz22_1
            try clear hcz22_2
            try clear hcz22_3
            try clear hcz24_0
            try clear hcz24_1
            try clear hcz24_2
            try clear hcz24_3
            try clear hcz26_0
            try clear hcz26_1
            try clear hcz26_2
            try clear hcz26_3
            try clear hcz9_0
            try clear hcz9_1
            try clear hfz19_0
            try clear hfz19_1
            try clear hfz19_2
            try clear hfz19_3
            try clear hfz20_0
            try clear hfz20_1
            try clear hfz22_0
            try clear hfz22_1
            try clear hfz22_2
            try clear hfz22_3
            try clear hfz24_0
            try clear hfz24_1
            try clear hfz24_2
            try clear hfz24_3
            try clear hfz26_0
            try clear hfz26_1
            try clear hfz26_2
            try clear hfz26_3
            try clear hfz9_0
            try clear hfz9_1
            try clear p2
            try clear p6
            obtain ⟨kq, x50_27, rfl, HA, HJ27, BK202, BK203, HB⟩ := hcut
            cases kq with
            | zero => exact absurd HA.out (by simp [dioramaref20_Count.j1])
            | succ kj27 =>
              have H := HA.out
              clear HA
              simp only [dioramaref20_Count.j1] at H
              by_cases c34 : x50_27 = true
              · subst c34
                have H1 : (some (0, 200)) = some (r1, r2) := by rw [if_pos rfl] at H; exact H
                clear H
                have H := H1
                clear H1
                simp only [Option.some.injEq, Prod.mk.injEq] at H
                obtain ⟨rfl, rfl⟩ := H
                go_wp2
                go_ret2
                exact ⟨by first | rfl | (simp [errW_none, errW_some] <;> rfl) | (simp [*, errW_none, errW_some] <;> rfl), by repeat (first | (with_reducible first | exact HB.out | apply below_alloc | apply pw_below_drewN | apply below_drew1 | refine below_set ?_ GE202.out | refine below_set ?_ GE203.out) | exact HB.out)⟩
              · replace c34 := Bool.eq_false_iff.mpr c34
                subst c34
                have H1 : ((dioramaref20_hour.f kj27 a0_0 a0_1).bind fun t210 => (dioramaref20_Count.l0 kj27 (wrap64 (a1_0 * t210)) 0 a0_0 a0_1 a1_0 a1_1 a1_2 a1_3)) = some (r1, r2) := by rw [if_neg (show ¬ (false = true) by decide)] at H; exact H
                clear H
                have H := H1
                clear H1
                replace H := Option.bind_eq_some_iff.mp H
                obtain ⟨t210, A350, H⟩ := H
                replace H : (dioramaref20_Count.l0 kj27 (wrap64 (a1_0 * t210)) 0 a0_0 a0_1 a1_0 a1_1 a1_2 a1_3) = some (r1, r2) := H
                have A35 := Aside0.mk A350
                clear A350
                have H' := Aside0.mk H
                clear H
                try go_wp2
                have n0_ := Aside0.mk (blk_drew BK202.out)
                have n1_ := Aside0.mk (blk_drew BK203.out)
                have n2_ := Aside0.mk (below_drew1 HB.out)
                clear BK202
                clear BK203
                clear HB
                have BK202 := n0_
                have BK203 := n1_
                have HB := n2_
                clear n0_ n1_ n2_
                refine start_ (n := 6) (S := fun w' => w'.cell? ⟨gb203, 0, none⟩ = some (.int .i64 a1_0) ∧ w'.cell? ⟨gb203, 1, none⟩ = some (.int .i64 a1_1) ∧ w'.cell? ⟨gb203, 2, none⟩ = some (.int .i64 a1_2) ∧ w'.cell? ⟨gb203, 3, none⟩ = some (.int .i64 a1_3) ∧ w'.cell? ⟨gb202, 0, none⟩ = some (.int .i64 a0_0) ∧ w'.cell? ⟨gb202, 1, none⟩ = some (.bool a0_1)) (ds := []) #[false, false, false, false, false, false] (by kernel_rfl) rfl rfl ⟨(blk_cell BK203.out 0).trans rfl, (blk_cell BK203.out 1).trans rfl, (blk_cell BK203.out 2).trans rfl, (blk_cell BK203.out 3).trans rfl, (blk_cell BK202.out 0).trans rfl, (blk_cell BK202.out 1).trans rfl⟩ (fun hHeld => ?_)
                generalize wc.drew = w36 at BK202 BK203 HB hHeld ⊢
                refine pure_ (i := 0) (N := some 51) (v := ?_) (a' := ?_) #[true, false, false, false, false, false] rfl rfl (by kernel_rfl) (fun _ _ _ h => h) (Or.inl ⟨by rfl, ?_⟩) ?_ ?_
                rotate_left
                · intro w'
                  go_simp
                  with_reducible rfl
                rotate_left
                · simp only [Act.put, List.setIfInBounds_toArray, List.set_cons_zero, List.set_cons_succ, i64_w, i32_w]
                  rfl
                refine take_ (i := 1) (N := some 52) (v := ?_) (a' := ?_) #[true, true, false, false, false, false] rfl rfl (by kernel_rfl) (fun _ _ _ h => h) (Or.inl ⟨by rfl, ?_⟩) hHeld ?_ ?_
                rotate_left
                · rintro w' ⟨s0, s1, s2, s3, s4, s5⟩
                  go_simp
                  with_reducible rfl
                rotate_left
                · simp only [Act.put, List.setIfInBounds_toArray, List.set_cons_zero, List.set_cons_succ, i64_w, i32_w]
                  rfl
                refine take_ (i := 2) (N := some 53) (v := ?_) (a' := ?_) #[true, true, true, false, false, false] rfl rfl (by kernel_rfl) (fun _ _ _ h => h) (Or.inl ⟨by rfl, ?_⟩) hHeld ?_ ?_
                rotate_left
                · rintro w' ⟨s0, s1, s2, s3, s4, s5⟩
                  go_simp
                  with_reducible rfl
                rotate_left
                · simp only [Act.put, List.setIfInBounds_toArray, List.set_cons_zero, List.set_cons_succ, i64_w, i32_w]
                  rfl
                refine one_ (i := 3) (N := some 54) #[true, true, true, true, false, false] rfl rfl (by kernel_rfl) (by decide) (fun K hK => ?_)
                refine goes_ Try.func40 (by kernel_rfl) rfl #[.agg #[.int .i64 a0_0, .bool a0_1]] (by rfl) rfl rfl (by (try simp only [List.map_toArray, List.map_cons, List.map_nil]); first | done | rfl | (simp only [List.length_drop, List.length_take]; rfl)) ?_
                with_reducible refine (dioramaref20_hour.calls kj27 a0_0 a0_1 t210 _ A35.out).mono ?_
                rintro e w37 ⟨rfl, hb⟩
                refine ⟨_, rfl, ?_⟩
                have n0_ := Aside0.mk (blk_below (g := gb202) (o := .cells #[.int .i64 a0_0, .bool a0_1] 23 (0, 0)) (by (with_reducible repeat (first | refine blk_drewN ?_ _ | refine blk_drew ?_ | refine blk_alloc ?_ _)); exact BK202.out) hb)
                have n1_ := Aside0.mk (blk_below (g := gb203) (o := .cells #[.int .i64 a1_0, .int .i64 a1_1, .int .i64 a1_2, .int .i64 a1_3] 25 (0, 0)) (by (with_reducible repeat (first | refine blk_drewN ?_ _ | refine blk_drew ?_ | refine blk_alloc ?_ _)); exact BK203.out) hb)
                have n2_ := Aside0.mk (below_step (by repeat (first | (with_reducible first | exact HB.out | apply below_alloc | apply pw_below_drewN | apply below_drew1 | refine below_set ?_ GE202.out | refine below_set ?_ GE203.out) | exact HB.out)) hb)
                clear BK202
                clear BK203
                clear HB
                have BK202 := n0_
                have BK203 := n1_
                have HB := n2_
                clear n0_ n1_ n2_
                (try clear hb)
                (try clear hb2)
                (try clear hk)
                (try clear hi)
                refine hK.out _ _ ⟨(blk_cell BK203.out 0).trans rfl, (blk_cell BK203.out 1).trans rfl, (blk_cell BK203.out 2).trans rfl, (blk_cell BK203.out 3).trans rfl, (blk_cell BK202.out 0).trans rfl, (blk_cell BK202.out 1).trans rfl⟩ (fun hHeld => ?_)
                clear hK K
                refine norm_ (a' := ?_) ?_ ?_
                rotate_left
                · show Act.put _ (some 54) _ = _
                  simp only [Act.put, List.setIfInBounds_toArray, List.set_cons_zero, List.set_cons_succ, i64_w, i32_w]
                  rfl
                refine pure_ (i := 4) (N := some 55) (v := ?_) (a' := ?_) #[true, true, true, true, true, false] rfl rfl (by kernel_rfl) (fun _ _ _ h => h) (Or.inl ⟨by rfl, ?_⟩) ?_ ?_
                rotate_left
                · intro w'
                  go_simp
                  with_reducible rfl
                rotate_left
                · simp only [Act.put, List.setIfInBounds_toArray, List.set_cons_zero, List.set_cons_succ, i64_w, i32_w]
                  rfl
                refine pure_ (i := 5) (N := some 7) (v := ?_) (a' := ?_) #[true, true, true, true, true, true] rfl rfl (by kernel_rfl) (fun _ _ _ h => h) (Or.inl ⟨by rfl, ?_⟩) ?_ ?_
                rotate_left
                · intro w'
                  go_simp
                  with_reducible rfl
                rotate_left
                · simp only [Act.put, List.setIfInBounds_toArray, List.set_cons_zero, List.set_cons_succ, i64_w, i32_w]
                  rfl
                refine done_ (by kernel_rfl) ?_
                try go_wp2
                go_loopg [7, 8] kj27 (fun kq v7 v8 w' => ∃ (x7_3 : Int) (x8_3 : Int), v7 = .int .i64 x7_3 ∧ v8 = .int .i64 x8_3 ∧ Aside0 (dioramaref20_Count.l0 kq x7_3 x8_3 a0_0 a0_1 a1_0 a1_1 a1_2 a1_3 = some (r1, r2)) ∧ Aside0 (kq ≤ kj27) ∧ Aside0 (w'.heap[gb202]? = some (.cells #[.int .i64 a0_0, .bool a0_1] 23 (0, 0))) ∧ Aside0 (w'.heap[gb203]? = some (.cells #[.int .i64 a1_0, .int .i64 a1_1, .int .i64 a1_2, .int .i64 a1_3] 25 (0, 0))) ∧ Aside0 (Below w.heap.size w w'))
                case atStart => exact ⟨(wrap64 (a1_0 * t210)), (0), (by first | rfl | (simp; done) | (simp [*]; done)), (by first | rfl | (simp; done) | (simp [*]; done)), H', ⟨Nat.le_refl _⟩, ⟨by (with_reducible repeat (first | refine blk_drewN ?_ _ | refine blk_drew ?_ | refine blk_alloc ?_ _)); exact BK202.out⟩, ⟨by (with_reducible repeat (first | refine blk_drewN ?_ _ | refine blk_drew ?_ | refine blk_alloc ?_ _)); exact BK203.out⟩, ⟨by repeat (first | (with_reducible first | exact HB.out | apply below_alloc | apply pw_below_drewN | apply below_drew1 | refine below_set ?_ GE202.out | refine below_set ?_ GE203.out) | exact HB.out)⟩⟩
                case round =>
                  clear H'
                  try clear c1
                  try clear c2
                  try clear p2
                  try clear c3
                  try clear c4
                  try clear c4b0
                  try clear c4b1
                  try clear p6
                  try clear c8
                  try clear c12
                  try clear c14
                  try clear c16
                  try clear c18
                  try clear c21
                  try clear c22
                  try clear c23
                  try clear c25
                  try clear c26
                  try clear c27
                  try clear c29
                  try clear c29b0
                  try clear c29b1
                  try clear c34
                  try clear hcz19_0
                  try clear hcz19_1
                  try clear hcz19_2
                  try clear hcz19_3
                  try clear hcz20_0
                  try clear hcz20_1
                  try clear hcz22_0
                  try clear hcz22_1
                  try clear hcz22_2
                  try clear hcz22_3
                  try clear hcz24_0
                  try clear hcz24_1
                  try clear hcz24_2
                  try clear hcz24_3
                  try clear hcz26_0
                  try clear hcz26_1
                  try clear hcz26_2
                  try clear hcz26_3
                  try clear hcz9_0
                  try clear hcz9_1
                  try clear hfz19_0
                  try clear hfz19_1
                  try clear hfz19_2
                  try clear hfz19_3
                  try clear hfz20_0
                  try clear hfz20_1
                  try clear hfz22_0
                  try clear hfz22_1
                  try clear hfz22_2
                  try clear hfz22_3
                  try clear hfz24_0
                  try clear hfz24_1
                  try clear hfz24_2
                  try clear hfz24_3
                  try clear hfz26_0
                  try clear hfz26_1
                  try clear hfz26_2
                  try clear hfz26_3
                  try clear hfz9_0
                  try clear hfz9_1
                  try clear p2
                  try clear p6
                  obtain ⟨x7_3, x8_3, rfl, rfl, HA, HK3, BK202, BK203, HB⟩ := hrel
                  cases gk with
                  | zero => exact absurd HA.out (by simp [dioramaref20_Count.l0])
                  | succ k3 =>
                    have H := HA.out
                    clear HA
                    simp only [dioramaref20_Count.l0] at H
                    by_cases c38 : x8_3 < a1_1
                    · rw [if_pos c38] at H
                      have c38b0 : decide (x8_3 < a1_1) = true := decide_eq_true c38
                      clear c38
                      replace H := Option.bind_eq_some_iff.mp H
                      obtain ⟨t211, A390, H⟩ := H
                      replace H : (dioramaref20_Count.l0 k3 (wrap64 (x7_3 + t211)) (wrap64 (x8_3 + 1)) a0_0 a0_1 a1_0 a1_1 a1_2 a1_3) = some (r1, r2) := H
                      have A39 := Aside0.mk A390
                      clear A390
                      have H' := Aside0.mk H
                      clear H
                      have hnb40 := NB203_202.out
                      have hnc40 := NB202_203.out
                      have hcz41_0 : wr.cell? ⟨gb203, 0, none⟩ = some (.int .i64 a1_0) := (blk_cell BK203.out 0).trans rfl
                      have hcz41_1 : wr.cell? ⟨gb203, 1, none⟩ = some (.int .i64 a1_1) := (blk_cell BK203.out 1).trans rfl
                      have hcz41_2 : wr.cell? ⟨gb203, 2, none⟩ = some (.int .i64 a1_2) := (blk_cell BK203.out 2).trans rfl
                      have hcz41_3 : wr.cell? ⟨gb203, 3, none⟩ = some (.int .i64 a1_3) := (blk_cell BK203.out 3).trans rfl
                      have hfz41_0 := blk_frozen BK203.out 0
                      have hfz41_1 := blk_frozen BK203.out 1
                      have hfz41_2 := blk_frozen BK203.out 2
                      have hfz41_3 := blk_frozen BK203.out 3
                      have hcz42_0 : wr.cell? ⟨gb202, 0, none⟩ = some (.int .i64 a0_0) := (blk_cell BK202.out 0).trans rfl
                      have hcz42_1 : wr.cell? ⟨gb202, 1, none⟩ = some (.bool a0_1) := (blk_cell BK202.out 1).trans rfl
                      have hfz42_0 := blk_frozen BK202.out 0
                      have hfz42_1 := blk_frozen BK202.out 1
                      go_wp2_with (first | ((with_reducible refine gate_callee (f := 41) rfl ?_); refine goesL_ (some 65) rfl rfl Try.func41 (by kernel_rfl) rfl #[.agg #[.int .i64 a0_0, .bool a0_1], .int .i64 x8_3] rfl (by (try simp only [List.map_toArray, List.map_cons, List.map_nil]); first | done | rfl | (simp only [List.length_drop, List.length_take]; rfl)) ?_; (with_reducible refine (dioramaref20_minute.calls a0_0 a0_1 x8_3 t211 _ A39.out).mono ?_); rintro e w43 ⟨rfl, hb⟩; refine ⟨_, rfl, ?_⟩; have n0_ := Aside0.mk (blk_below (g := gb202) (o := .cells #[.int .i64 a0_0, .bool a0_1] 23 (0, 0)) (by (with_reducible repeat (first | refine blk_drewN ?_ _ | refine blk_drew ?_ | refine blk_alloc ?_ _)); exact BK202.out) hb); have n1_ := Aside0.mk (blk_below (g := gb203) (o := .cells #[.int .i64 a1_0, .int .i64 a1_1, .int .i64 a1_2, .int .i64 a1_3] 25 (0, 0)) (by (with_reducible repeat (first | refine blk_drewN ?_ _ | refine blk_drew ?_ | refine blk_alloc ?_ _)); exact BK203.out) hb); have n2_ := Aside0.mk (below_step (by repeat (first | (with_reducible first | exact HB.out | apply below_alloc | apply pw_below_drewN | apply below_drew1 | refine below_set ?_ GE202.out | refine below_set ?_ GE203.out) | exact HB.out)) hb); clear BK202; clear BK203; clear HB; have BK202 := n0_; have BK203 := n1_; have HB := n2_; clear n0_ n1_ n2_; (try clear hb); (try clear hb2); (try clear hk); (try clear hi)))
                      go_roundg k3
                      case measure => have := HJ4.out; have := HJ27.out; have := HK3.out; omega
                      case rel => exact ⟨(wrap64 (x7_3 + t211)), (wrap64 (x8_3 + 1)), (by first | rfl | (simp; done) | (simp [*]; done)), (by first | rfl | (simp; done) | (simp [*]; done)), H', ⟨by have := HJ4.out; have := HJ27.out; have := HK3.out; omega⟩, ⟨by (with_reducible repeat (first | refine blk_drewN ?_ _ | refine blk_drew ?_ | refine blk_alloc ?_ _)); exact BK202.out⟩, ⟨by (with_reducible repeat (first | refine blk_drewN ?_ _ | refine blk_drew ?_ | refine blk_alloc ?_ _)); exact BK203.out⟩, ⟨by repeat (first | (with_reducible first | exact HB.out | apply below_alloc | apply pw_below_drewN | apply below_drew1 | refine below_set ?_ GE202.out | refine below_set ?_ GE203.out) | exact HB.out)⟩⟩
                    · rw [if_neg c38] at H
                      have c38b0 : decide (x8_3 < a1_1) = false := decide_eq_false c38
                      clear c38
                      replace H := Option.bind_eq_some_iff.mp H
                      obtain ⟨t212, A440, H⟩ := H
                      replace H : (some (wrap64 ((wrap64 ((wrap64 (x7_3 + (wrap64 (a1_2 * a0_0)))) + a1_3)) - t212), 0)) = some (r1, r2) := H
                      have A44 := Aside0.mk A440
                      clear A440
                      simp only [Option.some.injEq, Prod.mk.injEq] at H
                      obtain ⟨rfl, rfl⟩ := H
                      have hnb45 := NB203_202.out
                      have hnc45 := NB202_203.out
                      have hcz46_0 : wr.cell? ⟨gb203, 0, none⟩ = some (.int .i64 a1_0) := (blk_cell BK203.out 0).trans rfl
                      have hcz46_1 : wr.cell? ⟨gb203, 1, none⟩ = some (.int .i64 a1_1) := (blk_cell BK203.out 1).trans rfl
                      have hcz46_2 : wr.cell? ⟨gb203, 2, none⟩ = some (.int .i64 a1_2) := (blk_cell BK203.out 2).trans rfl
                      have hcz46_3 : wr.cell? ⟨gb203, 3, none⟩ = some (.int .i64 a1_3) := (blk_cell BK203.out 3).trans rfl
                      have hfz46_0 := blk_frozen BK203.out 0
                      have hfz46_1 := blk_frozen BK203.out 1
                      have hfz46_2 := blk_frozen BK203.out 2
                      have hfz46_3 := blk_frozen BK203.out 3
                      try go_wp2
                      have n0_ := Aside0.mk (blk_drew BK202.out)
                      have n1_ := Aside0.mk (blk_drew BK203.out)
                      have n2_ := Aside0.mk (below_drew1 HB.out)
                      clear BK202
                      clear BK203
                      clear HB
                      have BK202 := n0_
                      have BK203 := n1_
                      have HB := n2_
                      clear n0_ n1_ n2_
                      refine start_ (n := 17) (S := fun w' => w'.cell? ⟨gb203, 0, none⟩ = some (.int .i64 a1_0) ∧ w'.cell? ⟨gb203, 1, none⟩ = some (.int .i64 a1_1) ∧ w'.cell? ⟨gb203, 2, none⟩ = some (.int .i64 a1_2) ∧ w'.cell? ⟨gb203, 3, none⟩ = some (.int .i64 a1_3) ∧ w'.cell? ⟨gb202, 0, none⟩ = some (.int .i64 a0_0) ∧ w'.cell? ⟨gb202, 1, none⟩ = some (.bool a0_1)) (ds := []) #[false, false, false, false, false, false, false, false, false, false, false, false, false, false, false, false, false] (by kernel_rfl) rfl rfl ⟨(blk_cell BK203.out 0).trans rfl, (blk_cell BK203.out 1).trans rfl, (blk_cell BK203.out 2).trans rfl, (blk_cell BK203.out 3).trans rfl, (blk_cell BK202.out 0).trans rfl, (blk_cell BK202.out 1).trans rfl⟩ (fun hHeld => ?_); refine with_tabW dioramaref20_Count.tab13 dioramaref20_Count.bits13 (fun HT_ HW_ => ?_)
                      generalize wr.drew = w47 at BK202 BK203 HB hHeld ⊢
                      refine pure_ (i := 0) (N := some 67) (v := ?_) (a' := ?_) #[true, false, false, false, false, false, false, false, false, false, false, false, false, false, false, false, false] rfl rfl (any_of HT_.out (by kernel_rfl)) (fun _ _ _ h => h) (Or.inl ⟨by rfl, ?_⟩) ?_ ?_
                      rotate_left
                      · intro w'
                        go_simp
                        with_reducible rfl
                      rotate_left
                      · simp only [Act.put, List.setIfInBounds_toArray, List.set_cons_zero, List.set_cons_succ, i64_w, i32_w]
                        rfl
                      refine pure_ (i := 1) (N := some 68) (v := ?_) (a' := ?_) #[true, true, false, false, false, false, false, false, false, false, false, false, false, false, false, false, false] rfl rfl (any_of HT_.out (by kernel_rfl)) (fun _ _ _ h => h) (Or.inl ⟨by rfl, ?_⟩) ?_ ?_
                      rotate_left
                      · intro w'
                        go_simp
                        with_reducible rfl
                      rotate_left
                      · simp only [Act.put, List.setIfInBounds_toArray, List.set_cons_zero, List.set_cons_succ, i64_w, i32_w]
                        rfl
                      refine pure_ (i := 3) (N := some 70) (v := ?_) (a' := ?_) #[true, true, false, true, false, false, false, false, false, false, false, false, false, false, false, false, false] rfl rfl (any_of HT_.out (by kernel_rfl)) (fun _ _ _ h => h) (Or.inl ⟨by rfl, ?_⟩) ?_ ?_
                      rotate_left
                      · intro w'
                        go_simp
                        with_reducible rfl
                      rotate_left
                      · simp only [Act.put, List.setIfInBounds_toArray, List.set_cons_zero, List.set_cons_succ, i64_w, i32_w]
                        rfl
                      refine pure_ (i := 7) (N := some 74) (v := ?_) (a' := ?_) #[true, true, false, true, false, false, false, true, false, false, false, false, false, false, false, false, false] rfl rfl (any_of HT_.out (by kernel_rfl)) (fun _ _ _ h => h) (Or.inl ⟨by rfl, ?_⟩) ?_ ?_
                      rotate_left
                      · intro w'
                        go_simp
                        with_reducible rfl
                      rotate_left
                      · simp only [Act.put, List.setIfInBounds_toArray, List.set_cons_zero, List.set_cons_succ, i64_w, i32_w]
                        rfl
                      refine pure_ (i := 11) (N := some 78) (v := ?_) (a' := ?_) #[true, true, false, true, false, false, false, true, false, false, false, true, false, false, false, false, false] rfl rfl (any_of HT_.out (by kernel_rfl)) (fun _ _ _ h => h) (Or.inl ⟨by rfl, ?_⟩) ?_ ?_
                      rotate_left
                      · intro w'
                        go_simp
                        with_reducible rfl
                      rotate_left
                      · simp only [Act.put, List.setIfInBounds_toArray, List.set_cons_zero, List.set_cons_succ, i64_w, i32_w]
                        rfl
                      refine take_ (i := 2) (N := some 69) (v := ?_) (a' := ?_) #[true, true, true, true, false, false, false, true, false, false, false, true, false, false, false, false, false] rfl rfl (take_ofW HT_.out HW_.out (by kernel_rfl)) (fun _ _ _ h => h) (Or.inl ⟨by rfl, ?_⟩) hHeld ?_ ?_
                      rotate_left
                      · rintro w' ⟨s0, s1, s2, s3, s4, s5⟩
                        go_simp
                        with_reducible rfl
                      rotate_left
                      · simp only [Act.put, List.setIfInBounds_toArray, List.set_cons_zero, List.set_cons_succ, i64_w, i32_w]
                        rfl
                      refine take_ (i := 4) (N := some 71) (v := ?_) (a' := ?_) #[true, true, true, true, true, false, false, true, false, false, false, true, false, false, false, false, false] rfl rfl (take_ofW HT_.out HW_.out (by kernel_rfl)) (fun _ _ _ h => h) (Or.inl ⟨by rfl, ?_⟩) hHeld ?_ ?_
                      rotate_left
                      · rintro w' ⟨s0, s1, s2, s3, s4, s5⟩
                        go_simp
                        with_reducible rfl
                      rotate_left
                      · simp only [Act.put, List.setIfInBounds_toArray, List.set_cons_zero, List.set_cons_succ, i64_w, i32_w]
                        rfl
                      refine pure_ (i := 5) (N := some 72) (v := ?_) (a' := ?_) #[true, true, true, true, true, true, false, true, false, false, false, true, false, false, false, false, false] rfl rfl (any_of HT_.out (by kernel_rfl)) (fun _ _ _ h => h) (Or.inl ⟨by rfl, ?_⟩) ?_ ?_
                      rotate_left
                      · intro w'
                        go_simp
                        with_reducible rfl
                      rotate_left
                      · simp only [Act.put, List.setIfInBounds_toArray, List.set_cons_zero, List.set_cons_succ, i64_w, i32_w]
                        rfl
                      refine pure_ (i := 6) (N := some 73) (v := ?_) (a' := ?_) #[true, true, true, true, true, true, true, true, false, false, false, true, false, false, false, false, false] rfl rfl (any_of HT_.out (by kernel_rfl)) (fun _ _ _ h => h) (Or.inl ⟨by rfl, ?_⟩) ?_ ?_
                      rotate_left
                      · intro w'
                        go_simp
                        with_reducible rfl
                      rotate_left
                      · simp only [Act.put, List.setIfInBounds_toArray, List.set_cons_zero, List.set_cons_succ, i64_w, i32_w]
                        rfl
                      refine take_ (i := 8) (N := some 75) (v := ?_) (a' := ?_) #[true, true, true, true, true, true, true, true, true, false, false, true, false, false, false, false, false] rfl rfl (take_ofW HT_.out HW_.out (by kernel_rfl)) (fun _ _ _ h => h) (Or.inl ⟨by rfl, ?_⟩) hHeld ?_ ?_
                      rotate_left
                      · rintro w' ⟨s0, s1, s2, s3, s4, s5⟩
                        go_simp
                        with_reducible rfl
                      rotate_left
                      · simp only [Act.put, List.setIfInBounds_toArray, List.set_cons_zero, List.set_cons_succ, i64_w, i32_w]
                        rfl
                      refine pure_ (i := 9) (N := some 76) (v := ?_) (a' := ?_) #[true, true, true, true, true, true, true, true, true, true, false, true, false, false, false, false, false] rfl rfl (any_of HT_.out (by kernel_rfl)) (fun _ _ _ h => h) (Or.inl ⟨by rfl, ?_⟩) ?_ ?_
                      rotate_left
                      · intro w'
                        go_simp
                        with_reducible rfl
                      rotate_left
                      · simp only [Act.put, List.setIfInBounds_toArray, List.set_cons_zero, List.set_cons_succ, i64_w, i32_w]
                        rfl
                      refine take_ (i := 10) (N := some 77) (v := ?_) (a' := ?_) #[true, true, true, true, true, true, true, true, true, true, true, true, false, false, false, false, false] rfl rfl (take_ofW HT_.out HW_.out (by kernel_rfl)) (fun _ _ _ h => h) (Or.inl ⟨by rfl, ?_⟩) hHeld ?_ ?_
                      rotate_left
                      · rintro w' ⟨s0, s1, s2, s3, s4, s5⟩
                        go_simp
                        with_reducible rfl
                      rotate_left
                      · simp only [Act.put, List.setIfInBounds_toArray, List.set_cons_zero, List.set_cons_succ, i64_w, i32_w]
                        rfl
                      refine take_ (i := 12) (N := some 79) (v := ?_) (a' := ?_) #[true, true, true, true, true, true, true, true, true, true, true, true, true, false, false, false, false] rfl rfl (take_ofW HT_.out HW_.out (by kernel_rfl)) (fun _ _ _ h => h) (Or.inl ⟨by rfl, ?_⟩) hHeld ?_ ?_
                      rotate_left
                      · rintro w' ⟨s0, s1, s2, s3, s4, s5⟩
                        go_simp
                        with_reducible rfl
                      rotate_left
                      · simp only [Act.put, List.setIfInBounds_toArray, List.set_cons_zero, List.set_cons_succ, i64_w, i32_w]
                        rfl
                      refine one_ (i := 13) (N := some 80) #[true, true, true, true, true, true, true, true, true, true, true, true, true, true, false, false, false] rfl rfl (one_of HT_.out (by kernel_rfl)) (by decide) (fun K hK => ?_)
                      refine goes_ Try.func42 (by kernel_rfl) rfl #[.agg #[.int .i64 a0_0, .bool a0_1], .int .i64 a1_1] (by rfl) rfl rfl (by (try simp only [List.map_toArray, List.map_cons, List.map_nil]); first | done | rfl | (simp only [List.length_drop, List.length_take]; rfl)) ?_
                      with_reducible refine (dioramaref20_missing.calls a0_0 a0_1 a1_1 t212 _ A44.out).mono ?_
                      rintro e w48 ⟨rfl, hb⟩
                      refine ⟨_, rfl, ?_⟩
                      have n0_ := Aside0.mk (blk_below (g := gb202) (o := .cells #[.int .i64 a0_0, .bool a0_1] 23 (0, 0)) (by (with_reducible repeat (first | refine blk_drewN ?_ _ | refine blk_drew ?_ | refine blk_alloc ?_ _)); exact BK202.out) hb)
                      have n1_ := Aside0.mk (blk_below (g := gb203) (o := .cells #[.int .i64 a1_0, .int .i64 a1_1, .int .i64 a1_2, .int .i64 a1_3] 25 (0, 0)) (by (with_reducible repeat (first | refine blk_drewN ?_ _ | refine blk_drew ?_ | refine blk_alloc ?_ _)); exact BK203.out) hb)
                      have n2_ := Aside0.mk (below_step (by repeat (first | (with_reducible first | exact HB.out | apply below_alloc | apply pw_below_drewN | apply below_drew1 | refine below_set ?_ GE202.out | refine below_set ?_ GE203.out) | exact HB.out)) hb)
                      clear BK202
                      clear BK203
                      clear HB
                      have BK202 := n0_
                      have BK203 := n1_
                      have HB := n2_
                      clear n0_ n1_ n2_
                      (try clear hb)
                      (try clear hb2)
                      (try clear hk)
                      (try clear hi)
                      refine hK.out _ _ ⟨(blk_cell BK203.out 0).trans rfl, (blk_cell BK203.out 1).trans rfl, (blk_cell BK203.out 2).trans rfl, (blk_cell BK203.out 3).trans rfl, (blk_cell BK202.out 0).trans rfl, (blk_cell BK202.out 1).trans rfl⟩ (fun hHeld => ?_)
                      clear hK K
                      refine norm_ (a' := ?_) ?_ ?_
                      rotate_left
                      · show Act.put _ (some 80) _ = _
                        simp only [Act.put, List.setIfInBounds_toArray, List.set_cons_zero, List.set_cons_succ, i64_w, i32_w]
                        rfl
                      refine pure_ (i := 14) (N := some 81) (v := ?_) (a' := ?_) #[true, true, true, true, true, true, true, true, true, true, true, true, true, true, true, false, false] rfl rfl (any_of HT_.out (by kernel_rfl)) (fun _ _ _ h => h) (Or.inl ⟨by rfl, ?_⟩) ?_ ?_
                      rotate_left
                      · intro w'
                        go_simp
                        with_reducible rfl
                      rotate_left
                      · simp only [Act.put, List.setIfInBounds_toArray, List.set_cons_zero, List.set_cons_succ, i64_w, i32_w]
                        rfl
                      refine pure_ (i := 15) (N := some 4) (v := ?_) (a' := ?_) #[true, true, true, true, true, true, true, true, true, true, true, true, true, true, true, true, false] rfl rfl (any_of HT_.out (by kernel_rfl)) (fun _ _ _ h => h) (Or.inl ⟨by rfl, ?_⟩) ?_ ?_
                      rotate_left
                      · intro w'
                        go_simp
                        with_reducible rfl
                      rotate_left
                      · simp only [Act.put, List.setIfInBounds_toArray, List.set_cons_zero, List.set_cons_succ, i64_w, i32_w]
                        rfl
                      refine pure_ (i := 16) (N := some 5) (v := ?_) (a' := ?_) #[true, true, true, true, true, true, true, true, true, true, true, true, true, true, true, true, true] rfl rfl (any_of HT_.out (by kernel_rfl)) (fun _ _ _ h => h) (Or.inl ⟨by rfl, ?_⟩) ?_ ?_
                      rotate_left
                      · intro w'
                        go_simp
                        with_reducible rfl
                      rotate_left
                      · simp only [Act.put, List.setIfInBounds_toArray, List.set_cons_zero, List.set_cons_succ, i64_w, i32_w]
                        rfl
                      refine done_ (done_of HT_.out (by kernel_rfl)) ?_
                      try go_wp2
                      go_ret2
                      exact ⟨by first | rfl | (simp [errW_none, errW_some] <;> rfl) | (simp [*, errW_none, errW_some] <;> rfl), by repeat (first | (with_reducible first | exact HB.out | apply below_alloc | apply pw_below_drewN | apply below_drew1 | refine below_set ?_ GE202.out | refine below_set ?_ GE203.out) | exact HB.out)⟩
  · rw [if_neg c4] at H
    have c4b0 : (t204 == 0) = false := beq_eq_false_iff_ne.mpr c4
    have c4b1 : (t204 != 0) = true := bne_iff_ne.mpr c4
    simp only [Option.some.injEq, Prod.mk.injEq] at H
    obtain ⟨rfl, rfl⟩ := H
    go_enter Try.func22, Try.ntmps22
    go_wp2_with (first | ((with_reducible refine gate_dst (N := 2) rfl ?_); refine box_event ?hg (N := 2) ?hd (cs := #[.int .i64 a0_0, .bool a0_1]) (t := 23) ?hr ?_; (case hd => rfl); (case hg => rfl); (case hr => first | (go_simp; done) | (go_simp; rfl)); intro gb202 hg w49 hbox hb; have n0_ := Aside0.mk (below_step (by repeat (first | (with_reducible first | exact HB.out | apply below_alloc | apply pw_below_drewN | apply below_drew1) | exact HB.out)) hb); have n1_ := Aside0.mk (hbox); have n2_ := Aside0.mk ((by rw [hg]; exact (below_size (by repeat (first | (with_reducible first | exact HB.out | apply below_alloc | apply pw_below_drewN | apply below_drew1) | exact HB.out))) : w.heap.size ≤ gb202)); have n3_ := Aside0.mk ((by rw [hg]; exact (below_size (by repeat (first | (with_reducible first | exact HB.out | apply below_alloc | apply pw_below_drewN | apply below_drew1) | exact HB.out))) : w.heap.size ≤ gb202)); clear HB; have HB := n0_; have BK202 := n1_; have GW202 := n2_; have GE202 := n3_; clear n0_ n1_ n2_ n3_; clear hb hbox hg) | ((with_reducible refine gate_dst (N := 3) rfl ?_); refine box_event ?hg (N := 3) ?hd (cs := #[.int .i64 a1_0, .int .i64 a1_1, .int .i64 a1_2, .int .i64 a1_3]) (t := 25) ?hr ?_; (case hd => rfl); (case hg => rfl); (case hr => first | (go_simp; done) | (go_simp; rfl)); intro gb203 hg w50 hbox hb; have n0_ := Aside0.mk (blk_below (g := gb202) (o := .cells #[.int .i64 a0_0, .bool a0_1] 23 (0, 0)) (by (with_reducible repeat (first | refine blk_drewN ?_ _ | refine blk_drew ?_ | refine blk_alloc ?_ _)); exact BK202.out) hb); have n1_ := Aside0.mk (below_step (by repeat (first | (with_reducible first | exact HB.out | apply below_alloc | apply pw_below_drewN | apply below_drew1 | refine below_set ?_ GE202.out) | exact HB.out)) hb); have n2_ := Aside0.mk (hbox); have n3_ := Aside0.mk ((by rw [hg]; exact (below_size (by repeat (first | (with_reducible first | exact HB.out | apply below_alloc | apply pw_below_drewN | apply below_drew1 | refine below_set ?_ GE202.out) | exact HB.out))) : w.heap.size ≤ gb203)); have n4_ := Aside0.mk ((by rw [hg]; exact (below_size (by repeat (first | (with_reducible first | exact HB.out | apply below_alloc | apply pw_below_drewN | apply below_drew1 | refine below_set ?_ GE202.out) | exact HB.out))) : w.heap.size ≤ gb203)); have n5_ := Aside0.mk ((by rw [hg]; exact Nat.ne_of_lt (blk_lt (g := gb202) (o := .cells #[.int .i64 a0_0, .bool a0_1] 23 (0, 0)) (by (with_reducible repeat (first | refine blk_drewN ?_ _ | refine blk_drew ?_ | refine blk_alloc ?_ _)); exact BK202.out)) : gb202 ≠ gb203)); have n6_ := Aside0.mk ((by rw [hg]; exact Nat.ne_of_gt (blk_lt (g := gb202) (o := .cells #[.int .i64 a0_0, .bool a0_1] 23 (0, 0)) (by (with_reducible repeat (first | refine blk_drewN ?_ _ | refine blk_drew ?_ | refine blk_alloc ?_ _)); exact BK202.out)) : gb203 ≠ gb202)); clear BK202; clear HB; have BK202 := n0_; have HB := n1_; have BK203 := n2_; have GW203 := n3_; have GE203 := n4_; have NB202_203 := n5_; have NB203_202 := n6_; clear n0_ n1_ n2_ n3_ n4_ n5_ n6_; clear hb hbox hg; have hnb51 := NB202_203.out; have hnc51 := NB203_202.out; have hcz52_0 : w50.cell? ⟨gb202, 0, none⟩ = some (.int .i64 a0_0) := (blk_cell BK202.out 0).trans rfl; have hcz52_1 : w50.cell? ⟨gb202, 1, none⟩ = some (.bool a0_1) := (blk_cell BK202.out 1).trans rfl; have hfz52_0 := blk_frozen BK202.out 0; have hfz52_1 := blk_frozen BK202.out 1) | ((with_reducible refine gate_callee (f := 26) rfl ?_); refine goesL_ (some 10) rfl rfl Try.func26 (by kernel_rfl) rfl #[.agg #[.int .i64 a0_0, .bool a0_1]] rfl (by (try simp only [List.map_toArray, List.map_cons, List.map_nil]); first | done | rfl | (simp only [List.length_drop, List.length_take]; rfl)) ?_; (with_reducible refine (dioramaref20_Check.calls a0_0 a0_1 t204 _ A3.out).mono ?_); rintro e w53 ⟨rfl, hb⟩; refine ⟨_, rfl, ?_⟩; have n0_ := Aside0.mk (blk_below (g := gb202) (o := .cells #[.int .i64 a0_0, .bool a0_1] 23 (0, 0)) (by (with_reducible repeat (first | refine blk_drewN ?_ _ | refine blk_drew ?_ | refine blk_alloc ?_ _)); exact BK202.out) hb); have n1_ := Aside0.mk (blk_below (g := gb203) (o := .cells #[.int .i64 a1_0, .int .i64 a1_1, .int .i64 a1_2, .int .i64 a1_3] 25 (0, 0)) (by (with_reducible repeat (first | refine blk_drewN ?_ _ | refine blk_drew ?_ | refine blk_alloc ?_ _)); exact BK203.out) hb); have n2_ := Aside0.mk (below_step (by repeat (first | (with_reducible first | exact HB.out | apply below_alloc | apply pw_below_drewN | apply below_drew1 | refine below_set ?_ GE202.out | refine below_set ?_ GE203.out) | exact HB.out)) hb); clear BK202; clear BK203; clear HB; have BK202 := n0_; have BK203 := n1_; have HB := n2_; clear n0_ n1_ n2_; (try clear hb); (try clear hb2); (try clear hk); (try clear hi)))
    go_ret2
    exact ⟨by first | rfl | (simp [errW_none, errW_some] <;> rfl) | (simp [*, errW_none, errW_some] <;> rfl), by repeat (first | (with_reducible first | exact HB.out | apply below_alloc | apply pw_below_drewN | apply below_drew1 | refine below_set ?_ GE202.out | refine below_set ?_ GE203.out) | exact HB.out)⟩

end Go.Proofs.Ytndbhfbgigefnaa.PA
