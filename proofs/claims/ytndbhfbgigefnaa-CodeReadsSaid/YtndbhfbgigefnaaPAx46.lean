-- PRINTED by print.py (a twelfth state) out of the translation. Not trusted: Lean checks it.
import Derived.Test.YtndbhfbgigefnaaPAx0
import Derived.Test.YtndbhfbgigefnaaPAx6
namespace Go.Proofs.Ytndbhfbgigefnaa.PA
open Go.RowKit Go.Proofs.YtndbhfbgigefnaaW.PrintWords Go.Proofs.YtndbhfbgigefnaaW.PrintLast Go.Proofs.YtndbhfbgigefnaaW.PrintMore
attribute [local go_sem] max2_int min2_int max_two min_two max_three min_three max_four min_four   -- for this text's walks alone
set_option linter.unusedVariables false
set_option linter.unusedSimpArgs false

/-! ### code_Rate: function 29 -/
mutual
def code_Rate.j0 : Nat → Bool → Int → Int → ByteArray → Int → List Int → ByteArray → ByteArray → Int → List (S97) → List (S95) → List (S82) → Option (Int × Bool × Int)
  | 0, _, _, _, _, _, _, _, _, _, _, _, _ => none
  | k + 1, x13, x393000, x393001, x393002, x393003, x393004, x393005, x393006, x393007, x393008, x393009, x393010 => if x13 = true then (some (0, false, 7)) else (if (x393004.length : Int) = 2 then (if 1 < (x393004.length : Int) then (code_Rate.j1 k (decide ((rd x393004 1) > 1)) x393000 x393001 x393002 x393003 x393004 x393005 x393006 x393007 x393008 x393009 x393010) else (none)) else (code_Rate.j1 k true x393000 x393001 x393002 x393003 x393004 x393005 x393006 x393007 x393008 x393009 x393010))
def code_Rate.j1 : Nat → Bool → Int → Int → ByteArray → Int → List Int → ByteArray → ByteArray → Int → List (S97) → List (S95) → List (S82) → Option (Int × Bool × Int)
  | 0, _, _, _, _, _, _, _, _, _, _, _, _ => none
  | k + 1, x25, x393000, x393001, x393002, x393003, x393004, x393005, x393006, x393007, x393008, x393009, x393010 => if x25 = true then (some (0, false, 4)) else (if 0 < (x393004.length : Int) then (if 1 < (x393004.length : Int) then ((code_Check.f (wrap64 (rd x393004 0)) ((rd x393004 1) == 1)).bind fun t398 => (if t398 = 0 then (some (wrap64 (rd x393004 0), ((rd x393004 1) == 1), 0)) else (some (0, false, t398)))) else (none)) else (none))
end
def code_Rate.f (k : Nat) (a0_0 : Int) (a0_1 : Int) (a0_2 : ByteArray) (a0_3 : Int) (l0_4 : List Int) (a0_5 : ByteArray) (a0_6 : ByteArray) (a0_7 : Int) (l0_8 : List (S97)) (l0_9 : List (S95)) (l0_10 : List (S82)) : Option (Int × Bool × Int) := if a0_2.toList = ([116, 109, 99, 49] : List UInt8) then (code_Rate.j0 k (a0_1 != 6) a0_0 a0_1 a0_2 a0_3 l0_4 a0_5 a0_6 a0_7 l0_8 l0_9 l0_10) else (code_Rate.j0 k true a0_0 a0_1 a0_2 a0_3 l0_4 a0_5 a0_6 a0_7 l0_8 l0_9 l0_10)
theorem code_Rate.mono_l : ∀ k, (∀ y0 y1 y2 y3 y4 y5 y6 y7 y8 y9 y10 y11, LeO (code_Rate.j0 k y0 y1 y2 y3 y4 y5 y6 y7 y8 y9 y10 y11) (code_Rate.j0 (k + 1) y0 y1 y2 y3 y4 y5 y6 y7 y8 y9 y10 y11)) ∧ (∀ y0 y1 y2 y3 y4 y5 y6 y7 y8 y9 y10 y11, LeO (code_Rate.j1 k y0 y1 y2 y3 y4 y5 y6 y7 y8 y9 y10 y11) (code_Rate.j1 (k + 1) y0 y1 y2 y3 y4 y5 y6 y7 y8 y9 y10 y11))
  | 0 => ⟨fun _ _ _ _ _ _ _ _ _ _ _ _ r h => by simp [code_Rate.j0] at h, fun _ _ _ _ _ _ _ _ _ _ _ _ r h => by simp [code_Rate.j1] at h⟩
  | k + 1 => by
    obtain ⟨ih0, ih1⟩ := code_Rate.mono_l k
    refine ⟨?_, ?_⟩
    · intro y0 y1 y2 y3 y4 y5 y6 y7 y8 y9 y10 y11
      unfold code_Rate.j0
      repeat' first
      | (with_reducible exact ih0 _ _ _ _ _ _ _ _ _ _ _ _)
      | (with_reducible exact ih1 _ _ _ _ _ _ _ _ _ _ _ _)
      | (with_reducible exact LeO.refl _)
      | (with_reducible exact LeO.none _)
      | (with_reducible refine LeO.ite ?_ ?_)
      | (with_reducible refine LeO.bind ?_ (fun _ => ?_))
      | exact ih0 _ _ _ _ _ _ _ _ _ _ _ _
      | exact ih1 _ _ _ _ _ _ _ _ _ _ _ _
      | exact LeO.none _
      | refine LeO.ite ?_ ?_
      | refine LeO.bind ?_ (fun _ => ?_)
    · intro y0 y1 y2 y3 y4 y5 y6 y7 y8 y9 y10 y11
      unfold code_Rate.j1
      repeat' first
      | (with_reducible exact ih0 _ _ _ _ _ _ _ _ _ _ _ _)
      | (with_reducible exact ih1 _ _ _ _ _ _ _ _ _ _ _ _)
      | (with_reducible exact LeO.refl _)
      | (with_reducible exact LeO.none _)
      | (with_reducible refine LeO.ite ?_ ?_)
      | (with_reducible refine LeO.bind ?_ (fun _ => ?_))
      | exact ih0 _ _ _ _ _ _ _ _ _ _ _ _
      | exact ih1 _ _ _ _ _ _ _ _ _ _ _ _
      | exact LeO.none _
      | refine LeO.ite ?_ ?_
      | refine LeO.bind ?_ (fun _ => ?_)
theorem code_Rate.mono : ∀ a0 a1 a2 a3 a4 a5 a6 a7 a8 a9 a10 k, LeO (code_Rate.f k a0 a1 a2 a3 a4 a5 a6 a7 a8 a9 a10) (code_Rate.f (k + 1) a0 a1 a2 a3 a4 a5 a6 a7 a8 a9 a10) := by
  intro a0 a1 a2 a3 a4 a5 a6 a7 a8 a9 a10 k
  obtain ⟨ih0, ih1⟩ := code_Rate.mono_l k
  unfold code_Rate.f
  repeat' first
      | (with_reducible exact ih0 _ _ _ _ _ _ _ _ _ _ _ _)
      | (with_reducible exact ih1 _ _ _ _ _ _ _ _ _ _ _ _)
      | (with_reducible exact LeO.refl _)
      | (with_reducible exact LeO.none _)
      | (with_reducible refine LeO.ite ?_ ?_)
      | (with_reducible refine LeO.bind ?_ (fun _ => ?_))
      | exact ih0 _ _ _ _ _ _ _ _ _ _ _ _
      | exact ih1 _ _ _ _ _ _ _ _ _ _ _ _
      | exact LeO.none _
      | refine LeO.ite ?_ ?_
      | refine LeO.bind ?_ (fun _ => ?_)
def code_Rate.T5 : Bool × List (List Nat × List Nat) := (true, [([], []), ([0], [0]), ([1], [1]), ([2], [2]), ([3], [3]), ([], []), ([5], [5]), ([6], [6]), ([7], [7]), ([8], [8]), ([4, 9], [4, 9]), ([], []), ([11, 10, 0, 1, 2, 3, 4, 5, 6, 7, 8, 9, 10, 11], [10, 11])])
def code_Rate.B5 : List Nat := [0, 1, 3, 7, 15, 0, 32, 96, 224, 480, 1023, 0, 4095]
theorem code_Rate.tab5 : rtab .any (opsOf Try.f29 5) = code_Rate.T5 := by kernel_rfl
theorem code_Rate.bits5 : waitsOk code_Rate.T5.2 code_Rate.B5 = true := by kernel_rfl
set_option maxHeartbeats 8000000 in
set_option maxRecDepth 100000 in
theorem code_Rate.calls (k : Nat) (a0_0 : Int) (a0_1 : Int) (a0_2 : ByteArray) (a0_3 : Int) (A0_4 : Option Addr) (c0_4 : Nat) (l0_4 : List Int) (a0_5 : ByteArray) (a0_6 : ByteArray) (a0_7 : Int) (A0_8 : Option Addr) (c0_8 : Nat) (l0_8 : List (S97)) (A0_9 : Option Addr) (c0_9 : Nat) (l0_9 : List (S95)) (A0_10 : Option Addr) (c0_10 : Nat) (l0_10 : List (S82)) (r1 : Int) (r2 : Bool) (r3 : Int) (w : World) (hr0_4 : Kd.C (Kd.int .u8) w A0_4 l0_4.length l0_4) (hc0_4 : l0_4.length ≤ c0_4) (hr0_8 : Kd.C k97 w A0_8 l0_8.length l0_8) (hc0_8 : l0_8.length ≤ c0_8) (hr0_9 : Kd.C k95 w A0_9 l0_9.length l0_9) (hc0_9 : l0_9.length ≤ c0_9) (hr0_10 : Kd.C k82 w A0_10 l0_10.length l0_10) (hc0_10 : l0_10.length ≤ c0_10) (h : code_Rate.f k a0_0 a0_1 a0_2 a0_3 l0_4 a0_5 a0_6 a0_7 l0_8 l0_9 l0_10 = some (r1, r2, r3)) :
    Calls Try.prog 29 #[.agg #[.int .i64 a0_0, .int .i64 a0_1, .string a0_2, .int .i64 a0_3, .slice A0_4 l0_4.length c0_4, .string a0_5, .string a0_6, .int .i64 a0_7, .slice A0_8 l0_8.length c0_8, .slice A0_9 l0_9.length c0_9, .slice A0_10 l0_10.length c0_10]] w fun e w' => e = .returned (.tuple #[.agg #[.int .i64 r1, .bool r2], .int .i64 r3]) ∧ Below w.heap.size w w' := by
  have hu52 := Try.underlying52
  have hu23 := Try.underlying23
  have HR0_4 := Aside0.mk hr0_4
  have HC0_4 := Aside0.mk hc0_4
  clear hr0_4 hc0_4
  have HR0_8 := Aside0.mk hr0_8
  have HC0_8 := Aside0.mk hc0_8
  clear hr0_8 hc0_8
  have HR0_9 := Aside0.mk hr0_9
  have HC0_9 := Aside0.mk hc0_9
  clear hr0_9 hc0_9
  have HR0_10 := Aside0.mk hr0_10
  have HC0_10 := Aside0.mk hc0_10
  clear hr0_10 hc0_10
  have HB := Aside0.mk (Below.refl w.heap.size w)
  have H : (if a0_2.toList = ([116, 109, 99, 49] : List UInt8) then (code_Rate.j0 k (a0_1 != 6) a0_0 a0_1 a0_2 a0_3 l0_4 a0_5 a0_6 a0_7 l0_8 l0_9 l0_10) else (code_Rate.j0 k true a0_0 a0_1 a0_2 a0_3 l0_4 a0_5 a0_6 a0_7 l0_8 l0_9 l0_10)) = some (r1, r2, r3) := h
  clear h
  have HC2 := Aside0.mk H
  clear H
  go_enter Try.func29, Try.ntmps29
  go_upto_region 1 with (first | ((with_reducible refine gate_dst (N := 1) rfl ?_); refine box_event ?hg (N := 1) ?hd (cs := #[.int .i64 a0_0, .int .i64 a0_1, .string a0_2, .int .i64 a0_3, .slice A0_4 l0_4.length c0_4, .string a0_5, .string a0_6, .int .i64 a0_7, .slice A0_8 l0_8.length c0_8, .slice A0_9 l0_9.length c0_9, .slice A0_10 l0_10.length c0_10]) (t := 52) ?hr ?_; (case hd => rfl); (case hg => rfl); (case hr => first | (go_simp; done) | (go_simp; rfl)); intro gb392 hg w3 hbox hb; have n0_ := Aside0.mk (below_step (by repeat (first | (with_reducible first | exact HB.out | apply below_alloc | apply pw_below_drewN | apply below_drew1) | exact HB.out)) hb); have n1_ := Aside0.mk (hbox); have n2_ := Aside0.mk ((by rw [hg]; exact (below_size (by repeat (first | (with_reducible first | exact HB.out | apply below_alloc | apply pw_below_drewN | apply below_drew1) | exact HB.out))) : w.heap.size ≤ gb392)); have n3_ := Aside0.mk ((by rw [hg]; exact (below_size (by repeat (first | (with_reducible first | exact HB.out | apply below_alloc | apply pw_below_drewN | apply below_drew1) | exact HB.out))) : w.heap.size ≤ gb392)); clear HB; have HB := n0_; have BK392 := n1_; have GW392 := n2_; have GE392 := n3_; clear n0_ n1_ n2_ n3_; clear hb hbox hg) | ((with_reducible refine gate_dst (N := 2) rfl ?_); refine box_event ?hg (N := 2) ?hd (cs := #[.int .i64 0, .bool false]) (t := 23) ?hr ?_; (case hd => rfl); (case hg => rfl); (case hr => first | (go_simp; done) | (go_simp; rfl)); intro gb393 hg w4 hbox hb; have n0_ := Aside0.mk (blk_below (g := gb392) (o := .cells #[.int .i64 a0_0, .int .i64 a0_1, .string a0_2, .int .i64 a0_3, .slice A0_4 l0_4.length c0_4, .string a0_5, .string a0_6, .int .i64 a0_7, .slice A0_8 l0_8.length c0_8, .slice A0_9 l0_9.length c0_9, .slice A0_10 l0_10.length c0_10] 52 (0, 0)) (by (with_reducible repeat (first | refine blk_drewN ?_ _ | refine blk_drew ?_ | refine blk_alloc ?_ _)); exact BK392.out) hb); have n1_ := Aside0.mk (below_step (by repeat (first | (with_reducible first | exact HB.out | apply below_alloc | apply pw_below_drewN | apply below_drew1 | refine below_set ?_ GE392.out) | exact HB.out)) hb); have n2_ := Aside0.mk (hbox); have n3_ := Aside0.mk ((by rw [hg]; exact (below_size (by repeat (first | (with_reducible first | exact HB.out | apply below_alloc | apply pw_below_drewN | apply below_drew1 | refine below_set ?_ GE392.out) | exact HB.out))) : w.heap.size ≤ gb393)); have n4_ := Aside0.mk ((by rw [hg]; exact (below_size (by repeat (first | (with_reducible first | exact HB.out | apply below_alloc | apply pw_below_drewN | apply below_drew1 | refine below_set ?_ GE392.out) | exact HB.out))) : w.heap.size ≤ gb393)); have n5_ := Aside0.mk ((by rw [hg]; exact Nat.ne_of_lt (blk_lt (g := gb392) (o := .cells #[.int .i64 a0_0, .int .i64 a0_1, .string a0_2, .int .i64 a0_3, .slice A0_4 l0_4.length c0_4, .string a0_5, .string a0_6, .int .i64 a0_7, .slice A0_8 l0_8.length c0_8, .slice A0_9 l0_9.length c0_9, .slice A0_10 l0_10.length c0_10] 52 (0, 0)) (by (with_reducible repeat (first | refine blk_drewN ?_ _ | refine blk_drew ?_ | refine blk_alloc ?_ _)); exact BK392.out)) : gb392 ≠ gb393)); have n6_ := Aside0.mk ((by rw [hg]; exact Nat.ne_of_gt (blk_lt (g := gb392) (o := .cells #[.int .i64 a0_0, .int .i64 a0_1, .string a0_2, .int .i64 a0_3, .slice A0_4 l0_4.length c0_4, .string a0_5, .string a0_6, .int .i64 a0_7, .slice A0_8 l0_8.length c0_8, .slice A0_9 l0_9.length c0_9, .slice A0_10 l0_10.length c0_10] 52 (0, 0)) (by (with_reducible repeat (first | refine blk_drewN ?_ _ | refine blk_drew ?_ | refine blk_alloc ?_ _)); exact BK392.out)) : gb393 ≠ gb392)); clear BK392; clear HB; have BK392 := n0_; have HB := n1_; have BK393 := n2_; have GW393 := n3_; have GE393 := n4_; have NB392_393 := n5_; have NB393_392 := n6_; clear n0_ n1_ n2_ n3_ n4_ n5_ n6_; clear hb hbox hg))
  (try simp only [Act.put, List.setIfInBounds_toArray, List.set_cons_zero, List.set_cons_succ])
  go_cut [13] (fun v13 wc => ∃ (kq : Nat) (x13_1 : Bool), v13 = .bool x13_1 ∧ Aside0 (code_Rate.j0 kq x13_1 a0_0 a0_1 a0_2 a0_3 l0_4 a0_5 a0_6 a0_7 l0_8 l0_9 l0_10 = some (r1, r2, r3)) ∧ Aside0 (kq ≤ k) ∧ Aside0 (wc.heap[gb392]? = some (.cells #[.int .i64 a0_0, .int .i64 a0_1, .string a0_2, .int .i64 a0_3, (.slice A0_4 l0_4.length c0_4), .string a0_5, .string a0_6, .int .i64 a0_7, (.slice A0_8 l0_8.length c0_8), (.slice A0_9 l0_9.length c0_9), (.slice A0_10 l0_10.length c0_10)] 52 (0, 0))) ∧ Aside0 (wc.heap[gb393]? = some (.cells #[.int .i64 0, .bool false] 23 (0, 0))) ∧ Aside0 (Below w.heap.size w wc))
  case first =>
    have H := HC2.out
    clear HC2
    by_cases c5 : a0_2.toList = ([116, 109, 99, 49] : List UInt8)
    · rw [if_pos c5] at H
      have c5b0 : (a0_2.toList == ([116, 109, 99, 49] : List UInt8)) = true := beq_iff_eq.mpr c5
      have c5b1 : (a0_2.toList != ([116, 109, 99, 49] : List UInt8)) = false := bne_eq_false_iff_eq.mpr c5
      clear c5
      (first | rw [c5b0] | (simp only [i64_w, i32_w]; rw [c5b0]) | skip)
      have H' := Aside0.mk H
      clear H
      have hnb6 := NB392_393.out
      have hnc6 := NB393_392.out
      have hcz7_0 : w4.cell? ⟨gb392, 0, none⟩ = some (.int .i64 a0_0) := (blk_cell BK392.out 0).trans rfl
      have hcz7_1 : w4.cell? ⟨gb392, 1, none⟩ = some (.int .i64 a0_1) := (blk_cell BK392.out 1).trans rfl
      have hcz7_2 : w4.cell? ⟨gb392, 2, none⟩ = some (.string a0_2) := (blk_cell BK392.out 2).trans rfl
      have hcz7_3 : w4.cell? ⟨gb392, 3, none⟩ = some (.int .i64 a0_3) := (blk_cell BK392.out 3).trans rfl
      have hcz7_4 : w4.cell? ⟨gb392, 4, none⟩ = some (.slice A0_4 l0_4.length c0_4) := (blk_cell BK392.out 4).trans rfl
      have hcz7_5 : w4.cell? ⟨gb392, 5, none⟩ = some (.string a0_5) := (blk_cell BK392.out 5).trans rfl
      have hcz7_6 : w4.cell? ⟨gb392, 6, none⟩ = some (.string a0_6) := (blk_cell BK392.out 6).trans rfl
      have hcz7_7 : w4.cell? ⟨gb392, 7, none⟩ = some (.int .i64 a0_7) := (blk_cell BK392.out 7).trans rfl
      have hcz7_8 : w4.cell? ⟨gb392, 8, none⟩ = some (.slice A0_8 l0_8.length c0_8) := (blk_cell BK392.out 8).trans rfl
      have hcz7_9 : w4.cell? ⟨gb392, 9, none⟩ = some (.slice A0_9 l0_9.length c0_9) := (blk_cell BK392.out 9).trans rfl
      have hcz7_10 : w4.cell? ⟨gb392, 10, none⟩ = some (.slice A0_10 l0_10.length c0_10) := (blk_cell BK392.out 10).trans rfl
      have hfz7_0 := blk_frozen BK392.out 0
      have hfz7_1 := blk_frozen BK392.out 1
      have hfz7_2 := blk_frozen BK392.out 2
      have hfz7_3 := blk_frozen BK392.out 3
      have hfz7_4 := blk_frozen BK392.out 4
      have hfz7_5 := blk_frozen BK392.out 5
      have hfz7_6 := blk_frozen BK392.out 6
      have hfz7_7 := blk_frozen BK392.out 7
      have hfz7_8 := blk_frozen BK392.out 8
      have hfz7_9 := blk_frozen BK392.out 9
      have hfz7_10 := blk_frozen BK392.out 10
      go_wp2
      go_meet
      case rel => exact ⟨_, ((a0_1 != 6)), (by first | rfl | (simp; done) | (simp [*]; done)), H', ⟨by first | omega | exact Nat.le_refl _⟩, ⟨by (with_reducible repeat (first | refine blk_drewN ?_ _ | refine blk_drew ?_ | refine blk_alloc ?_ _)); exact BK392.out⟩, ⟨by (with_reducible repeat (first | refine blk_drewN ?_ _ | refine blk_drew ?_ | refine blk_alloc ?_ _)); exact BK393.out⟩, ⟨by repeat (first | (with_reducible first | exact HB.out | apply below_alloc | apply pw_below_drewN | apply below_drew1 | refine below_set ?_ GE392.out | refine below_set ?_ GE393.out) | exact HB.out)⟩⟩
    · rw [if_neg c5] at H
      have c5b0 : (a0_2.toList == ([116, 109, 99, 49] : List UInt8)) = false := beq_eq_false_iff_ne.mpr c5
      have c5b1 : (a0_2.toList != ([116, 109, 99, 49] : List UInt8)) = true := bne_iff_ne.mpr c5
      (first | rw [c5b0] | (simp only [i64_w, i32_w]; rw [c5b0]) | skip)
      have H' := Aside0.mk H
      clear H
      have hnb8 := NB392_393.out
      have hnc8 := NB393_392.out
      have hcz9_0 : w4.cell? ⟨gb392, 0, none⟩ = some (.int .i64 a0_0) := (blk_cell BK392.out 0).trans rfl
      have hcz9_1 : w4.cell? ⟨gb392, 1, none⟩ = some (.int .i64 a0_1) := (blk_cell BK392.out 1).trans rfl
      have hcz9_2 : w4.cell? ⟨gb392, 2, none⟩ = some (.string a0_2) := (blk_cell BK392.out 2).trans rfl
      have hcz9_3 : w4.cell? ⟨gb392, 3, none⟩ = some (.int .i64 a0_3) := (blk_cell BK392.out 3).trans rfl
      have hcz9_4 : w4.cell? ⟨gb392, 4, none⟩ = some (.slice A0_4 l0_4.length c0_4) := (blk_cell BK392.out 4).trans rfl
      have hcz9_5 : w4.cell? ⟨gb392, 5, none⟩ = some (.string a0_5) := (blk_cell BK392.out 5).trans rfl
      have hcz9_6 : w4.cell? ⟨gb392, 6, none⟩ = some (.string a0_6) := (blk_cell BK392.out 6).trans rfl
      have hcz9_7 : w4.cell? ⟨gb392, 7, none⟩ = some (.int .i64 a0_7) := (blk_cell BK392.out 7).trans rfl
      have hcz9_8 : w4.cell? ⟨gb392, 8, none⟩ = some (.slice A0_8 l0_8.length c0_8) := (blk_cell BK392.out 8).trans rfl
      have hcz9_9 : w4.cell? ⟨gb392, 9, none⟩ = some (.slice A0_9 l0_9.length c0_9) := (blk_cell BK392.out 9).trans rfl
      have hcz9_10 : w4.cell? ⟨gb392, 10, none⟩ = some (.slice A0_10 l0_10.length c0_10) := (blk_cell BK392.out 10).trans rfl
      have hfz9_0 := blk_frozen BK392.out 0
      have hfz9_1 := blk_frozen BK392.out 1
      have hfz9_2 := blk_frozen BK392.out 2
      have hfz9_3 := blk_frozen BK392.out 3
      have hfz9_4 := blk_frozen BK392.out 4
      have hfz9_5 := blk_frozen BK392.out 5
      have hfz9_6 := blk_frozen BK392.out 6
      have hfz9_7 := blk_frozen BK392.out 7
      have hfz9_8 := blk_frozen BK392.out 8
      have hfz9_9 := blk_frozen BK392.out 9
      have hfz9_10 := blk_frozen BK392.out 10
      go_wp2
      go_meet
      case rel => exact ⟨_, (true), (by first | rfl | (simp; done) | (simp [*]; done)), H', ⟨by first | omega | exact Nat.le_refl _⟩, ⟨by (with_reducible repeat (first | refine blk_drewN ?_ _ | refine blk_drew ?_ | refine blk_alloc ?_ _)); exact BK392.out⟩, ⟨by (with_reducible repeat (first | refine blk_drewN ?_ _ | refine blk_drew ?_ | refine blk_alloc ?_ _)); exact BK393.out⟩, ⟨by repeat (first | (with_reducible first | exact HB.out | apply below_alloc | apply pw_below_drewN | apply below_drew1 | refine below_set ?_ GE392.out | refine below_set ?_ GE393.out) | exact HB.out)⟩⟩
  case rest =>
    clear HC2
    try clear c2
    try clear p2
    try clear c5
    try clear c5b0
    try clear c5b1
    try clear c6
    try clear c8
    try clear hcz7_0
    try clear hcz7_1
    try clear hcz7_10
    try clear hcz7_2
    try clear hcz7_3
    try clear hcz7_4
    try clear hcz7_5
    try clear hcz7_6
    try clear hcz7_7
    try clear hcz7_8
    try clear hcz7_9
    try clear hcz9_0
    try clear hcz9_1
    try clear hcz9_10
    try clear hcz9_2
    try clear hcz9_3
    try clear hcz9_4
    try clear hcz9_5
    try clear hcz9_6
    try clear hcz9_7
    try clear hcz9_8
    try clear hcz9_9
    try clear hfz7_0
    try clear hfz7_1
    try clear hfz7_10
    try clear hfz7_2
    try clear hfz7_3
    try clear hfz7_4
    try clear hfz7_5
    try clear hfz7_6
    try clear hfz7_7
    try clear hfz7_8
    try clear hfz7_9
    try clear hfz9_0
    try clear hfz9_1
    try clear hfz9_10
    try clear hfz9_2
    try clear hfz9_3
    try clear hfz9_4
    try clear hfz9_5
    try clear hfz9_6
    try clear hfz9_7
    try clear hfz9_8
    try clear hfz9_9
    obtain ⟨kq, x13_1, rfl, HA, HJ1, BK392, BK393, HB⟩ := hcut
    cases kq with
    | zero => exact absurd HA.out (by simp [code_Rate.j0])
    | succ kj1 =>
      have H := HA.out
      clear HA
      simp only [code_Rate.j0] at H
      by_cases c10 : x13_1 = true
      · subst c10
        have H1 : (some (0, false, 7)) = some (r1, r2, r3) := by rw [if_pos rfl] at H; exact H
        clear H
        have H := H1
        clear H1
        simp only [Option.some.injEq, Prod.mk.injEq] at H
        obtain ⟨rfl, rfl, rfl⟩ := H
        have hnb11 := NB393_392.out
        have hnc11 := NB392_393.out
        have hcz12_0 : wc.cell? ⟨gb393, 0, none⟩ = some (.int .i64 0) := (blk_cell BK393.out 0).trans rfl
        have hcz12_1 : wc.cell? ⟨gb393, 1, none⟩ = some (.bool false) := (blk_cell BK393.out 1).trans rfl
        have hfz12_0 := blk_frozen BK393.out 0
        have hfz12_1 := blk_frozen BK393.out 1
        go_wp2
        refine bodyPost_ret (results_ct rfl _ _ gb393 23 #[.int .i64 0, .bool false] (0, 0) _ rfl (by (with_reducible repeat (first | refine blk_drewN ?_ _ | refine blk_drew ?_ | refine blk_alloc ?_ _)); refine blk_put (cs := #[.int .i64 0, .bool false]) ?_ 1 _ rfl; (with_reducible repeat (first | refine blk_drewN ?_ _ | refine blk_drew ?_ | refine blk_alloc ?_ _)); refine blk_put (cs := #[.int .i64 0, .bool false]) ?_ 0 _ rfl; (with_reducible repeat (first | refine blk_drewN ?_ _ | refine blk_drew ?_ | refine blk_alloc ?_ _)); exact BK393.out) Try.underlying23 rfl (by kernel_rfl)) rfl ?_
        exact ⟨by first | rfl | (simp [errW_none, errW_some] <;> rfl) | (simp [*, errW_none, errW_some] <;> rfl), by repeat (first | (with_reducible first | exact HB.out | apply below_alloc | apply pw_below_drewN | apply below_drew1 | refine below_set ?_ GE392.out | refine below_set ?_ GE393.out) | exact HB.out)⟩
      · replace c10 := Bool.eq_false_iff.mpr c10
        subst c10
        have H1 : (if (l0_4.length : Int) = 2 then (if 1 < (l0_4.length : Int) then (code_Rate.j1 kj1 (decide ((rd l0_4 1) > 1)) a0_0 a0_1 a0_2 a0_3 l0_4 a0_5 a0_6 a0_7 l0_8 l0_9 l0_10) else (none)) else (code_Rate.j1 kj1 true a0_0 a0_1 a0_2 a0_3 l0_4 a0_5 a0_6 a0_7 l0_8 l0_9 l0_10)) = some (r1, r2, r3) := by rw [if_neg (show ¬ (false = true) by decide)] at H; exact H
        clear H
        have H := H1
        clear H1
        have HC13 := Aside0.mk H
        clear H
        go_upto_region 3 with (fail)
        go_cut [25] (fun v25 wc => ∃ (kq : Nat) (x25_12 : Bool), v25 = .bool x25_12 ∧ Aside0 (code_Rate.j1 kq x25_12 a0_0 a0_1 a0_2 a0_3 l0_4 a0_5 a0_6 a0_7 l0_8 l0_9 l0_10 = some (r1, r2, r3)) ∧ Aside0 (kq ≤ kj1) ∧ Aside0 (wc.heap[gb392]? = some (.cells #[.int .i64 a0_0, .int .i64 a0_1, .string a0_2, .int .i64 a0_3, (.slice A0_4 l0_4.length c0_4), .string a0_5, .string a0_6, .int .i64 a0_7, (.slice A0_8 l0_8.length c0_8), (.slice A0_9 l0_9.length c0_9), (.slice A0_10 l0_10.length c0_10)] 52 (0, 0))) ∧ Aside0 (wc.heap[gb393]? = some (.cells #[.int .i64 0, .bool false] 23 (0, 0))) ∧ Aside0 (Below w.heap.size w wc))
        case first =>
          have H := HC13.out
          clear HC13
          by_cases c14 : (l0_4.length : Int) = 2
          · rw [if_pos c14] at H
            have c14b0 : ((l0_4.length : Int) == 2) = true := beq_iff_eq.mpr c14
            have c14b1 : ((l0_4.length : Int) != 2) = false := bne_eq_false_iff_eq.mpr c14
            clear c14
            (first | rw [c14b0] | (simp only [i64_w, i32_w]; rw [c14b0]) | skip)
            by_cases c15 : 1 < (l0_4.length : Int)
            · rw [if_pos c15] at H
              have c15b0 : decide (1 < (l0_4.length : Int)) = true := decide_eq_true c15
              have c15b1 : decide (1 < l0_4.length) = true := decide_eq_true (by omega)
              clear c15
              have H' := Aside0.mk H
              clear H
              have hnb16 := NB392_393.out
              have hnc16 := NB393_392.out
              have hcz17_0 : wc.cell? ⟨gb392, 0, none⟩ = some (.int .i64 a0_0) := (blk_cell BK392.out 0).trans rfl
              have hcz17_1 : wc.cell? ⟨gb392, 1, none⟩ = some (.int .i64 a0_1) := (blk_cell BK392.out 1).trans rfl
              have hcz17_2 : wc.cell? ⟨gb392, 2, none⟩ = some (.string a0_2) := (blk_cell BK392.out 2).trans rfl
              have hcz17_3 : wc.cell? ⟨gb392, 3, none⟩ = some (.int .i64 a0_3) := (blk_cell BK392.out 3).trans rfl
              have hcz17_4 : wc.cell? ⟨gb392, 4, none⟩ = some (.slice A0_4 l0_4.length c0_4) := (blk_cell BK392.out 4).trans rfl
              have hcz17_5 : wc.cell? ⟨gb392, 5, none⟩ = some (.string a0_5) := (blk_cell BK392.out 5).trans rfl
              have hcz17_6 : wc.cell? ⟨gb392, 6, none⟩ = some (.string a0_6) := (blk_cell BK392.out 6).trans rfl
              have hcz17_7 : wc.cell? ⟨gb392, 7, none⟩ = some (.int .i64 a0_7) := (blk_cell BK392.out 7).trans rfl
              have hcz17_8 : wc.cell? ⟨gb392, 8, none⟩ = some (.slice A0_8 l0_8.length c0_8) := (blk_cell BK392.out 8).trans rfl
              have hcz17_9 : wc.cell? ⟨gb392, 9, none⟩ = some (.slice A0_9 l0_9.length c0_9) := (blk_cell BK392.out 9).trans rfl
              have hcz17_10 : wc.cell? ⟨gb392, 10, none⟩ = some (.slice A0_10 l0_10.length c0_10) := (blk_cell BK392.out 10).trans rfl
              have hfz17_0 := blk_frozen BK392.out 0
              have hfz17_1 := blk_frozen BK392.out 1
              have hfz17_2 := blk_frozen BK392.out 2
              have hfz17_3 := blk_frozen BK392.out 3
              have hfz17_4 := blk_frozen BK392.out 4
              have hfz17_5 := blk_frozen BK392.out 5
              have hfz17_6 := blk_frozen BK392.out 6
              have hfz17_7 := blk_frozen BK392.out 7
              have hfz17_8 := blk_frozen BK392.out 8
              have hfz17_9 := blk_frozen BK392.out 9
              have hfz17_10 := blk_frozen BK392.out 10
              have p394 : 0 ≤ (1 : Int) := (by omega)
              have q394 : 1 < (l0_4.length : Int) := of_decide_eq_true (by first | (with_reducible assumption) | assumption)
              obtain ⟨ad394, e394, hx394_0⟩ := Kd.at_int HR0_4.out 1 p394 q394
              cases e394
              (try simp only [show (1 : Int).toNat = 1 from rfl, Nat.reduceMul, Nat.reduceEqDiff, Go.Addr.add, ↓reduceIte] at hx394_0)
              have qi394 : (1 < l0_4.length) = True := eq_true (by omega)
              (try rw [show ((1 : Int)).toNat = 1 from rfl] at hx394_0)
              replace hx394_0 := (HB.out.cell (World.block_lt_of_cell? w _ hx394_0)).trans hx394_0
              replace p394 := eq_true p394
              replace q394 := eq_true q394
              go_wp2
              go_meet
              case rel => exact ⟨_, (decide ((rd l0_4 1) > 1)), (by first | rfl | (simp; done) | (simp [*]; done)), H', ⟨by have := HJ1.out; first | omega | exact Nat.le_refl _⟩, ⟨by (with_reducible repeat (first | refine blk_drewN ?_ _ | refine blk_drew ?_ | refine blk_alloc ?_ _)); exact BK392.out⟩, ⟨by (with_reducible repeat (first | refine blk_drewN ?_ _ | refine blk_drew ?_ | refine blk_alloc ?_ _)); exact BK393.out⟩, ⟨by repeat (first | (with_reducible first | exact HB.out | apply below_alloc | apply pw_below_drewN | apply below_drew1 | refine below_set ?_ GE392.out | refine below_set ?_ GE393.out) | exact HB.out)⟩⟩
            · rw [if_neg c15] at H
              exact absurd H (by simp)
          · rw [if_neg c14] at H
            have c14b0 : ((l0_4.length : Int) == 2) = false := beq_eq_false_iff_ne.mpr c14
            have c14b1 : ((l0_4.length : Int) != 2) = true := bne_iff_ne.mpr c14
            (first | rw [c14b0] | (simp only [i64_w, i32_w]; rw [c14b0]) | skip)
            have H' := Aside0.mk H
            clear H
            have hnb18 := NB392_393.out
            have hnc18 := NB393_392.out
            have hcz19_0 : wc.cell? ⟨gb392, 0, none⟩ = some (.int .i64 a0_0) := (blk_cell BK392.out 0).trans rfl
            have hcz19_1 : wc.cell? ⟨gb392, 1, none⟩ = some (.int .i64 a0_1) := (blk_cell BK392.out 1).trans rfl
            have hcz19_2 : wc.cell? ⟨gb392, 2, none⟩ = some (.string a0_2) := (blk_cell BK392.out 2).trans rfl
            have hcz19_3 : wc.cell? ⟨gb392, 3, none⟩ = some (.int .i64 a0_3) := (blk_cell BK392.out 3).trans rfl
            have hcz19_4 : wc.cell? ⟨gb392, 4, none⟩ = some (.slice A0_4 l0_4.length c0_4) := (blk_cell BK392.out 4).trans rfl
            have hcz19_5 : wc.cell? ⟨gb392, 5, none⟩ = some (.string a0_5) := (blk_cell BK392.out 5).trans rfl
            have hcz19_6 : wc.cell? ⟨gb392, 6, none⟩ = some (.string a0_6) := (blk_cell BK392.out 6).trans rfl
            have hcz19_7 : wc.cell? ⟨gb392, 7, none⟩ = some (.int .i64 a0_7) := (blk_cell BK392.out 7).trans rfl
            have hcz19_8 : wc.cell? ⟨gb392, 8, none⟩ = some (.slice A0_8 l0_8.length c0_8) := (blk_cell BK392.out 8).trans rfl
            have hcz19_9 : wc.cell? ⟨gb392, 9, none⟩ = some (.slice A0_9 l0_9.length c0_9) := (blk_cell BK392.out 9).trans rfl
            have hcz19_10 : wc.cell? ⟨gb392, 10, none⟩ = some (.slice A0_10 l0_10.length c0_10) := (blk_cell BK392.out 10).trans rfl
            have hfz19_0 := blk_frozen BK392.out 0
            have hfz19_1 := blk_frozen BK392.out 1
            have hfz19_2 := blk_frozen BK392.out 2
            have hfz19_3 := blk_frozen BK392.out 3
            have hfz19_4 := blk_frozen BK392.out 4
            have hfz19_5 := blk_frozen BK392.out 5
            have hfz19_6 := blk_frozen BK392.out 6
            have hfz19_7 := blk_frozen BK392.out 7
            have hfz19_8 := blk_frozen BK392.out 8
            have hfz19_9 := blk_frozen BK392.out 9
            have hfz19_10 := blk_frozen BK392.out 10
            go_wp2
            go_meet
            case rel => exact ⟨_, (true), (by first | rfl | (simp; done) | (simp [*]; done)), H', ⟨by have := HJ1.out; first | omega | exact Nat.le_refl _⟩, ⟨by (with_reducible repeat (first | refine blk_drewN ?_ _ | refine blk_drew ?_ | refine blk_alloc ?_ _)); exact BK392.out⟩, ⟨by (with_reducible repeat (first | refine blk_drewN ?_ _ | refine blk_drew ?_ | refine blk_alloc ?_ _)); exact BK393.out⟩, ⟨by repeat (first | (with_reducible first | exact HB.out | apply below_alloc | apply pw_below_drewN | apply below_drew1 | refine below_set ?_ GE392.out | refine below_set ?_ GE393.out) | exact HB.out)⟩⟩
        case rest =>
          clear HC13
          try clear c1
          try clear c2
          try clear p2
          try clear p3
          try clear q3
          try clear hx3
          try clear qi3
          try clear c5
          try clear c5b0
          try clear c5b1
          try clear c6
          try clear c8
          try clear c10
          try clear c11
          try clear c14
          try clear c14b0
          try clear c14b1
          try clear c15
          try clear c15b0
          try clear c15b1
          try clear c16
          try clear c18
          try clear hcz12_0
          try clear hcz12_1
          try clear hcz17_0
          try clear hcz17_1
          try clear hcz17_10
          try clear hcz17_2
          try clear hcz17_3
          try clear hcz17_4
          try clear hcz17_5
          try clear hcz17_6
          try clear hcz17_7
          try clear hcz17_8
          try clear hcz17_9
          try clear hcz19_0
          try clear hcz19_1
          try clear hcz19_10
          try clear hcz19_2
          try clear hcz19_3
          try clear hcz19_4
          try clear hcz19_5
          try clear hcz19_6
          try clear hcz19_7
          try clear hcz19_8
          try clear hcz19_9
          try clear hcz7_0
          try clear hcz7_1
          try clear hcz7_10
          try clear hcz7_2
          try clear hcz7_3
          try clear hcz7_4
          try clear hcz7_5
          try clear hcz7_6
          try clear hcz7_7
          try clear hcz7_8
          try clear hcz7_9
          try clear hcz9_0
          try clear hcz9_1
          try clear hcz9_10
          try clear hcz9_2
          try clear hcz9_3
          try clear hcz9_4
          try clear hcz9_5
          try clear hcz9_6
          try clear hcz9_7
          try clear hcz9_8
          try clear hcz9_9
          try clear hfz12_0
          try clear hfz12_1
          try clear hfz17_0
          try clear hfz17_1
          try clear hfz17_10
          try clear hfz17_2
          try clear hfz17_3
          try clear hfz17_4
          try clear hfz17_5
          try clear hfz17_6
          try clear hfz17_7
          try clear hfz17_8
          try clear hfz17_9
          try clear hfz19_0
          try clear hfz19_1
          try clear hfz19_10
          try clear hfz19_2
          try clear hfz19_3
          try clear hfz19_4
          try clear hfz19_5
          try clear hfz19_6
          try clear hfz19_7
          try clear hfz19_8
          try clear hfz19_9
          try clear hfz7_0
          try clear hfz7_1
          try clear hfz7_10
          try clear hfz7_2
          try clear hfz7_3
          try clear hfz7_4
          try clear hfz7_5
          try clear hfz7_6
          try clear hfz7_7
          try clear hfz7_8
          try clear hfz7_9
          try clear hfz9_0
          try clear hfz9_1
          try clear hfz9_10
          try clear hfz9_2
          try clear hfz9_3
          try clear hfz9_4
          try clear hfz9_5
          try clear hfz9_6
          try clear hfz9_7
          try clear hfz9_8
          try clear hfz9_9
          try clear hx394_0
          try clear p2
          try clear p394
          try clear q394
          obtain ⟨kq, x25_12, rfl, HA, HJ12, BK392, BK393, HB⟩ := hcut
          cases kq with
          | zero => exact absurd HA.out (by simp [code_Rate.j1])
          | succ kj12 =>
            have H := HA.out
            clear HA
            simp only [code_Rate.j1] at H
            by_cases c20 : x25_12 = true
            · subst c20
              have H1 : (some (0, false, 4)) = some (r1, r2, r3) := by rw [if_pos rfl] at H; exact H
              clear H
              have H := H1
              clear H1
              simp only [Option.some.injEq, Prod.mk.injEq] at H
              obtain ⟨rfl, rfl, rfl⟩ := H
              have hnb21 := NB393_392.out
              have hnc21 := NB392_393.out
              have hcz22_0 : wc.cell? ⟨gb393, 0, none⟩ = some (.int .i64 0) := (blk_cell BK393.out 0).trans rfl
              have hcz22_1 : wc.cell? ⟨gb393, 1, none⟩ = some (.bool false) := (blk_cell BK393.out 1).trans rfl
              have hfz22_0 := blk_frozen BK393.out 0
              have hfz22_1 := blk_frozen BK393.out 1
              go_wp2
              refine bodyPost_ret (results_ct rfl _ _ gb393 23 #[.int .i64 0, .bool false] (0, 0) _ rfl (by (with_reducible repeat (first | refine blk_drewN ?_ _ | refine blk_drew ?_ | refine blk_alloc ?_ _)); refine blk_put (cs := #[.int .i64 0, .bool false]) ?_ 1 _ rfl; (with_reducible repeat (first | refine blk_drewN ?_ _ | refine blk_drew ?_ | refine blk_alloc ?_ _)); refine blk_put (cs := #[.int .i64 0, .bool false]) ?_ 0 _ rfl; (with_reducible repeat (first | refine blk_drewN ?_ _ | refine blk_drew ?_ | refine blk_alloc ?_ _)); exact BK393.out) Try.underlying23 rfl (by kernel_rfl)) rfl ?_
              exact ⟨by first | rfl | (simp [errW_none, errW_some] <;> rfl) | (simp [*, errW_none, errW_some] <;> rfl), by repeat (first | (with_reducible first | exact HB.out | apply below_alloc | apply pw_below_drewN | apply below_drew1 | refine below_set ?_ GE392.out | refine below_set ?_ GE393.out) | exact HB.out)⟩
            · replace c20 := Bool.eq_false_iff.mpr c20
              subst c20
              have H1 : (if 0 < (l0_4.length : Int) then (if 1 < (l0_4.length : Int) then ((code_Check.f (wrap64 (rd l0_4 0)) ((rd l0_4 1) == 1)).bind fun t398 => (if t398 = 0 then (some (wrap64 (rd l0_4 0), ((rd l0_4 1) == 1), 0)) else (some (0, false, t398)))) else (none)) else (none)) = some (r1, r2, r3) := by rw [if_neg (show ¬ (false = true) by decide)] at H; exact H
              clear H
              have H := H1
              clear H1
              by_cases c23 : 0 < (l0_4.length : Int)
              · rw [if_pos c23] at H
                have c23b0 : decide (0 < (l0_4.length : Int)) = true := decide_eq_true c23
                have c23b1 : decide (0 < l0_4.length) = true := decide_eq_true (by omega)
                clear c23
                by_cases c24 : 1 < (l0_4.length : Int)
                · rw [if_pos c24] at H
                  have c24b0 : decide (1 < (l0_4.length : Int)) = true := decide_eq_true c24
                  have c24b1 : decide (1 < l0_4.length) = true := decide_eq_true (by omega)
                  clear c24
                  replace H := Option.bind_eq_some_iff.mp H
                  obtain ⟨t398, A250, H⟩ := H
                  replace H : (if t398 = 0 then (some (wrap64 (rd l0_4 0), ((rd l0_4 1) == 1), 0)) else (some (0, false, t398))) = some (r1, r2, r3) := H
                  have A25 := Aside0.mk A250
                  clear A250
                  by_cases c26 : t398 = 0
                  · rw [if_pos c26] at H
                    have c26b0 : (t398 == 0) = true := beq_iff_eq.mpr c26
                    have c26b1 : (t398 != 0) = false := bne_eq_false_iff_eq.mpr c26
                    clear c26
                    simp only [Option.some.injEq, Prod.mk.injEq] at H
                    obtain ⟨rfl, rfl, rfl⟩ := H
                    try go_wp2
                    have n0_ := Aside0.mk (blk_drew BK392.out)
                    have n1_ := Aside0.mk (blk_drew BK393.out)
                    have n2_ := Aside0.mk (below_drew1 HB.out)
                    clear BK392
                    clear BK393
                    clear HB
                    have BK392 := n0_
                    have BK393 := n1_
                    have HB := n2_
                    clear n0_ n1_ n2_
                    have p395 : 0 ≤ (0 : Int) := (by omega)
                    have q395 : 0 < (l0_4.length : Int) := of_decide_eq_true (by first | (with_reducible assumption) | assumption)
                    obtain ⟨ad395, e395, hx395_0⟩ := Kd.at_int HR0_4.out 0 p395 q395
                    have hw395_0 := hx395_0
                    (try rw [show ((0 : Int)).toNat = 0 from rfl] at hw395_0)
                    (try rw [show 0 * 1 = 0 from rfl] at hw395_0)
                    (try rw [Addr.add_zero'] at hw395_0)
                    cases e395
                    have qi395 : (0 < l0_4.length) = True := eq_true (by omega)
                    (try rw [show ((0 : Int)).toNat = 0 from rfl] at hx395_0)
                    (try rw [Addr.add_zero'] at hx395_0)
                    replace hx395_0 := (HB.out.cell (World.block_lt_of_cell? w _ hx395_0)).trans hx395_0
                    replace p395 := eq_true p395
                    replace q395 := eq_true q395
                    have p396 : 0 ≤ (1 : Int) := (by omega)
                    have q396 : 1 < (l0_4.length : Int) := of_decide_eq_true (by first | (with_reducible assumption) | assumption)
                    obtain ⟨ad396, e396, hx396_0⟩ := Kd.at_int HR0_4.out 1 p396 q396
                    have hw396_0 := hx396_0
                    (try rw [show ((1 : Int)).toNat = 1 from rfl] at hw396_0)
                    (try rw [show 1 * 1 = 1 from rfl] at hw396_0)
                    (try simp only [Nat.reduceMul, Nat.reduceEqDiff, Go.Addr.add, ↓reduceIte] at hw396_0)
                    obtain rfl : ad395 = ad396 := (by injection e396)
                    (try simp only [show (1 : Int).toNat = 1 from rfl, Nat.reduceMul, Nat.reduceEqDiff, Go.Addr.add, ↓reduceIte] at hx396_0)
                    have qi396 : (1 < l0_4.length) = True := eq_true (by omega)
                    (try rw [show ((1 : Int)).toNat = 1 from rfl] at hx396_0)
                    replace hx396_0 := (HB.out.cell (World.block_lt_of_cell? w _ hx396_0)).trans hx396_0
                    replace p396 := eq_true p396
                    replace q396 := eq_true q396
                    refine start_ (n := 13) (S := fun w' => w'.cell? ⟨gb392, 0, none⟩ = some (.int .i64 a0_0) ∧ w'.cell? ⟨gb392, 1, none⟩ = some (.int .i64 a0_1) ∧ w'.cell? ⟨gb392, 2, none⟩ = some (.string a0_2) ∧ w'.cell? ⟨gb392, 3, none⟩ = some (.int .i64 a0_3) ∧ w'.cell? ⟨gb392, 4, none⟩ = some (.slice (some ad395) l0_4.length c0_4) ∧ w'.cell? ⟨gb392, 5, none⟩ = some (.string a0_5) ∧ w'.cell? ⟨gb392, 6, none⟩ = some (.string a0_6) ∧ w'.cell? ⟨gb392, 7, none⟩ = some (.int .i64 a0_7) ∧ w'.cell? ⟨gb392, 8, none⟩ = some (.slice A0_8 l0_8.length c0_8) ∧ w'.cell? ⟨gb392, 9, none⟩ = some (.slice A0_9 l0_9.length c0_9) ∧ w'.cell? ⟨gb392, 10, none⟩ = some (.slice A0_10 l0_10.length c0_10) ∧ w'.cell? ad395 = some (.int .u8 (rd l0_4 0)) ∧ w'.cell? ⟨ad395.block, ad395.off + 1, none⟩ = some (.int .u8 (rd l0_4 1))) (ds := []) #[false, false, false, false, false, false, false, false, false, false, false, false, false] (by kernel_rfl) rfl rfl ⟨(blk_cell BK392.out 0).trans rfl, (blk_cell BK392.out 1).trans rfl, (blk_cell BK392.out 2).trans rfl, (blk_cell BK392.out 3).trans rfl, (blk_cell BK392.out 4).trans rfl, (blk_cell BK392.out 5).trans rfl, (blk_cell BK392.out 6).trans rfl, (blk_cell BK392.out 7).trans rfl, (blk_cell BK392.out 8).trans rfl, (blk_cell BK392.out 9).trans rfl, (blk_cell BK392.out 10).trans rfl, ((HB.out.cell (World.block_lt_of_cell? w _ hw395_0)).trans hw395_0), ((HB.out.cell (World.block_lt_of_cell? w _ hw396_0)).trans hw396_0)⟩ (fun hHeld => ?_); refine with_tabW code_Rate.tab5 code_Rate.bits5 (fun HT_ HW_ => ?_)
                    generalize wc.drew = w27 at BK392 BK393 HB hx395_0 hx396_0 hHeld ⊢
                    refine pure_ (i := 0) (N := some 27) (v := ?_) (a' := ?_) #[true, false, false, false, false, false, false, false, false, false, false, false, false] rfl rfl (any_of HT_.out (by kernel_rfl)) (fun _ _ _ h => h) (Or.inl ⟨by rfl, ?_⟩) ?_ ?_
                    rotate_left
                    · intro w'
                      go_simp
                      with_reducible rfl
                    rotate_left
                    · simp only [Act.put, List.setIfInBounds_toArray, List.set_cons_zero, List.set_cons_succ, i64_w, i32_w]
                      rfl
                    refine pure_ (i := 5) (N := some 32) (v := ?_) (a' := ?_) #[true, false, false, false, false, true, false, false, false, false, false, false, false] rfl rfl (any_of HT_.out (by kernel_rfl)) (fun _ _ _ h => h) (Or.inl ⟨by rfl, ?_⟩) ?_ ?_
                    rotate_left
                    · intro w'
                      go_simp
                      with_reducible rfl
                    rotate_left
                    · simp only [Act.put, List.setIfInBounds_toArray, List.set_cons_zero, List.set_cons_succ, i64_w, i32_w]
                      rfl
                    refine take_ (i := 1) (N := some 28) (v := ?_) (a' := ?_) #[true, true, false, false, false, true, false, false, false, false, false, false, false] rfl rfl (take_ofW HT_.out HW_.out (by kernel_rfl)) (fun _ _ _ h => h) (Or.inl ⟨by rfl, ?_⟩) hHeld ?_ ?_
                    rotate_left
                    · rintro w' ⟨s0, s1, s2, s3, s4, s5, s6, s7, s8, s9, s10, s11, s12⟩
                      go_simp
                      with_reducible rfl
                    rotate_left
                    · simp only [Act.put, List.setIfInBounds_toArray, List.set_cons_zero, List.set_cons_succ, i64_w, i32_w]
                      rfl
                    refine pure_ (i := 2) (N := some 29) (v := ?_) (a' := ?_) #[true, true, true, false, false, true, false, false, false, false, false, false, false] rfl rfl (any_of HT_.out (by kernel_rfl)) (fun _ _ _ h => h) (Or.inl ⟨by rfl, ?_⟩) ?_ ?_
                    rotate_left
                    · intro w'
                      go_simp
                      with_reducible rfl
                    rotate_left
                    · simp only [Act.put, List.setIfInBounds_toArray, List.set_cons_zero, List.set_cons_succ, i64_w, i32_w]
                      rfl
                    refine take_ (i := 3) (N := some 30) (v := ?_) (a' := ?_) #[true, true, true, true, false, true, false, false, false, false, false, false, false] rfl rfl (take_ofW HT_.out HW_.out (by kernel_rfl)) (fun _ _ _ h => h) (Or.inl ⟨by rfl, ?_⟩) hHeld ?_ ?_
                    rotate_left
                    · rintro w' ⟨s0, s1, s2, s3, s4, s5, s6, s7, s8, s9, s10, s11, s12⟩
                      go_simp
                      with_reducible rfl
                    rotate_left
                    · simp only [Act.put, List.setIfInBounds_toArray, List.set_cons_zero, List.set_cons_succ, i64_w, i32_w]
                      rfl
                    refine pure_ (i := 4) (N := some 31) (v := ?_) (a' := ?_) #[true, true, true, true, true, true, false, false, false, false, false, false, false] rfl rfl (any_of HT_.out (by kernel_rfl)) (fun _ _ _ h => h) (Or.inl ⟨by rfl, ?_⟩) ?_ ?_
                    rotate_left
                    · intro w'
                      go_simp
                      with_reducible rfl
                    rotate_left
                    · simp only [Act.put, List.setIfInBounds_toArray, List.set_cons_zero, List.set_cons_succ, i64_w, i32_w]
                      rfl
                    refine take_ (i := 6) (N := some 33) (v := ?_) (a' := ?_) #[true, true, true, true, true, true, true, false, false, false, false, false, false] rfl rfl (take_ofW HT_.out HW_.out (by kernel_rfl)) (fun _ _ _ h => h) (Or.inl ⟨by rfl, ?_⟩) hHeld ?_ ?_
                    rotate_left
                    · rintro w' ⟨s0, s1, s2, s3, s4, s5, s6, s7, s8, s9, s10, s11, s12⟩
                      go_simp
                      with_reducible rfl
                    rotate_left
                    · simp only [Act.put, List.setIfInBounds_toArray, List.set_cons_zero, List.set_cons_succ, i64_w, i32_w]
                      rfl
                    refine pure_ (i := 7) (N := some 34) (v := ?_) (a' := ?_) #[true, true, true, true, true, true, true, true, false, false, false, false, false] rfl rfl (any_of HT_.out (by kernel_rfl)) (fun _ _ _ h => h) (Or.inl ⟨by rfl, ?_⟩) ?_ ?_
                    rotate_left
                    · intro w'
                      go_simp
                      with_reducible rfl
                    rotate_left
                    · simp only [Act.put, List.setIfInBounds_toArray, List.set_cons_zero, List.set_cons_succ, i64_w, i32_w]
                      rfl
                    refine take_ (i := 8) (N := some 35) (v := ?_) (a' := ?_) #[true, true, true, true, true, true, true, true, true, false, false, false, false] rfl rfl (take_ofW HT_.out HW_.out (by kernel_rfl)) (fun _ _ _ h => h) (Or.inl ⟨by rfl, ?_⟩) hHeld ?_ ?_
                    rotate_left
                    · rintro w' ⟨s0, s1, s2, s3, s4, s5, s6, s7, s8, s9, s10, s11, s12⟩
                      go_simp
                      with_reducible rfl
                    rotate_left
                    · simp only [Act.put, List.setIfInBounds_toArray, List.set_cons_zero, List.set_cons_succ, i64_w, i32_w]
                      rfl
                    refine pure_ (i := 9) (N := some 36) (v := ?_) (a' := ?_) #[true, true, true, true, true, true, true, true, true, true, false, false, false] rfl rfl (any_of HT_.out (by kernel_rfl)) (fun _ _ _ h => h) (Or.inl ⟨by rfl, ?_⟩) ?_ ?_
                    rotate_left
                    · intro w'
                      go_simp
                      with_reducible rfl
                    rotate_left
                    · simp only [Act.put, List.setIfInBounds_toArray, List.set_cons_zero, List.set_cons_succ, i64_w, i32_w]
                      rfl
                    refine pure_ (i := 10) (N := some 37) (v := ?_) (a' := ?_) #[true, true, true, true, true, true, true, true, true, true, true, false, false] rfl rfl (any_of HT_.out (by kernel_rfl)) (fun _ _ _ h => h) (Or.inl ⟨by rfl, ?_⟩) ?_ ?_
                    rotate_left
                    · intro w'
                      go_simp
                      with_reducible rfl
                    rotate_left
                    · simp only [Act.put, List.setIfInBounds_toArray, List.set_cons_zero, List.set_cons_succ, i64_w, i32_w]
                      rfl
                    refine one_ (i := 11) (N := some 4) #[true, true, true, true, true, true, true, true, true, true, true, true, false] rfl rfl (one_of HT_.out (by kernel_rfl)) (by decide) (fun K hK => ?_)
                    refine box_step ?hg (N := 4) ?hd (cs := #[.int .i64 0, .bool false]) (t := 23) ?hr ?_; (case hd => rfl); (case hg => rfl); (case hr => first | (go_simp; done) | (go_simp; rfl))
                    intro gb397 hg w28 hbox hb
                    have n0_ := Aside0.mk (blk_below (g := gb392) (o := .cells #[.int .i64 a0_0, .int .i64 a0_1, .string a0_2, .int .i64 a0_3, .slice (some ad395) l0_4.length c0_4, .string a0_5, .string a0_6, .int .i64 a0_7, .slice A0_8 l0_8.length c0_8, .slice A0_9 l0_9.length c0_9, .slice A0_10 l0_10.length c0_10] 52 (0, 0)) (by (with_reducible repeat (first | refine blk_drewN ?_ _ | refine blk_drew ?_ | refine blk_alloc ?_ _)); exact BK392.out) hb)
                    have n1_ := Aside0.mk (blk_below (g := gb393) (o := .cells #[.int .i64 0, .bool false] 23 (0, 0)) (by (with_reducible repeat (first | refine blk_drewN ?_ _ | refine blk_drew ?_ | refine blk_alloc ?_ _)); exact BK393.out) hb)
                    have n2_ := Aside0.mk (below_step (by repeat (first | (with_reducible first | exact HB.out | apply below_alloc | apply pw_below_drewN | apply below_drew1 | refine below_set ?_ GE392.out | refine below_set ?_ GE393.out) | exact HB.out)) hb)
                    have n3_ := Aside0.mk (hbox)
                    have n4_ := Aside0.mk ((by rw [hg]; exact (below_size (by repeat (first | (with_reducible first | exact HB.out | apply below_alloc | apply pw_below_drewN | apply below_drew1 | refine below_set ?_ GE392.out | refine below_set ?_ GE393.out) | exact HB.out))) : w.heap.size ≤ gb397))
                    have n5_ := Aside0.mk ((by rw [hg]; exact (below_size (by repeat (first | (with_reducible first | exact HB.out | apply below_alloc | apply pw_below_drewN | apply below_drew1 | refine below_set ?_ GE392.out | refine below_set ?_ GE393.out) | exact HB.out))) : w.heap.size ≤ gb397))
                    have n6_ := Aside0.mk ((by rw [hg]; exact Nat.ne_of_lt (blk_lt (g := gb392) (o := .cells #[.int .i64 a0_0, .int .i64 a0_1, .string a0_2, .int .i64 a0_3, .slice (some ad395) l0_4.length c0_4, .string a0_5, .string a0_6, .int .i64 a0_7, .slice A0_8 l0_8.length c0_8, .slice A0_9 l0_9.length c0_9, .slice A0_10 l0_10.length c0_10] 52 (0, 0)) (by (with_reducible repeat (first | refine blk_drewN ?_ _ | refine blk_drew ?_ | refine blk_alloc ?_ _)); exact BK392.out)) : gb392 ≠ gb397))
                    have n7_ := Aside0.mk ((by rw [hg]; exact Nat.ne_of_gt (blk_lt (g := gb392) (o := .cells #[.int .i64 a0_0, .int .i64 a0_1, .string a0_2, .int .i64 a0_3, .slice (some ad395) l0_4.length c0_4, .string a0_5, .string a0_6, .int .i64 a0_7, .slice A0_8 l0_8.length c0_8, .slice A0_9 l0_9.length c0_9, .slice A0_10 l0_10.length c0_10] 52 (0, 0)) (by (with_reducible repeat (first | refine blk_drewN ?_ _ | refine blk_drew ?_ | refine blk_alloc ?_ _)); exact BK392.out)) : gb397 ≠ gb392))
                    have n8_ := Aside0.mk ((by rw [hg]; exact Nat.ne_of_lt (blk_lt (g := gb393) (o := .cells #[.int .i64 0, .bool false] 23 (0, 0)) (by (with_reducible repeat (first | refine blk_drewN ?_ _ | refine blk_drew ?_ | refine blk_alloc ?_ _)); exact BK393.out)) : gb393 ≠ gb397))
                    have n9_ := Aside0.mk ((by rw [hg]; exact Nat.ne_of_gt (blk_lt (g := gb393) (o := .cells #[.int .i64 0, .bool false] 23 (0, 0)) (by (with_reducible repeat (first | refine blk_drewN ?_ _ | refine blk_drew ?_ | refine blk_alloc ?_ _)); exact BK393.out)) : gb397 ≠ gb393))
                    clear BK392
                    clear BK393
                    clear HB
                    have BK392 := n0_
                    have BK393 := n1_
                    have HB := n2_
                    have BK397 := n3_
                    have GW397 := n4_
                    have GE397 := n5_
                    have NB392_397 := n6_
                    have NB397_392 := n7_
                    have NB393_397 := n8_
                    have NB397_393 := n9_
                    clear n0_ n1_ n2_ n3_ n4_ n5_ n6_ n7_ n8_ n9_
                    clear hb hbox hg
                    refine hK.out _ _ ⟨(blk_cell BK392.out 0).trans rfl, (blk_cell BK392.out 1).trans rfl, (blk_cell BK392.out 2).trans rfl, (blk_cell BK392.out 3).trans rfl, (blk_cell BK392.out 4).trans rfl, (blk_cell BK392.out 5).trans rfl, (blk_cell BK392.out 6).trans rfl, (blk_cell BK392.out 7).trans rfl, (blk_cell BK392.out 8).trans rfl, (blk_cell BK392.out 9).trans rfl, (blk_cell BK392.out 10).trans rfl, ((HB.out.cell (World.block_lt_of_cell? w _ hw395_0)).trans hw395_0), ((HB.out.cell (World.block_lt_of_cell? w _ hw396_0)).trans hw396_0)⟩ (fun hHeld => ?_)
                    clear hK K
                    refine norm_ (a' := ?_) ?_ ?_
                    rotate_left
                    · show Act.put _ (some 4) _ = _
                      simp only [Act.put, List.setIfInBounds_toArray, List.set_cons_zero, List.set_cons_succ, i64_w, i32_w]
                      rfl
                    refine one_ (i := 12) (N := none) #[true, true, true, true, true, true, true, true, true, true, true, true, true] rfl rfl (one_of HT_.out (by kernel_rfl)) (by decide) (fun K hK => ?_)
                    have hs29 : w28.cell? ⟨gb397, 0, none⟩ = some (.int .i64 0) := (blk_cell BK397.out 0).trans rfl
                    have hfs29 := blk_frozen BK397.out 0
                    have hns29_0 := NB392_397.out
                    have hns29_1 := NB393_397.out
                    have hms29_0 := NB397_392.out
                    have hms29_1 := NB397_393.out
                    have hs30 : w28.cell? ⟨gb397, 1, none⟩ = some (.bool false) := (blk_cell BK397.out 1).trans rfl
                    have hfs30 := blk_frozen BK397.out 1
                    have hns30_0 := NB392_397.out
                    have hns30_1 := NB393_397.out
                    have hms30_0 := NB397_392.out
                    have hms30_1 := NB397_393.out
                    refine skip_ (w1 := ?_) (by rfl) rfl ?_ ?_
                    rotate_left
                    · go_simp
                      rfl
                    refine hK.out _ _ ⟨((cell_far (p := ⟨gb397, _, none⟩) NB392_397.out _).trans (((cell_far (p := ⟨gb397, _, none⟩) NB392_397.out _).trans (hHeld.1)))), ((cell_far (p := ⟨gb397, _, none⟩) NB392_397.out _).trans (((cell_far (p := ⟨gb397, _, none⟩) NB392_397.out _).trans (hHeld.2.1)))), ((cell_far (p := ⟨gb397, _, none⟩) NB392_397.out _).trans (((cell_far (p := ⟨gb397, _, none⟩) NB392_397.out _).trans (hHeld.2.2.1)))), ((cell_far (p := ⟨gb397, _, none⟩) NB392_397.out _).trans (((cell_far (p := ⟨gb397, _, none⟩) NB392_397.out _).trans (hHeld.2.2.2.1)))), ((cell_far (p := ⟨gb397, _, none⟩) NB392_397.out _).trans (((cell_far (p := ⟨gb397, _, none⟩) NB392_397.out _).trans (hHeld.2.2.2.2.1)))), ((cell_far (p := ⟨gb397, _, none⟩) NB392_397.out _).trans (((cell_far (p := ⟨gb397, _, none⟩) NB392_397.out _).trans (hHeld.2.2.2.2.2.1)))), ((cell_far (p := ⟨gb397, _, none⟩) NB392_397.out _).trans (((cell_far (p := ⟨gb397, _, none⟩) NB392_397.out _).trans (hHeld.2.2.2.2.2.2.1)))), ((cell_far (p := ⟨gb397, _, none⟩) NB392_397.out _).trans (((cell_far (p := ⟨gb397, _, none⟩) NB392_397.out _).trans (hHeld.2.2.2.2.2.2.2.1)))), ((cell_far (p := ⟨gb397, _, none⟩) NB392_397.out _).trans (((cell_far (p := ⟨gb397, _, none⟩) NB392_397.out _).trans (hHeld.2.2.2.2.2.2.2.2.1)))), ((cell_far (p := ⟨gb397, _, none⟩) NB392_397.out _).trans (((cell_far (p := ⟨gb397, _, none⟩) NB392_397.out _).trans (hHeld.2.2.2.2.2.2.2.2.2.1)))), ((cell_far (p := ⟨gb397, _, none⟩) NB392_397.out _).trans (((cell_far (p := ⟨gb397, _, none⟩) NB392_397.out _).trans (hHeld.2.2.2.2.2.2.2.2.2.2.1)))), ((cell_far (p := ⟨gb397, _, none⟩) (by first | exact Nat.ne_of_lt (Nat.lt_of_lt_of_le (by have := World.block_lt_of_cell? _ _ hw395_0; first | rwa [add_block] at this | exact this) GW397.out) | (rw [add_block]; exact Nat.ne_of_lt (Nat.lt_of_lt_of_le (by have := World.block_lt_of_cell? _ _ hw395_0; first | rwa [add_block] at this | exact this) GW397.out)) | (show (Addr.add _ _).block ≠ _; rw [add_block]; exact Nat.ne_of_lt (Nat.lt_of_lt_of_le (by have := World.block_lt_of_cell? _ _ hw395_0; first | rwa [add_block] at this | exact this) GW397.out)) | (dsimp only; exact Nat.ne_of_lt (Nat.lt_of_lt_of_le (by have := World.block_lt_of_cell? _ _ hw395_0; first | rwa [add_block] at this | exact this) GW397.out))) _).trans (((cell_far (p := ⟨gb397, _, none⟩) (by first | exact Nat.ne_of_lt (Nat.lt_of_lt_of_le (by have := World.block_lt_of_cell? _ _ hw395_0; first | rwa [add_block] at this | exact this) GW397.out) | (rw [add_block]; exact Nat.ne_of_lt (Nat.lt_of_lt_of_le (by have := World.block_lt_of_cell? _ _ hw395_0; first | rwa [add_block] at this | exact this) GW397.out)) | (show (Addr.add _ _).block ≠ _; rw [add_block]; exact Nat.ne_of_lt (Nat.lt_of_lt_of_le (by have := World.block_lt_of_cell? _ _ hw395_0; first | rwa [add_block] at this | exact this) GW397.out)) | (dsimp only; exact Nat.ne_of_lt (Nat.lt_of_lt_of_le (by have := World.block_lt_of_cell? _ _ hw395_0; first | rwa [add_block] at this | exact this) GW397.out))) _).trans (hHeld.2.2.2.2.2.2.2.2.2.2.2.1)))), ((cell_far (p := ⟨gb397, _, none⟩) (by first | exact Nat.ne_of_lt (Nat.lt_of_lt_of_le (by have := World.block_lt_of_cell? _ _ hw396_0; first | rwa [add_block] at this | exact this) GW397.out) | (rw [add_block]; exact Nat.ne_of_lt (Nat.lt_of_lt_of_le (by have := World.block_lt_of_cell? _ _ hw396_0; first | rwa [add_block] at this | exact this) GW397.out)) | (show (Addr.add _ _).block ≠ _; rw [add_block]; exact Nat.ne_of_lt (Nat.lt_of_lt_of_le (by have := World.block_lt_of_cell? _ _ hw396_0; first | rwa [add_block] at this | exact this) GW397.out)) | (dsimp only; exact Nat.ne_of_lt (Nat.lt_of_lt_of_le (by have := World.block_lt_of_cell? _ _ hw396_0; first | rwa [add_block] at this | exact this) GW397.out))) _).trans (((cell_far (p := ⟨gb397, _, none⟩) (by first | exact Nat.ne_of_lt (Nat.lt_of_lt_of_le (by have := World.block_lt_of_cell? _ _ hw396_0; first | rwa [add_block] at this | exact this) GW397.out) | (rw [add_block]; exact Nat.ne_of_lt (Nat.lt_of_lt_of_le (by have := World.block_lt_of_cell? _ _ hw396_0; first | rwa [add_block] at this | exact this) GW397.out)) | (show (Addr.add _ _).block ≠ _; rw [add_block]; exact Nat.ne_of_lt (Nat.lt_of_lt_of_le (by have := World.block_lt_of_cell? _ _ hw396_0; first | rwa [add_block] at this | exact this) GW397.out)) | (dsimp only; exact Nat.ne_of_lt (Nat.lt_of_lt_of_le (by have := World.block_lt_of_cell? _ _ hw396_0; first | rwa [add_block] at this | exact this) GW397.out))) _).trans (hHeld.2.2.2.2.2.2.2.2.2.2.2.2))))⟩ (fun hHeld => ?_)
                    clear hK K
                    refine done_ (done_of HT_.out (by kernel_rfl)) ?_
                    have hnb31 := NB397_392.out
                    have hnc31 := NB392_397.out
                    have hnb32 := NB397_393.out
                    have hnc32 := NB393_397.out
                    have hcz33_0 : w28.cell? ⟨gb397, 0, none⟩ = some (.int .i64 0) := (blk_cell BK397.out 0).trans rfl
                    have hcz33_1 : w28.cell? ⟨gb397, 1, none⟩ = some (.bool false) := (blk_cell BK397.out 1).trans rfl
                    have hfz33_0 := blk_frozen BK397.out 0
                    have hfz33_1 := blk_frozen BK397.out 1
                    try go_wp2_with (first | ((with_reducible refine gate_callee (f := 25) rfl ?_); refine goesL_ (some 39) rfl rfl Try.func25 (by kernel_rfl) rfl #[.agg #[.int .i64 (wrap64 (rd l0_4 0)), .bool ((rd l0_4 1) == 1)]] rfl (by (try simp only [List.map_toArray, List.map_cons, List.map_nil]); first | done | rfl | (simp only [List.length_drop, List.length_take]; rfl)) ?_; (with_reducible refine (code_Check.calls (wrap64 (rd l0_4 0)) ((rd l0_4 1) == 1) t398 _ A25.out).mono ?_); rintro e w34 ⟨rfl, hb⟩; refine ⟨_, rfl, ?_⟩; have n0_ := Aside0.mk (blk_below (g := gb392) (o := .cells #[.int .i64 a0_0, .int .i64 a0_1, .string a0_2, .int .i64 a0_3, .slice (some ad395) l0_4.length c0_4, .string a0_5, .string a0_6, .int .i64 a0_7, .slice A0_8 l0_8.length c0_8, .slice A0_9 l0_9.length c0_9, .slice A0_10 l0_10.length c0_10] 52 (0, 0)) (by (with_reducible repeat (first | refine blk_drewN ?_ _ | refine blk_drew ?_ | refine blk_alloc ?_ _)); refine blk_far ?_ NB392_397.out _; (with_reducible repeat (first | refine blk_drewN ?_ _ | refine blk_drew ?_ | refine blk_alloc ?_ _)); refine blk_far ?_ NB392_397.out _; (with_reducible repeat (first | refine blk_drewN ?_ _ | refine blk_drew ?_ | refine blk_alloc ?_ _)); exact BK392.out) hb); have n1_ := Aside0.mk (blk_below (g := gb393) (o := .cells #[.int .i64 0, .bool false] 23 (0, 0)) (by (with_reducible repeat (first | refine blk_drewN ?_ _ | refine blk_drew ?_ | refine blk_alloc ?_ _)); refine blk_far ?_ NB393_397.out _; (with_reducible repeat (first | refine blk_drewN ?_ _ | refine blk_drew ?_ | refine blk_alloc ?_ _)); refine blk_far ?_ NB393_397.out _; (with_reducible repeat (first | refine blk_drewN ?_ _ | refine blk_drew ?_ | refine blk_alloc ?_ _)); exact BK393.out) hb); have n2_ := Aside0.mk (blk_below (g := gb397) (o := .cells #[.int .i64 (wrap64 (rd l0_4 0)), .bool ((rd l0_4 1) == 1)] 23 (0, 0)) (by (with_reducible repeat (first | refine blk_drewN ?_ _ | refine blk_drew ?_ | refine blk_alloc ?_ _)); refine blk_put (cs := #[.int .i64 (wrap64 (rd l0_4 0)), .bool false]) ?_ 1 _ rfl; (with_reducible repeat (first | refine blk_drewN ?_ _ | refine blk_drew ?_ | refine blk_alloc ?_ _)); refine blk_put (cs := #[.int .i64 0, .bool false]) ?_ 0 _ rfl; (with_reducible repeat (first | refine blk_drewN ?_ _ | refine blk_drew ?_ | refine blk_alloc ?_ _)); exact BK397.out) hb); have n3_ := Aside0.mk (below_step (by repeat (first | (with_reducible first | exact HB.out | apply below_alloc | apply pw_below_drewN | apply below_drew1 | refine below_set ?_ GE392.out | refine below_set ?_ GE393.out | refine below_set ?_ GE397.out) | exact HB.out)) hb); clear BK392; clear BK393; clear BK397; clear HB; have BK392 := n0_; have BK393 := n1_; have BK397 := n2_; have HB := n3_; clear n0_ n1_ n2_ n3_; (try clear hb); (try clear hb2); (try clear hk); (try clear hi); have hcz35_0 : w34.cell? ⟨gb397, 0, none⟩ = some (.int .i64 (wrap64 (rd l0_4 0))) := (blk_cell BK397.out 0).trans rfl; have hcz35_1 : w34.cell? ⟨gb397, 1, none⟩ = some (.bool ((rd l0_4 1) == 1)) := (blk_cell BK397.out 1).trans rfl; have hfz35_0 := blk_frozen BK397.out 0; have hfz35_1 := blk_frozen BK397.out 1; have hnb36 := NB393_392.out; have hnc36 := NB392_393.out; have hcz37_0 : w34.cell? ⟨gb393, 0, none⟩ = some (.int .i64 0) := (blk_cell BK393.out 0).trans rfl; have hcz37_1 : w34.cell? ⟨gb393, 1, none⟩ = some (.bool false) := (blk_cell BK393.out 1).trans rfl; have hfz37_0 := blk_frozen BK393.out 0; have hfz37_1 := blk_frozen BK393.out 1))
                    refine bodyPost_ret (results_ct rfl _ _ gb393 23 #[.int .i64 (wrap64 (rd l0_4 0)), .bool ((rd l0_4 1) == 1)] (0, 0) _ rfl (by (with_reducible repeat (first | refine blk_drewN ?_ _ | refine blk_drew ?_ | refine blk_alloc ?_ _)); refine blk_put (cs := #[.int .i64 (wrap64 (rd l0_4 0)), .bool false]) ?_ 1 _ rfl; (with_reducible repeat (first | refine blk_drewN ?_ _ | refine blk_drew ?_ | refine blk_alloc ?_ _)); refine blk_put (cs := #[.int .i64 0, .bool false]) ?_ 0 _ rfl; (with_reducible repeat (first | refine blk_drewN ?_ _ | refine blk_drew ?_ | refine blk_alloc ?_ _)); exact BK393.out) Try.underlying23 rfl (by kernel_rfl)) rfl ?_
                    exact ⟨by first | rfl | (simp [errW_none, errW_some] <;> rfl) | (simp [*, errW_none, errW_some] <;> rfl), by repeat (first | (with_reducible first | exact HB.out | apply below_alloc | apply pw_below_drewN | apply below_drew1 | refine below_set ?_ GE392.out | refine below_set ?_ GE393.out | refine below_set ?_ GE397.out) | exact HB.out)⟩
                  · rw [if_neg c26] at H
                    have c26b0 : (t398 == 0) = false := beq_eq_false_iff_ne.mpr c26
                    have c26b1 : (t398 != 0) = true := bne_iff_ne.mpr c26
                    simp only [Option.some.injEq, Prod.mk.injEq] at H
                    obtain ⟨rfl, rfl, rfl⟩ := H
                    try go_wp2
                    have n0_ := Aside0.mk (blk_drew BK392.out)
                    have n1_ := Aside0.mk (blk_drew BK393.out)
                    have n2_ := Aside0.mk (below_drew1 HB.out)
                    clear BK392
                    clear BK393
                    clear HB
                    have BK392 := n0_
                    have BK393 := n1_
                    have HB := n2_
                    clear n0_ n1_ n2_
                    have p395 : 0 ≤ (0 : Int) := (by omega)
                    have q395 : 0 < (l0_4.length : Int) := of_decide_eq_true (by first | (with_reducible assumption) | assumption)
                    obtain ⟨ad395, e395, hx395_0⟩ := Kd.at_int HR0_4.out 0 p395 q395
                    have hw395_0 := hx395_0
                    (try rw [show ((0 : Int)).toNat = 0 from rfl] at hw395_0)
                    (try rw [show 0 * 1 = 0 from rfl] at hw395_0)
                    (try rw [Addr.add_zero'] at hw395_0)
                    cases e395
                    have qi395 : (0 < l0_4.length) = True := eq_true (by omega)
                    (try rw [show ((0 : Int)).toNat = 0 from rfl] at hx395_0)
                    (try rw [Addr.add_zero'] at hx395_0)
                    replace hx395_0 := (HB.out.cell (World.block_lt_of_cell? w _ hx395_0)).trans hx395_0
                    replace p395 := eq_true p395
                    replace q395 := eq_true q395
                    have p396 : 0 ≤ (1 : Int) := (by omega)
                    have q396 : 1 < (l0_4.length : Int) := of_decide_eq_true (by first | (with_reducible assumption) | assumption)
                    obtain ⟨ad396, e396, hx396_0⟩ := Kd.at_int HR0_4.out 1 p396 q396
                    have hw396_0 := hx396_0
                    (try rw [show ((1 : Int)).toNat = 1 from rfl] at hw396_0)
                    (try rw [show 1 * 1 = 1 from rfl] at hw396_0)
                    (try simp only [Nat.reduceMul, Nat.reduceEqDiff, Go.Addr.add, ↓reduceIte] at hw396_0)
                    obtain rfl : ad395 = ad396 := (by injection e396)
                    (try simp only [show (1 : Int).toNat = 1 from rfl, Nat.reduceMul, Nat.reduceEqDiff, Go.Addr.add, ↓reduceIte] at hx396_0)
                    have qi396 : (1 < l0_4.length) = True := eq_true (by omega)
                    (try rw [show ((1 : Int)).toNat = 1 from rfl] at hx396_0)
                    replace hx396_0 := (HB.out.cell (World.block_lt_of_cell? w _ hx396_0)).trans hx396_0
                    replace p396 := eq_true p396
                    replace q396 := eq_true q396
                    refine start_ (n := 13) (S := fun w' => w'.cell? ⟨gb392, 0, none⟩ = some (.int .i64 a0_0) ∧ w'.cell? ⟨gb392, 1, none⟩ = some (.int .i64 a0_1) ∧ w'.cell? ⟨gb392, 2, none⟩ = some (.string a0_2) ∧ w'.cell? ⟨gb392, 3, none⟩ = some (.int .i64 a0_3) ∧ w'.cell? ⟨gb392, 4, none⟩ = some (.slice (some ad395) l0_4.length c0_4) ∧ w'.cell? ⟨gb392, 5, none⟩ = some (.string a0_5) ∧ w'.cell? ⟨gb392, 6, none⟩ = some (.string a0_6) ∧ w'.cell? ⟨gb392, 7, none⟩ = some (.int .i64 a0_7) ∧ w'.cell? ⟨gb392, 8, none⟩ = some (.slice A0_8 l0_8.length c0_8) ∧ w'.cell? ⟨gb392, 9, none⟩ = some (.slice A0_9 l0_9.length c0_9) ∧ w'.cell? ⟨gb392, 10, none⟩ = some (.slice A0_10 l0_10.length c0_10) ∧ w'.cell? ad395 = some (.int .u8 (rd l0_4 0)) ∧ w'.cell? ⟨ad395.block, ad395.off + 1, none⟩ = some (.int .u8 (rd l0_4 1))) (ds := []) #[false, false, false, false, false, false, false, false, false, false, false, false, false] (by kernel_rfl) rfl rfl ⟨(blk_cell BK392.out 0).trans rfl, (blk_cell BK392.out 1).trans rfl, (blk_cell BK392.out 2).trans rfl, (blk_cell BK392.out 3).trans rfl, (blk_cell BK392.out 4).trans rfl, (blk_cell BK392.out 5).trans rfl, (blk_cell BK392.out 6).trans rfl, (blk_cell BK392.out 7).trans rfl, (blk_cell BK392.out 8).trans rfl, (blk_cell BK392.out 9).trans rfl, (blk_cell BK392.out 10).trans rfl, ((HB.out.cell (World.block_lt_of_cell? w _ hw395_0)).trans hw395_0), ((HB.out.cell (World.block_lt_of_cell? w _ hw396_0)).trans hw396_0)⟩ (fun hHeld => ?_); refine with_tabW code_Rate.tab5 code_Rate.bits5 (fun HT_ HW_ => ?_)
                    generalize wc.drew = w38 at BK392 BK393 HB hx395_0 hx396_0 hHeld ⊢
                    refine pure_ (i := 0) (N := some 27) (v := ?_) (a' := ?_) #[true, false, false, false, false, false, false, false, false, false, false, false, false] rfl rfl (any_of HT_.out (by kernel_rfl)) (fun _ _ _ h => h) (Or.inl ⟨by rfl, ?_⟩) ?_ ?_
                    rotate_left
                    · intro w'
                      go_simp
                      with_reducible rfl
                    rotate_left
                    · simp only [Act.put, List.setIfInBounds_toArray, List.set_cons_zero, List.set_cons_succ, i64_w, i32_w]
                      rfl
                    refine pure_ (i := 5) (N := some 32) (v := ?_) (a' := ?_) #[true, false, false, false, false, true, false, false, false, false, false, false, false] rfl rfl (any_of HT_.out (by kernel_rfl)) (fun _ _ _ h => h) (Or.inl ⟨by rfl, ?_⟩) ?_ ?_
                    rotate_left
                    · intro w'
                      go_simp
                      with_reducible rfl
                    rotate_left
                    · simp only [Act.put, List.setIfInBounds_toArray, List.set_cons_zero, List.set_cons_succ, i64_w, i32_w]
                      rfl
                    refine take_ (i := 1) (N := some 28) (v := ?_) (a' := ?_) #[true, true, false, false, false, true, false, false, false, false, false, false, false] rfl rfl (take_ofW HT_.out HW_.out (by kernel_rfl)) (fun _ _ _ h => h) (Or.inl ⟨by rfl, ?_⟩) hHeld ?_ ?_
                    rotate_left
                    · rintro w' ⟨s0, s1, s2, s3, s4, s5, s6, s7, s8, s9, s10, s11, s12⟩
                      go_simp
                      with_reducible rfl
                    rotate_left
                    · simp only [Act.put, List.setIfInBounds_toArray, List.set_cons_zero, List.set_cons_succ, i64_w, i32_w]
                      rfl
                    refine pure_ (i := 2) (N := some 29) (v := ?_) (a' := ?_) #[true, true, true, false, false, true, false, false, false, false, false, false, false] rfl rfl (any_of HT_.out (by kernel_rfl)) (fun _ _ _ h => h) (Or.inl ⟨by rfl, ?_⟩) ?_ ?_
                    rotate_left
                    · intro w'
                      go_simp
                      with_reducible rfl
                    rotate_left
                    · simp only [Act.put, List.setIfInBounds_toArray, List.set_cons_zero, List.set_cons_succ, i64_w, i32_w]
                      rfl
                    refine take_ (i := 3) (N := some 30) (v := ?_) (a' := ?_) #[true, true, true, true, false, true, false, false, false, false, false, false, false] rfl rfl (take_ofW HT_.out HW_.out (by kernel_rfl)) (fun _ _ _ h => h) (Or.inl ⟨by rfl, ?_⟩) hHeld ?_ ?_
                    rotate_left
                    · rintro w' ⟨s0, s1, s2, s3, s4, s5, s6, s7, s8, s9, s10, s11, s12⟩
                      go_simp
                      with_reducible rfl
                    rotate_left
                    · simp only [Act.put, List.setIfInBounds_toArray, List.set_cons_zero, List.set_cons_succ, i64_w, i32_w]
                      rfl
                    refine pure_ (i := 4) (N := some 31) (v := ?_) (a' := ?_) #[true, true, true, true, true, true, false, false, false, false, false, false, false] rfl rfl (any_of HT_.out (by kernel_rfl)) (fun _ _ _ h => h) (Or.inl ⟨by rfl, ?_⟩) ?_ ?_
                    rotate_left
                    · intro w'
                      go_simp
                      with_reducible rfl
                    rotate_left
                    · simp only [Act.put, List.setIfInBounds_toArray, List.set_cons_zero, List.set_cons_succ, i64_w, i32_w]
                      rfl
                    refine take_ (i := 6) (N := some 33) (v := ?_) (a' := ?_) #[true, true, true, true, true, true, true, false, false, false, false, false, false] rfl rfl (take_ofW HT_.out HW_.out (by kernel_rfl)) (fun _ _ _ h => h) (Or.inl ⟨by rfl, ?_⟩) hHeld ?_ ?_
                    rotate_left
                    · rintro w' ⟨s0, s1, s2, s3, s4, s5, s6, s7, s8, s9, s10, s11, s12⟩
                      go_simp
                      with_reducible rfl
                    rotate_left
                    · simp only [Act.put, List.setIfInBounds_toArray, List.set_cons_zero, List.set_cons_succ, i64_w, i32_w]
                      rfl
                    refine pure_ (i := 7) (N := some 34) (v := ?_) (a' := ?_) #[true, true, true, true, true, true, true, true, false, false, false, false, false] rfl rfl (any_of HT_.out (by kernel_rfl)) (fun _ _ _ h => h) (Or.inl ⟨by rfl, ?_⟩) ?_ ?_
                    rotate_left
                    · intro w'
                      go_simp
                      with_reducible rfl
                    rotate_left
                    · simp only [Act.put, List.setIfInBounds_toArray, List.set_cons_zero, List.set_cons_succ, i64_w, i32_w]
                      rfl
                    refine take_ (i := 8) (N := some 35) (v := ?_) (a' := ?_) #[true, true, true, true, true, true, true, true, true, false, false, false, false] rfl rfl (take_ofW HT_.out HW_.out (by kernel_rfl)) (fun _ _ _ h => h) (Or.inl ⟨by rfl, ?_⟩) hHeld ?_ ?_
                    rotate_left
                    · rintro w' ⟨s0, s1, s2, s3, s4, s5, s6, s7, s8, s9, s10, s11, s12⟩
                      go_simp
                      with_reducible rfl
                    rotate_left
                    · simp only [Act.put, List.setIfInBounds_toArray, List.set_cons_zero, List.set_cons_succ, i64_w, i32_w]
                      rfl
                    refine pure_ (i := 9) (N := some 36) (v := ?_) (a' := ?_) #[true, true, true, true, true, true, true, true, true, true, false, false, false] rfl rfl (any_of HT_.out (by kernel_rfl)) (fun _ _ _ h => h) (Or.inl ⟨by rfl, ?_⟩) ?_ ?_
                    rotate_left
                    · intro w'
                      go_simp
                      with_reducible rfl
                    rotate_left
                    · simp only [Act.put, List.setIfInBounds_toArray, List.set_cons_zero, List.set_cons_succ, i64_w, i32_w]
                      rfl
                    refine pure_ (i := 10) (N := some 37) (v := ?_) (a' := ?_) #[true, true, true, true, true, true, true, true, true, true, true, false, false] rfl rfl (any_of HT_.out (by kernel_rfl)) (fun _ _ _ h => h) (Or.inl ⟨by rfl, ?_⟩) ?_ ?_
                    rotate_left
                    · intro w'
                      go_simp
                      with_reducible rfl
                    rotate_left
                    · simp only [Act.put, List.setIfInBounds_toArray, List.set_cons_zero, List.set_cons_succ, i64_w, i32_w]
                      rfl
                    refine one_ (i := 11) (N := some 4) #[true, true, true, true, true, true, true, true, true, true, true, true, false] rfl rfl (one_of HT_.out (by kernel_rfl)) (by decide) (fun K hK => ?_)
                    refine box_step ?hg (N := 4) ?hd (cs := #[.int .i64 0, .bool false]) (t := 23) ?hr ?_; (case hd => rfl); (case hg => rfl); (case hr => first | (go_simp; done) | (go_simp; rfl))
                    intro gb397 hg w39 hbox hb
                    have n0_ := Aside0.mk (blk_below (g := gb392) (o := .cells #[.int .i64 a0_0, .int .i64 a0_1, .string a0_2, .int .i64 a0_3, .slice (some ad395) l0_4.length c0_4, .string a0_5, .string a0_6, .int .i64 a0_7, .slice A0_8 l0_8.length c0_8, .slice A0_9 l0_9.length c0_9, .slice A0_10 l0_10.length c0_10] 52 (0, 0)) (by (with_reducible repeat (first | refine blk_drewN ?_ _ | refine blk_drew ?_ | refine blk_alloc ?_ _)); exact BK392.out) hb)
                    have n1_ := Aside0.mk (blk_below (g := gb393) (o := .cells #[.int .i64 0, .bool false] 23 (0, 0)) (by (with_reducible repeat (first | refine blk_drewN ?_ _ | refine blk_drew ?_ | refine blk_alloc ?_ _)); exact BK393.out) hb)
                    have n2_ := Aside0.mk (below_step (by repeat (first | (with_reducible first | exact HB.out | apply below_alloc | apply pw_below_drewN | apply below_drew1 | refine below_set ?_ GE392.out | refine below_set ?_ GE393.out) | exact HB.out)) hb)
                    have n3_ := Aside0.mk (hbox)
                    have n4_ := Aside0.mk ((by rw [hg]; exact (below_size (by repeat (first | (with_reducible first | exact HB.out | apply below_alloc | apply pw_below_drewN | apply below_drew1 | refine below_set ?_ GE392.out | refine below_set ?_ GE393.out) | exact HB.out))) : w.heap.size ≤ gb397))
                    have n5_ := Aside0.mk ((by rw [hg]; exact (below_size (by repeat (first | (with_reducible first | exact HB.out | apply below_alloc | apply pw_below_drewN | apply below_drew1 | refine below_set ?_ GE392.out | refine below_set ?_ GE393.out) | exact HB.out))) : w.heap.size ≤ gb397))
                    have n6_ := Aside0.mk ((by rw [hg]; exact Nat.ne_of_lt (blk_lt (g := gb392) (o := .cells #[.int .i64 a0_0, .int .i64 a0_1, .string a0_2, .int .i64 a0_3, .slice (some ad395) l0_4.length c0_4, .string a0_5, .string a0_6, .int .i64 a0_7, .slice A0_8 l0_8.length c0_8, .slice A0_9 l0_9.length c0_9, .slice A0_10 l0_10.length c0_10] 52 (0, 0)) (by (with_reducible repeat (first | refine blk_drewN ?_ _ | refine blk_drew ?_ | refine blk_alloc ?_ _)); exact BK392.out)) : gb392 ≠ gb397))
                    have n7_ := Aside0.mk ((by rw [hg]; exact Nat.ne_of_gt (blk_lt (g := gb392) (o := .cells #[.int .i64 a0_0, .int .i64 a0_1, .string a0_2, .int .i64 a0_3, .slice (some ad395) l0_4.length c0_4, .string a0_5, .string a0_6, .int .i64 a0_7, .slice A0_8 l0_8.length c0_8, .slice A0_9 l0_9.length c0_9, .slice A0_10 l0_10.length c0_10] 52 (0, 0)) (by (with_reducible repeat (first | refine blk_drewN ?_ _ | refine blk_drew ?_ | refine blk_alloc ?_ _)); exact BK392.out)) : gb397 ≠ gb392))
                    have n8_ := Aside0.mk ((by rw [hg]; exact Nat.ne_of_lt (blk_lt (g := gb393) (o := .cells #[.int .i64 0, .bool false] 23 (0, 0)) (by (with_reducible repeat (first | refine blk_drewN ?_ _ | refine blk_drew ?_ | refine blk_alloc ?_ _)); exact BK393.out)) : gb393 ≠ gb397))
                    have n9_ := Aside0.mk ((by rw [hg]; exact Nat.ne_of_gt (blk_lt (g := gb393) (o := .cells #[.int .i64 0, .bool false] 23 (0, 0)) (by (with_reducible repeat (first | refine blk_drewN ?_ _ | refine blk_drew ?_ | refine blk_alloc ?_ _)); exact BK393.out)) : gb397 ≠ gb393))
                    clear BK392
                    clear BK393
                    clear HB
                    have BK392 := n0_
                    have BK393 := n1_
                    have HB := n2_
                    have BK397 := n3_
                    have GW397 := n4_
                    have GE397 := n5_
                    have NB392_397 := n6_
                    have NB397_392 := n7_
                    have NB393_397 := n8_
                    have NB397_393 := n9_
                    clear n0_ n1_ n2_ n3_ n4_ n5_ n6_ n7_ n8_ n9_
                    clear hb hbox hg
                    refine hK.out _ _ ⟨(blk_cell BK392.out 0).trans rfl, (blk_cell BK392.out 1).trans rfl, (blk_cell BK392.out 2).trans rfl, (blk_cell BK392.out 3).trans rfl, (blk_cell BK392.out 4).trans rfl, (blk_cell BK392.out 5).trans rfl, (blk_cell BK392.out 6).trans rfl, (blk_cell BK392.out 7).trans rfl, (blk_cell BK392.out 8).trans rfl, (blk_cell BK392.out 9).trans rfl, (blk_cell BK392.out 10).trans rfl, ((HB.out.cell (World.block_lt_of_cell? w _ hw395_0)).trans hw395_0), ((HB.out.cell (World.block_lt_of_cell? w _ hw396_0)).trans hw396_0)⟩ (fun hHeld => ?_)
                    clear hK K
                    refine norm_ (a' := ?_) ?_ ?_
                    rotate_left
                    · show Act.put _ (some 4) _ = _
                      simp only [Act.put, List.setIfInBounds_toArray, List.set_cons_zero, List.set_cons_succ, i64_w, i32_w]
                      rfl
                    refine one_ (i := 12) (N := none) #[true, true, true, true, true, true, true, true, true, true, true, true, true] rfl rfl (one_of HT_.out (by kernel_rfl)) (by decide) (fun K hK => ?_)
                    have hs40 : w39.cell? ⟨gb397, 0, none⟩ = some (.int .i64 0) := (blk_cell BK397.out 0).trans rfl
                    have hfs40 := blk_frozen BK397.out 0
                    have hns40_0 := NB392_397.out
                    have hns40_1 := NB393_397.out
                    have hms40_0 := NB397_392.out
                    have hms40_1 := NB397_393.out
                    have hs41 : w39.cell? ⟨gb397, 1, none⟩ = some (.bool false) := (blk_cell BK397.out 1).trans rfl
                    have hfs41 := blk_frozen BK397.out 1
                    have hns41_0 := NB392_397.out
                    have hns41_1 := NB393_397.out
                    have hms41_0 := NB397_392.out
                    have hms41_1 := NB397_393.out
                    refine skip_ (w1 := ?_) (by rfl) rfl ?_ ?_
                    rotate_left
                    · go_simp
                      rfl
                    refine hK.out _ _ ⟨((cell_far (p := ⟨gb397, _, none⟩) NB392_397.out _).trans (((cell_far (p := ⟨gb397, _, none⟩) NB392_397.out _).trans (hHeld.1)))), ((cell_far (p := ⟨gb397, _, none⟩) NB392_397.out _).trans (((cell_far (p := ⟨gb397, _, none⟩) NB392_397.out _).trans (hHeld.2.1)))), ((cell_far (p := ⟨gb397, _, none⟩) NB392_397.out _).trans (((cell_far (p := ⟨gb397, _, none⟩) NB392_397.out _).trans (hHeld.2.2.1)))), ((cell_far (p := ⟨gb397, _, none⟩) NB392_397.out _).trans (((cell_far (p := ⟨gb397, _, none⟩) NB392_397.out _).trans (hHeld.2.2.2.1)))), ((cell_far (p := ⟨gb397, _, none⟩) NB392_397.out _).trans (((cell_far (p := ⟨gb397, _, none⟩) NB392_397.out _).trans (hHeld.2.2.2.2.1)))), ((cell_far (p := ⟨gb397, _, none⟩) NB392_397.out _).trans (((cell_far (p := ⟨gb397, _, none⟩) NB392_397.out _).trans (hHeld.2.2.2.2.2.1)))), ((cell_far (p := ⟨gb397, _, none⟩) NB392_397.out _).trans (((cell_far (p := ⟨gb397, _, none⟩) NB392_397.out _).trans (hHeld.2.2.2.2.2.2.1)))), ((cell_far (p := ⟨gb397, _, none⟩) NB392_397.out _).trans (((cell_far (p := ⟨gb397, _, none⟩) NB392_397.out _).trans (hHeld.2.2.2.2.2.2.2.1)))), ((cell_far (p := ⟨gb397, _, none⟩) NB392_397.out _).trans (((cell_far (p := ⟨gb397, _, none⟩) NB392_397.out _).trans (hHeld.2.2.2.2.2.2.2.2.1)))), ((cell_far (p := ⟨gb397, _, none⟩) NB392_397.out _).trans (((cell_far (p := ⟨gb397, _, none⟩) NB392_397.out _).trans (hHeld.2.2.2.2.2.2.2.2.2.1)))), ((cell_far (p := ⟨gb397, _, none⟩) NB392_397.out _).trans (((cell_far (p := ⟨gb397, _, none⟩) NB392_397.out _).trans (hHeld.2.2.2.2.2.2.2.2.2.2.1)))), ((cell_far (p := ⟨gb397, _, none⟩) (by first | exact Nat.ne_of_lt (Nat.lt_of_lt_of_le (by have := World.block_lt_of_cell? _ _ hw395_0; first | rwa [add_block] at this | exact this) GW397.out) | (rw [add_block]; exact Nat.ne_of_lt (Nat.lt_of_lt_of_le (by have := World.block_lt_of_cell? _ _ hw395_0; first | rwa [add_block] at this | exact this) GW397.out)) | (show (Addr.add _ _).block ≠ _; rw [add_block]; exact Nat.ne_of_lt (Nat.lt_of_lt_of_le (by have := World.block_lt_of_cell? _ _ hw395_0; first | rwa [add_block] at this | exact this) GW397.out)) | (dsimp only; exact Nat.ne_of_lt (Nat.lt_of_lt_of_le (by have := World.block_lt_of_cell? _ _ hw395_0; first | rwa [add_block] at this | exact this) GW397.out))) _).trans (((cell_far (p := ⟨gb397, _, none⟩) (by first | exact Nat.ne_of_lt (Nat.lt_of_lt_of_le (by have := World.block_lt_of_cell? _ _ hw395_0; first | rwa [add_block] at this | exact this) GW397.out) | (rw [add_block]; exact Nat.ne_of_lt (Nat.lt_of_lt_of_le (by have := World.block_lt_of_cell? _ _ hw395_0; first | rwa [add_block] at this | exact this) GW397.out)) | (show (Addr.add _ _).block ≠ _; rw [add_block]; exact Nat.ne_of_lt (Nat.lt_of_lt_of_le (by have := World.block_lt_of_cell? _ _ hw395_0; first | rwa [add_block] at this | exact this) GW397.out)) | (dsimp only; exact Nat.ne_of_lt (Nat.lt_of_lt_of_le (by have := World.block_lt_of_cell? _ _ hw395_0; first | rwa [add_block] at this | exact this) GW397.out))) _).trans (hHeld.2.2.2.2.2.2.2.2.2.2.2.1)))), ((cell_far (p := ⟨gb397, _, none⟩) (by first | exact Nat.ne_of_lt (Nat.lt_of_lt_of_le (by have := World.block_lt_of_cell? _ _ hw396_0; first | rwa [add_block] at this | exact this) GW397.out) | (rw [add_block]; exact Nat.ne_of_lt (Nat.lt_of_lt_of_le (by have := World.block_lt_of_cell? _ _ hw396_0; first | rwa [add_block] at this | exact this) GW397.out)) | (show (Addr.add _ _).block ≠ _; rw [add_block]; exact Nat.ne_of_lt (Nat.lt_of_lt_of_le (by have := World.block_lt_of_cell? _ _ hw396_0; first | rwa [add_block] at this | exact this) GW397.out)) | (dsimp only; exact Nat.ne_of_lt (Nat.lt_of_lt_of_le (by have := World.block_lt_of_cell? _ _ hw396_0; first | rwa [add_block] at this | exact this) GW397.out))) _).trans (((cell_far (p := ⟨gb397, _, none⟩) (by first | exact Nat.ne_of_lt (Nat.lt_of_lt_of_le (by have := World.block_lt_of_cell? _ _ hw396_0; first | rwa [add_block] at this | exact this) GW397.out) | (rw [add_block]; exact Nat.ne_of_lt (Nat.lt_of_lt_of_le (by have := World.block_lt_of_cell? _ _ hw396_0; first | rwa [add_block] at this | exact this) GW397.out)) | (show (Addr.add _ _).block ≠ _; rw [add_block]; exact Nat.ne_of_lt (Nat.lt_of_lt_of_le (by have := World.block_lt_of_cell? _ _ hw396_0; first | rwa [add_block] at this | exact this) GW397.out)) | (dsimp only; exact Nat.ne_of_lt (Nat.lt_of_lt_of_le (by have := World.block_lt_of_cell? _ _ hw396_0; first | rwa [add_block] at this | exact this) GW397.out))) _).trans (hHeld.2.2.2.2.2.2.2.2.2.2.2.2))))⟩ (fun hHeld => ?_)
                    clear hK K
                    refine done_ (done_of HT_.out (by kernel_rfl)) ?_
                    have hnb42 := NB397_392.out
                    have hnc42 := NB392_397.out
                    have hnb43 := NB397_393.out
                    have hnc43 := NB393_397.out
                    have hcz44_0 : w39.cell? ⟨gb397, 0, none⟩ = some (.int .i64 0) := (blk_cell BK397.out 0).trans rfl
                    have hcz44_1 : w39.cell? ⟨gb397, 1, none⟩ = some (.bool false) := (blk_cell BK397.out 1).trans rfl
                    have hfz44_0 := blk_frozen BK397.out 0
                    have hfz44_1 := blk_frozen BK397.out 1
                    try go_wp2_with (first | ((with_reducible refine gate_callee (f := 25) rfl ?_); refine goesL_ (some 39) rfl rfl Try.func25 (by kernel_rfl) rfl #[.agg #[.int .i64 (wrap64 (rd l0_4 0)), .bool ((rd l0_4 1) == 1)]] rfl (by (try simp only [List.map_toArray, List.map_cons, List.map_nil]); first | done | rfl | (simp only [List.length_drop, List.length_take]; rfl)) ?_; (with_reducible refine (code_Check.calls (wrap64 (rd l0_4 0)) ((rd l0_4 1) == 1) t398 _ A25.out).mono ?_); rintro e w45 ⟨rfl, hb⟩; refine ⟨_, rfl, ?_⟩; have n0_ := Aside0.mk (blk_below (g := gb392) (o := .cells #[.int .i64 a0_0, .int .i64 a0_1, .string a0_2, .int .i64 a0_3, .slice (some ad395) l0_4.length c0_4, .string a0_5, .string a0_6, .int .i64 a0_7, .slice A0_8 l0_8.length c0_8, .slice A0_9 l0_9.length c0_9, .slice A0_10 l0_10.length c0_10] 52 (0, 0)) (by (with_reducible repeat (first | refine blk_drewN ?_ _ | refine blk_drew ?_ | refine blk_alloc ?_ _)); refine blk_far ?_ NB392_397.out _; (with_reducible repeat (first | refine blk_drewN ?_ _ | refine blk_drew ?_ | refine blk_alloc ?_ _)); refine blk_far ?_ NB392_397.out _; (with_reducible repeat (first | refine blk_drewN ?_ _ | refine blk_drew ?_ | refine blk_alloc ?_ _)); exact BK392.out) hb); have n1_ := Aside0.mk (blk_below (g := gb393) (o := .cells #[.int .i64 0, .bool false] 23 (0, 0)) (by (with_reducible repeat (first | refine blk_drewN ?_ _ | refine blk_drew ?_ | refine blk_alloc ?_ _)); refine blk_far ?_ NB393_397.out _; (with_reducible repeat (first | refine blk_drewN ?_ _ | refine blk_drew ?_ | refine blk_alloc ?_ _)); refine blk_far ?_ NB393_397.out _; (with_reducible repeat (first | refine blk_drewN ?_ _ | refine blk_drew ?_ | refine blk_alloc ?_ _)); exact BK393.out) hb); have n2_ := Aside0.mk (blk_below (g := gb397) (o := .cells #[.int .i64 (wrap64 (rd l0_4 0)), .bool ((rd l0_4 1) == 1)] 23 (0, 0)) (by (with_reducible repeat (first | refine blk_drewN ?_ _ | refine blk_drew ?_ | refine blk_alloc ?_ _)); refine blk_put (cs := #[.int .i64 (wrap64 (rd l0_4 0)), .bool false]) ?_ 1 _ rfl; (with_reducible repeat (first | refine blk_drewN ?_ _ | refine blk_drew ?_ | refine blk_alloc ?_ _)); refine blk_put (cs := #[.int .i64 0, .bool false]) ?_ 0 _ rfl; (with_reducible repeat (first | refine blk_drewN ?_ _ | refine blk_drew ?_ | refine blk_alloc ?_ _)); exact BK397.out) hb); have n3_ := Aside0.mk (below_step (by repeat (first | (with_reducible first | exact HB.out | apply below_alloc | apply pw_below_drewN | apply below_drew1 | refine below_set ?_ GE392.out | refine below_set ?_ GE393.out | refine below_set ?_ GE397.out) | exact HB.out)) hb); clear BK392; clear BK393; clear BK397; clear HB; have BK392 := n0_; have BK393 := n1_; have BK397 := n2_; have HB := n3_; clear n0_ n1_ n2_ n3_; (try clear hb); (try clear hb2); (try clear hk); (try clear hi); have hnb46 := NB393_392.out; have hnc46 := NB392_393.out; have hcz47_0 : w45.cell? ⟨gb393, 0, none⟩ = some (.int .i64 0) := (blk_cell BK393.out 0).trans rfl; have hcz47_1 : w45.cell? ⟨gb393, 1, none⟩ = some (.bool false) := (blk_cell BK393.out 1).trans rfl; have hfz47_0 := blk_frozen BK393.out 0; have hfz47_1 := blk_frozen BK393.out 1))
                    refine bodyPost_ret (results_ct rfl _ _ gb393 23 #[.int .i64 0, .bool false] (0, 0) _ rfl (by (with_reducible repeat (first | refine blk_drewN ?_ _ | refine blk_drew ?_ | refine blk_alloc ?_ _)); refine blk_put (cs := #[.int .i64 0, .bool false]) ?_ 1 _ rfl; (with_reducible repeat (first | refine blk_drewN ?_ _ | refine blk_drew ?_ | refine blk_alloc ?_ _)); refine blk_put (cs := #[.int .i64 0, .bool false]) ?_ 0 _ rfl; (with_reducible repeat (first | refine blk_drewN ?_ _ | refine blk_drew ?_ | refine blk_alloc ?_ _)); exact BK393.out) Try.underlying23 rfl (by kernel_rfl)) rfl ?_
                    exact ⟨by first | rfl | (simp [errW_none, errW_some] <;> rfl) | (simp [*, errW_none, errW_some] <;> rfl), by repeat (first | (with_reducible first | exact HB.out | apply below_alloc | apply pw_below_drewN | apply below_drew1 | refine below_set ?_ GE392.out | refine below_set ?_ GE393.out | refine below_set ?_ GE397.out) | exact HB.out)⟩
                · rw [if_neg c24] at H
                  exact absurd H (by simp)
              · rw [if_neg c23] at H
                exact absurd H (by simp)

end Go.Proofs.Ytndbhfbgigefnaa.PA
