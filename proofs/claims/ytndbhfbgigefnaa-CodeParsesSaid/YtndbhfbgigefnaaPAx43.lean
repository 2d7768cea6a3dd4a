-- PRINTED by print.py (a twelfth state) out of the translation. Not trusted: Lean checks it.
import Derived.Test.YtndbhfbgigefnaaPAx0
import Derived.Test.YtndbhfbgigefnaaPAx6
import Derived.Test.YtndbhfbgigefnaaPAx20
import Derived.Test.YtndbhfbgigefnaaPAx35
namespace Go.Proofs.Ytndbhfbgigefnaa.PA
open Go.RowKit Go.Proofs.YtndbhfbgigefnaaW.PrintWords Go.Proofs.YtndbhfbgigefnaaW.PrintLast Go.Proofs.YtndbhfbgigefnaaW.PrintMore
attribute [local go_sem] max2_int min2_int max_two min_two max_three min_three max_four min_four   -- for this text's walks alone
set_option linter.unusedVariables false
set_option linter.unusedSimpArgs false

/-! ### code_Parse: function 27 -/
mutual
def code_Parse.l0 : Nat → ByteArray → ByteArray → List Int → Int → Int → Int → Bool → Option (Int × Int × Int × Int × Int)
  | 0, _, _, _, _, _, _, _ => none
  | k + 1, x1, x7, x8, x29, x30, x365000, x365001 => if x30 < x29 then (if 0 ≤ x30 then (if x30 < (x7.size : Int) then (if (bt x7 x30) = 48 then (code_Parse.j1 k x1 x7 x8 x30 x29 x30 false x365000 x365001) else (if x30 < (x1.size : Int) then (code_Parse.j1 k x1 x7 x8 x30 x29 x30 ((bt x1 x30) != (bt x7 x30)) x365000 x365001) else (none))) else (none)) else (none)) else (if 0 < (x8.length : Int) then (if 1 < (x8.length : Int) then (if 2 < (x8.length : Int) then (if 3 < (x8.length : Int) then ((code_checked.f k x365000 x365001 (rd x8 0) (rd x8 1) (rd x8 2) (rd x8 3)).bind fun t373 => (if t373 = 0 then (some (rd x8 0, rd x8 1, rd x8 2, rd x8 3, 0)) else (some (0, 0, 0, 0, t373)))) else (none)) else (none)) else (none)) else (none))
def code_Parse.j1 : Nat → ByteArray → ByteArray → List Int → Int → Int → Int → Bool → Int → Bool → Option (Int × Int × Int × Int × Int)
  | 0, _, _, _, _, _, _, _, _, _ => none
  | k + 1, x1, x7, x8, x9, x29, x30, x33, x365000, x365001 => if x33 = true then (code_Parse.j2 k x1 x7 x8 x9 x29 x30 x33 x365000 x365001) else (if 0 ≤ x9 then (if x9 < (x7.size : Int) then (if (bt x7 x9) = 48 then (if x9 < (x1.size : Int) then (if (bt x1 x9) < 48 then (code_Parse.j2 k x1 x7 x8 x9 x29 x30 true x365000 x365001) else (code_Parse.j2 k x1 x7 x8 x9 x29 x30 (decide ((bt x1 x9) > 57)) x365000 x365001)) else (none)) else (code_Parse.j2 k x1 x7 x8 x9 x29 x30 false x365000 x365001)) else (none)) else (none))
def code_Parse.j2 : Nat → ByteArray → ByteArray → List Int → Int → Int → Int → Bool → Int → Bool → Option (Int × Int × Int × Int × Int)
  | 0, _, _, _, _, _, _, _, _, _ => none
  | k + 1, x1, x7, x8, x9, x29, x30, x33, x365000, x365001 => if x33 = true then (some (0, 0, 0, 0, 270)) else (if 0 ≤ x9 then (if x9 < (x7.size : Int) then (if (bt x7 x9) = 48 then (if (Int.tmod x9 3) = 1 then (if 0 ≤ (wrap64 (x9 - 1)) then (if (wrap64 (x9 - 1)) < (x1.size : Int) then (if x9 < (x1.size : Int) then (if x8.length < 17592186044416 then (code_Parse.l0 k x1 x7 (x8 ++ [((((bt x1 (wrap64 (x9 - 1))) - 48) % 256) * 10) + (((bt x1 x9) - 48) % 256)]) x29 (wrap64 (x30 + 1)) x365000 x365001) else (none)) else (none)) else (none)) else (none)) else (code_Parse.l0 k x1 x7 x8 x29 (wrap64 (x30 + 1)) x365000 x365001)) else (code_Parse.l0 k x1 x7 x8 x29 (wrap64 (x30 + 1)) x365000 x365001)) else (none)) else (none))
end
def code_Parse.f (k : Nat) (a0_0 : Int) (a0_1 : Bool) (a1 : ByteArray) : Option (Int × Int × Int × Int × Int) := (code_Check.f a0_0 a0_1).bind fun t366 => (if t366 = 0 then ((code_mark.f a0_0 a0_1).bind fun t367 => (if 8 + t367.size ≤ 9223372036854775807 then (if ((⟨#[48, 48, 58, 48, 48, 58, 48, 48]⟩ : ByteArray) ++ t367).size + 2 ≤ 9223372036854775807 then (if (a1.size : Int) = ((((⟨#[48, 48, 58, 48, 48, 58, 48, 48]⟩ : ByteArray) ++ t367) ++ (⟨#[48, 48]⟩ : ByteArray)).size : Int) then (code_Parse.l0 k a1 (((⟨#[48, 48, 58, 48, 48, 58, 48, 48]⟩ : ByteArray) ++ t367) ++ (⟨#[48, 48]⟩ : ByteArray)) ([] : List Int) (a1.size : Int) 0 a0_0 a0_1) else (some (0, 0, 0, 0, 270))) else (none)) else (none))) else (some (0, 0, 0, 0, t366)))
theorem code_Parse.mono_l : ∀ k, (∀ y0 y1 y2 y3 y4 y5 y6, LeO (code_Parse.l0 k y0 y1 y2 y3 y4 y5 y6) (code_Parse.l0 (k + 1) y0 y1 y2 y3 y4 y5 y6)) ∧ (∀ y0 y1 y2 y3 y4 y5 y6 y7 y8, LeO (code_Parse.j1 k y0 y1 y2 y3 y4 y5 y6 y7 y8) (code_Parse.j1 (k + 1) y0 y1 y2 y3 y4 y5 y6 y7 y8)) ∧ (∀ y0 y1 y2 y3 y4 y5 y6 y7 y8, LeO (code_Parse.j2 k y0 y1 y2 y3 y4 y5 y6 y7 y8) (code_Parse.j2 (k + 1) y0 y1 y2 y3 y4 y5 y6 y7 y8))
  | 0 => ⟨fun _ _ _ _ _ _ _ r h => by simp [code_Parse.l0] at h, fun _ _ _ _ _ _ _ _ _ r h => by simp [code_Parse.j1] at h, fun _ _ _ _ _ _ _ _ _ r h => by simp [code_Parse.j2] at h⟩
  | k + 1 => by
    obtain ⟨ih0, ih1, ih2⟩ := code_Parse.mono_l k
    refine ⟨?_, ?_, ?_⟩
    · intro y0 y1 y2 y3 y4 y5 y6
      unfold code_Parse.l0
      repeat' first
      | (with_reducible exact ih0 _ _ _ _ _ _ _)
      | (with_reducible exact ih1 _ _ _ _ _ _ _ _ _)
      | (with_reducible exact ih2 _ _ _ _ _ _ _ _ _)
      | (with_reducible exact code_checked.mono _ _ _ _ _ _ _)
      | (with_reducible exact LeO.refl _)
      | (with_reducible exact LeO.none _)
      | (with_reducible refine LeO.ite ?_ ?_)
      | (with_reducible refine LeO.bind ?_ (fun _ => ?_))
      | exact ih0 _ _ _ _ _ _ _
      | exact ih1 _ _ _ _ _ _ _ _ _
      | exact ih2 _ _ _ _ _ _ _ _ _
      | exact code_checked.mono _ _ _ _ _ _ _
      | exact LeO.none _
      | refine LeO.ite ?_ ?_
      | refine LeO.bind ?_ (fun _ => ?_)
    · intro y0 y1 y2 y3 y4 y5 y6 y7 y8
      unfold code_Parse.j1
      repeat' first
      | (with_reducible exact ih0 _ _ _ _ _ _ _)
      | (with_reducible exact ih1 _ _ _ _ _ _ _ _ _)
      | (with_reducible exact ih2 _ _ _ _ _ _ _ _ _)
      | (with_reducible exact code_checked.mono _ _ _ _ _ _ _)
      | (with_reducible exact LeO.refl _)
      | (with_reducible exact LeO.none _)
      | (with_reducible refine LeO.ite ?_ ?_)
      | (with_reducible refine LeO.bind ?_ (fun _ => ?_))
      | exact ih0 _ _ _ _ _ _ _
      | exact ih1 _ _ _ _ _ _ _ _ _
      | exact ih2 _ _ _ _ _ _ _ _ _
      | exact code_checked.mono _ _ _ _ _ _ _
      | exact LeO.none _
      | refine LeO.ite ?_ ?_
      | refine LeO.bind ?_ (fun _ => ?_)
    · intro y0 y1 y2 y3 y4 y5 y6 y7 y8
      unfold code_Parse.j2
      repeat' first
      | (with_reducible exact ih0 _ _ _ _ _ _ _)
      | (with_reducible exact ih1 _ _ _ _ _ _ _ _ _)
      | (with_reducible exact ih2 _ _ _ _ _ _ _ _ _)
      | (with_reducible exact code_checked.mono _ _ _ _ _ _ _)
      | (with_reducible exact LeO.refl _)
      | (with_reducible exact LeO.none _)
      | (with_reducible refine LeO.ite ?_ ?_)
      | (with_reducible refine LeO.bind ?_ (fun _ => ?_))
      | exact ih0 _ _ _ _ _ _ _
      | exact ih1 _ _ _ _ _ _ _ _ _
      | exact ih2 _ _ _ _ _ _ _ _ _
      | exact code_checked.mono _ _ _ _ _ _ _
      | exact LeO.none _
      | refine LeO.ite ?_ ?_
      | refine LeO.bind ?_ (fun _ => ?_)
theorem code_Parse.mono : ∀ a0 a1 a2 k, LeO (code_Parse.f k a0 a1 a2) (code_Parse.f (k + 1) a0 a1 a2) := by
  intro a0 a1 a2 k
  obtain ⟨ih0, ih1, ih2⟩ := code_Parse.mono_l k
  unfold code_Parse.f
  repeat' first
      | (with_reducible exact ih0 _ _ _ _ _ _ _)
      | (with_reducible exact ih1 _ _ _ _ _ _ _ _ _)
      | (with_reducible exact ih2 _ _ _ _ _ _ _ _ _)
      | (with_reducible exact code_checked.mono _ _ _ _ _ _ _)
      | (with_reducible exact LeO.refl _)
      | (with_reducible exact LeO.none _)
      | (with_reducible refine LeO.ite ?_ ?_)
      | (with_reducible refine LeO.bind ?_ (fun _ => ?_))
      | exact ih0 _ _ _ _ _ _ _
      | exact ih1 _ _ _ _ _ _ _ _ _
      | exact ih2 _ _ _ _ _ _ _ _ _
      | exact code_checked.mono _ _ _ _ _ _ _
      | exact LeO.none _
      | refine LeO.ite ?_ ?_
      | refine LeO.bind ?_ (fun _ => ?_)
def code_Parse.T11 : Bool × List (List Nat × List Nat) := (true, [([], []), ([], []), ([0, 1], [0, 1]), ([2], [2]), ([3], [3]), ([4], [4]), ([4], [4]), ([5, 6, 4], [4, 5, 6]), ([4], [4]), ([4], [4]), ([8, 9, 4], [4, 8, 9]), ([7, 10, 4], [4, 7, 10]), ([4, 11], [4, 11]), ([12, 4], [12])])
def code_Parse.B11 : List Nat := [0, 0, 3, 7, 15, 31, 31, 127, 31, 31, 799, 2047, 4095, 8191]
theorem code_Parse.tab11 : rtab .any (opsOf Try.f27 11) = code_Parse.T11 := by kernel_rfl
theorem code_Parse.bits11 : waitsOk code_Parse.T11.2 code_Parse.B11 = true := by kernel_rfl
def code_Parse.T15 : Bool × List (List Nat × List Nat) := (true, [([], []), ([], []), ([], []), ([2], [2]), ([1, 3], [1, 3]), ([4], [4]), ([5], [5]), ([6], [6]), ([], []), ([], []), ([8, 9], [8, 9]), ([10], [10]), ([11], [11]), ([7, 12], [7, 12]), ([13], [13]), ([0, 14], [0, 14]), ([15, 15, 0, 1, 2, 3, 4, 5, 6, 7, 8, 9, 10, 11, 12, 13, 14, 15], [0, 15])])
def code_Parse.B15 : List Nat := [0, 0, 0, 4, 14, 30, 62, 126, 0, 0, 768, 1792, 3840, 8190, 16382, 32767, 65535]
theorem code_Parse.tab15 : rtab .any (opsOf Try.f27 15) = code_Parse.T15 := by kernel_rfl
theorem code_Parse.bits15 : waitsOk code_Parse.T15.2 code_Parse.B15 = true := by kernel_rfl
def code_Parse.T17 : Bool × List (List Nat × List Nat) := (true, [([], []), ([0], [0]), ([1], [1]), ([], []), ([3], [3]), ([4], [4]), ([], []), ([6], [6]), ([7], [7]), ([], []), ([9], [9]), ([10], [10]), ([2, 5, 8, 11], [2, 5, 8, 11]), ([], []), ([13, 12, 0, 1, 2, 3, 4, 5, 6, 7, 8, 9, 10, 11, 12, 13], [12, 13])])
def code_Parse.B17 : List Nat := [0, 1, 3, 0, 8, 24, 0, 64, 192, 0, 512, 1536, 4095, 0, 16383]
theorem code_Parse.tab17 : rtab .any (opsOf Try.f27 17) = code_Parse.T17 := by kernel_rfl
theorem code_Parse.bits17 : waitsOk code_Parse.T17.2 code_Parse.B17 = true := by kernel_rfl
set_option maxHeartbeats 8000000 in
set_option maxRecDepth 100000 in
theorem code_Parse.calls (k : Nat) (a0_0 : Int) (a0_1 : Bool) (a1 : ByteArray) (r1 : Int) (r2 : Int) (r3 : Int) (r4 : Int) (r5 : Int) (w : World) (h : code_Parse.f k a0_0 a0_1 a1 = some (r1, r2, r3, r4, r5)) :
    Calls Try.prog 27 #[.agg #[.int .i64 a0_0, .bool a0_1], .string a1] w fun e w' => e = .returned (.tuple #[.agg #[.int .i64 r1, .int .i64 r2, .int .i64 r3, .int .i64 r4], .int .i64 r5]) ∧ Below w.heap.size w w' := by
  have hu23 := Try.underlying23
  have hu25 := Try.underlying25
  have HB := Aside0.mk (Below.refl w.heap.size w)
  have H : ((code_Check.f a0_0 a0_1).bind fun t366 => (if t366 = 0 then ((code_mark.f a0_0 a0_1).bind fun t367 => (if 8 + t367.size ≤ 9223372036854775807 then (if ((⟨#[48, 48, 58, 48, 48, 58, 48, 48]⟩ : ByteArray) ++ t367).size + 2 ≤ 9223372036854775807 then (if (a1.size : Int) = ((((⟨#[48, 48, 58, 48, 48, 58, 48, 48]⟩ : ByteArray) ++ t367) ++ (⟨#[48, 48]⟩ : ByteArray)).size : Int) then (code_Parse.l0 k a1 (((⟨#[48, 48, 58, 48, 48, 58, 48, 48]⟩ : ByteArray) ++ t367) ++ (⟨#[48, 48]⟩ : ByteArray)) ([] : List Int) (a1.size : Int) 0 a0_0 a0_1) else (some (0, 0, 0, 0, 270))) else (none)) else (none))) else (some (0, 0, 0, 0, t366)))) = some (r1, r2, r3, r4, r5) := h
  clear h
  replace H := Option.bind_eq_some_iff.mp H
  obtain ⟨t366, A30, H⟩ := H
  replace H : (if t366 = 0 then ((code_mark.f a0_0 a0_1).bind fun t367 => (if 8 + t367.size ≤ 9223372036854775807 then (if ((⟨#[48, 48, 58, 48, 48, 58, 48, 48]⟩ : ByteArray) ++ t367).size + 2 ≤ 9223372036854775807 then (if (a1.size : Int) = ((((⟨#[48, 48, 58, 48, 48, 58, 48, 48]⟩ : ByteArray) ++ t367) ++ (⟨#[48, 48]⟩ : ByteArray)).size : Int) then (code_Parse.l0 k a1 (((⟨#[48, 48, 58, 48, 48, 58, 48, 48]⟩ : ByteArray) ++ t367) ++ (⟨#[48, 48]⟩ : ByteArray)) ([] : List Int) (a1.size : Int) 0 a0_0 a0_1) else (some (0, 0, 0, 0, 270))) else (none)) else (none))) else (some (0, 0, 0, 0, t366))) = some (r1, r2, r3, r4, r5) := H
  have A3 := Aside0.mk A30
  clear A30
  by_cases c4 : t366 = 0
  · rw [if_pos c4] at H
    have c4b0 : (t366 == 0) = true := beq_iff_eq.mpr c4
    have c4b1 : (t366 != 0) = false := bne_eq_false_iff_eq.mpr c4
    clear c4
    replace H := Option.bind_eq_some_iff.mp H
    obtain ⟨t367, A50, H⟩ := H
    replace H : (if 8 + t367.size ≤ 9223372036854775807 then (if ((⟨#[48, 48, 58, 48, 48, 58, 48, 48]⟩ : ByteArray) ++ t367).size + 2 ≤ 9223372036854775807 then (if (a1.size : Int) = ((((⟨#[48, 48, 58, 48, 48, 58, 48, 48]⟩ : ByteArray) ++ t367) ++ (⟨#[48, 48]⟩ : ByteArray)).size : Int) then (code_Parse.l0 k a1 (((⟨#[48, 48, 58, 48, 48, 58, 48, 48]⟩ : ByteArray) ++ t367) ++ (⟨#[48, 48]⟩ : ByteArray)) ([] : List Int) (a1.size : Int) 0 a0_0 a0_1) else (some (0, 0, 0, 0, 270))) else (none)) else (none)) = some (r1, r2, r3, r4, r5) := H
    have A5 := Aside0.mk A50
    clear A50
    by_cases c6 : 8 + t367.size ≤ 9223372036854775807
    · rw [if_pos c6] at H
      have c6b0 := eq_true c6
      have c6b1 : decide (8 + t367.size ≤ 9223372036854775807) = true := decide_eq_true c6
      try have c6b2 : (9223372036854775807 < 8 + t367.size) = False := eq_false (Nat.not_lt.2 c6)
      by_cases c7 : ((⟨#[48, 48, 58, 48, 48, 58, 48, 48]⟩ : ByteArray) ++ t367).size + 2 ≤ 9223372036854775807
      · rw [if_pos c7] at H
        have c7b0 := eq_true c7
        have c7b1 : decide (((⟨#[48, 48, 58, 48, 48, 58, 48, 48]⟩ : ByteArray) ++ t367).size + 2 ≤ 9223372036854775807) = true := decide_eq_true c7
        try have c7b2 : (9223372036854775807 < ((⟨#[48, 48, 58, 48, 48, 58, 48, 48]⟩ : ByteArray) ++ t367).size + 2) = False := eq_false (Nat.not_lt.2 c7)
        try have c7b9 : (9223372036854775807 < 8 + t367.size + 2) = False := eq_false (by have c_ := c7; simp only [ByteArray.size_append] at c_; exact Nat.not_lt.2 c_)
        by_cases c8 : (a1.size : Int) = ((((⟨#[48, 48, 58, 48, 48, 58, 48, 48]⟩ : ByteArray) ++ t367) ++ (⟨#[48, 48]⟩ : ByteArray)).size : Int)
        · rw [if_pos c8] at H
          have c8b0 : ((a1.size : Int) == ((((⟨#[48, 48, 58, 48, 48, 58, 48, 48]⟩ : ByteArray) ++ t367) ++ (⟨#[48, 48]⟩ : ByteArray)).size : Int)) = true := beq_iff_eq.mpr c8
          have c8b1 : ((a1.size : Int) != ((((⟨#[48, 48, 58, 48, 48, 58, 48, 48]⟩ : ByteArray) ++ t367) ++ (⟨#[48, 48]⟩ : ByteArray)).size : Int)) = false := bne_eq_false_iff_eq.mpr c8
          have c8b2 : (a1.size == (((⟨#[48, 48, 58, 48, 48, 58, 48, 48]⟩ : ByteArray) ++ t367) ++ (⟨#[48, 48]⟩ : ByteArray)).size) = true := by first | simpa using c8 | (simp at c8 ⊢; omega)
          try have c8b8 : ((a1.size : Int) == 8 + (t367.size : Int) + 2) = true := by have c_ := c8b0; simp only [ByteArray.size_append, Int.natCast_add] at c_; exact c_
          try have c8b7 : ((a1.size : Int) != 8 + (t367.size : Int) + 2) = false := by have c_ := c8b1; simp only [ByteArray.size_append, Int.natCast_add] at c_; exact c_
          clear c8
          have H' := Aside0.mk H
          clear H
          go_enter Try.func27, Try.ntmps27
          go_wp2_with (first | ((with_reducible refine gate_dst (N := 2) rfl ?_); refine box_event ?hg (N := 2) ?hd (cs := #[.int .i64 a0_0, .bool a0_1]) (t := 23) ?hr ?_; (case hd => rfl); (case hg => rfl); (case hr => first | (go_simp; done) | (go_simp; rfl)); intro gb364 hg w9 hbox hb; have n0_ := Aside0.mk (below_step (by repeat (first | (with_reducible first | exact HB.out | apply below_alloc | apply pw_below_drewN | apply below_drew1) | exact HB.out)) hb); have n1_ := Aside0.mk (hbox); have n2_ := Aside0.mk ((by rw [hg]; exact (below_size (by repeat (first | (with_reducible first | exact HB.out | apply below_alloc | apply pw_below_drewN | apply below_drew1) | exact HB.out))) : w.heap.size ≤ gb364)); have n3_ := Aside0.mk ((by rw [hg]; exact (below_size (by repeat (first | (with_reducible first | exact HB.out | apply below_alloc | apply pw_below_drewN | apply below_drew1) | exact HB.out))) : w.heap.size ≤ gb364)); clear HB; have HB := n0_; have BK364 := n1_; have GW364 := n2_; have GE364 := n3_; clear n0_ n1_ n2_ n3_; clear hb hbox hg) | ((with_reducible refine gate_dst (N := 4) rfl ?_); refine box_event ?hg (N := 4) ?hd (cs := #[.int .i64 0, .int .i64 0, .int .i64 0, .int .i64 0]) (t := 25) ?hr ?_; (case hd => rfl); (case hg => rfl); (case hr => first | (go_simp; done) | (go_simp; rfl)); intro gb365 hg w10 hbox hb; have n0_ := Aside0.mk (blk_below (g := gb364) (o := .cells #[.int .i64 a0_0, .bool a0_1] 23 (0, 0)) (by (with_reducible repeat (first | refine blk_drewN ?_ _ | refine blk_drew ?_ | refine blk_alloc ?_ _)); exact BK364.out) hb); have n1_ := Aside0.mk (below_step (by repeat (first | (with_reducible first | exact HB.out | apply below_alloc | apply pw_below_drewN | apply below_drew1 | refine below_set ?_ GE364.out) | exact HB.out)) hb); have n2_ := Aside0.mk (hbox); have n3_ := Aside0.mk ((by rw [hg]; exact (below_size (by repeat (first | (with_reducible first | exact HB.out | apply below_alloc | apply pw_below_drewN | apply below_drew1 | refine below_set ?_ GE364.out) | exact HB.out))) : w.heap.size ≤ gb365)); have n4_ := Aside0.mk ((by rw [hg]; exact (below_size (by repeat (first | (with_reducible first | exact HB.out | apply below_alloc | apply pw_below_drewN | apply below_drew1 | refine below_set ?_ GE364.out) | exact HB.out))) : w.heap.size ≤ gb365)); have n5_ := Aside0.mk ((by rw [hg]; exact Nat.ne_of_lt (blk_lt (g := gb364) (o := .cells #[.int .i64 a0_0, .bool a0_1] 23 (0, 0)) (by (with_reducible repeat (first | refine blk_drewN ?_ _ | refine blk_drew ?_ | refine blk_alloc ?_ _)); exact BK364.out)) : gb364 ≠ gb365)); have n6_ := Aside0.mk ((by rw [hg]; exact Nat.ne_of_gt (blk_lt (g := gb364) (o := .cells #[.int .i64 a0_0, .bool a0_1] 23 (0, 0)) (by (with_reducible repeat (first | refine blk_drewN ?_ _ | refine blk_drew ?_ | refine blk_alloc ?_ _)); exact BK364.out)) : gb365 ≠ gb364)); clear BK364; clear HB; have BK364 := n0_; have HB := n1_; have BK365 := n2_; have GW365 := n3_; have GE365 := n4_; have NB364_365 := n5_; have NB365_364 := n6_; clear n0_ n1_ n2_ n3_ n4_ n5_ n6_; clear hb hbox hg; have hnb11 := NB364_365.out; have hnc11 := NB365_364.out; have hcz12_0 : w10.cell? ⟨gb364, 0, none⟩ = some (.int .i64 a0_0) := (blk_cell BK364.out 0).trans rfl; have hcz12_1 : w10.cell? ⟨gb364, 1, none⟩ = some (.bool a0_1) := (blk_cell BK364.out 1).trans rfl; have hfz12_0 := blk_frozen BK364.out 0; have hfz12_1 := blk_frozen BK364.out 1) | ((with_reducible refine gate_callee (f := 25) rfl ?_); refine goesL_ (some 13) rfl rfl Try.func25 (by kernel_rfl) rfl #[.agg #[.int .i64 a0_0, .bool a0_1]] rfl (by (try simp only [List.map_toArray, List.map_cons, List.map_nil]); first | done | rfl | (simp only [List.length_drop, List.length_take]; rfl)) ?_; (with_reducible refine (code_Check.calls a0_0 a0_1 t366 _ A3.out).mono ?_); rintro e w13 ⟨rfl, hb⟩; refine ⟨_, rfl, ?_⟩; have n0_ := Aside0.mk (blk_below (g := gb364) (o := .cells #[.int .i64 a0_0, .bool a0_1] 23 (0, 0)) (by (with_reducible repeat (first | refine blk_drewN ?_ _ | refine blk_drew ?_ | refine blk_alloc ?_ _)); exact BK364.out) hb); have n1_ := Aside0.mk (blk_below (g := gb365) (o := .cells #[.int .i64 0, .int .i64 0, .int .i64 0, .int .i64 0] 25 (0, 0)) (by (with_reducible repeat (first | refine blk_drewN ?_ _ | refine blk_drew ?_ | refine blk_alloc ?_ _)); exact BK365.out) hb); have n2_ := Aside0.mk (below_step (by repeat (first | (with_reducible first | exact HB.out | apply below_alloc | apply pw_below_drewN | apply below_drew1 | refine below_set ?_ GE364.out | refine below_set ?_ GE365.out) | exact HB.out)) hb); clear BK364; clear BK365; clear HB; have BK364 := n0_; have BK365 := n1_; have HB := n2_; clear n0_ n1_ n2_; (try clear hb); (try clear hb2); (try clear hk); (try clear hi); have hcz14_0 : w13.cell? ⟨gb364, 0, none⟩ = some (.int .i64 a0_0) := (blk_cell BK364.out 0).trans rfl; have hcz14_1 : w13.cell? ⟨gb364, 1, none⟩ = some (.bool a0_1) := (blk_cell BK364.out 1).trans rfl; have hfz14_0 := blk_frozen BK364.out 0; have hfz14_1 := blk_frozen BK364.out 1) | ((with_reducible refine gate_callee (f := 49) rfl ?_); refine goesL_ (some 19) rfl rfl Try.func49 (by kernel_rfl) rfl #[.agg #[.int .i64 a0_0, .bool a0_1]] rfl (by (try simp only [List.map_toArray, List.map_cons, List.map_nil]); first | done | rfl | (simp only [List.length_drop, List.length_take]; rfl)) ?_; (with_reducible refine (code_mark.calls a0_0 a0_1 t367 _ A5.out).mono ?_); rintro e w15 ⟨rfl, hb⟩; refine ⟨_, rfl, ?_⟩; have n0_ := Aside0.mk (blk_below (g := gb364) (o := .cells #[.int .i64 a0_0, .bool a0_1] 23 (0, 0)) (by (with_reducible repeat (first | refine blk_drewN ?_ _ | refine blk_drew ?_ | refine blk_alloc ?_ _)); exact BK364.out) hb); have n1_ := Aside0.mk (blk_below (g := gb365) (o := .cells #[.int .i64 0, .int .i64 0, .int .i64 0, .int .i64 0] 25 (0, 0)) (by (with_reducible repeat (first | refine blk_drewN ?_ _ | refine blk_drew ?_ | refine blk_alloc ?_ _)); exact BK365.out) hb); have n2_ := Aside0.mk (below_step (by repeat (first | (with_reducible first | exact HB.out | apply below_alloc | apply pw_below_drewN | apply below_drew1 | refine below_set ?_ GE364.out | refine below_set ?_ GE365.out) | exact HB.out)) hb); clear BK364; clear BK365; clear HB; have BK364 := n0_; have BK365 := n1_; have HB := n2_; clear n0_ n1_ n2_; (try clear hb); (try clear hb2); (try clear hk); (try clear hi)))
          go_loopg [8, 30] k (fun kq v8 v30 w' => ∃ (x8_1 : List Int) (x30_1 : Int) (x366000_1 : Int) (x366001_1 : Int) (x366002_1 : Int) (x366003_1 : Int), v30 = .int .i64 x30_1 ∧ Aside0 (code_Parse.l0 kq a1 (((⟨#[48, 48, 58, 48, 48, 58, 48, 48]⟩ : ByteArray) ++ t367) ++ (⟨#[48, 48]⟩ : ByteArray)) x8_1 (a1.size : Int) x30_1 a0_0 a0_1 = some (r1, r2, r3, r4, r5)) ∧ Aside0 (kq ≤ k) ∧ Aside0 (Kd.R (Kd.int .i64) 3 w' w.heap.size (fun _ => True) v8 x8_1) ∧ Aside0 (w'.heap[gb364]? = some (.cells #[.int .i64 a0_0, .bool a0_1] 23 (0, 0))) ∧ Aside0 (w'.heap[gb365]? = some (.cells #[.int .i64 x366000_1, .int .i64 x366001_1, .int .i64 x366002_1, .int .i64 x366003_1] 25 (0, 0))) ∧ Aside0 (Below w.heap.size w w'))
          case atStart => exact ⟨(([] : List Int)), (0), (0), (0), (0), (0), (by first | rfl | (simp; done) | (simp [*]; done)), H', ⟨Nat.le_refl _⟩, ⟨by first | exact Kd.R_nil _ _ _ _ _ | exact Kd.N_nil _ _ _ _ _ | exact Kd.V_nil _ _ _ _ _ | exact Kd.Q_nil _ _ _ _ _ | exact Kd.S_nil _ _ _ _ _⟩, ⟨by (with_reducible repeat (first | refine blk_drewN ?_ _ | refine blk_drew ?_ | refine blk_alloc ?_ _)); exact BK364.out⟩, ⟨by (with_reducible repeat (first | refine blk_drewN ?_ _ | refine blk_drew ?_ | refine blk_alloc ?_ _)); exact BK365.out⟩, ⟨by repeat (first | (with_reducible first | exact HB.out | apply below_alloc | apply pw_below_drewN | apply below_drew1 | refine below_set ?_ GE364.out | refine below_set ?_ GE365.out) | exact HB.out)⟩⟩
          case round =>
            clear H'
            try clear c1
            try clear c2
            try clear p2
            try clear c4
            try clear c4b0
            try clear c4b1
            try clear c6
            try clear c6b0
            try clear c6b1
            try clear c6b2
            try clear c7
            try clear c7b0
            try clear c7b1
            try clear c7b2
            try clear c8
            try clear c8b0
            try clear c8b1
            try clear c8b2
            try clear c11
            try clear hcz12_0
            try clear hcz12_1
            try clear hcz14_0
            try clear hcz14_1
            try clear hfz12_0
            try clear hfz12_1
            try clear hfz14_0
            try clear hfz14_1
            obtain ⟨x8_1, x30_1, x366000_1, x366001_1, x366002_1, x366003_1, rfl, HA, HK1, HO_8, BK364, BK365, HB⟩ := hrel
            cases gk with
            | zero => exact absurd HA.out (by simp [code_Parse.l0])
            | succ k1 =>
              have H := HA.out
              clear HA
              simp only [code_Parse.l0] at H
              by_cases c16 : x30_1 < (a1.size : Int)
              · rw [if_pos c16] at H
                have c16b0 : decide (x30_1 < (a1.size : Int)) = true := decide_eq_true c16
                clear c16
                have HC17 := Aside0.mk H
                clear H
                go_upto_region 11 with (fail)
                go_cut [33] (fun v33 wc => ∃ (kq : Nat) (x33_16 : Bool), v33 = .bool x33_16 ∧ Aside0 (code_Parse.j1 kq a1 (((⟨#[48, 48, 58, 48, 48, 58, 48, 48]⟩ : ByteArray) ++ t367) ++ (⟨#[48, 48]⟩ : ByteArray)) x8_1 x30_1 (a1.size : Int) x30_1 x33_16 a0_0 a0_1 = some (r1, r2, r3, r4, r5)) ∧ Aside0 (kq ≤ k1) ∧ Aside0 (Kd.R (Kd.int .i64) 3 wc w.heap.size (fun _ => True) u8 x8_1) ∧ Aside0 (wc.heap[gb364]? = some (.cells #[.int .i64 a0_0, .bool a0_1] 23 (0, 0))) ∧ Aside0 (wc.heap[gb365]? = some (.cells #[.int .i64 x366000_1, .int .i64 x366001_1, .int .i64 x366002_1, .int .i64 x366003_1] 25 (0, 0))) ∧ Aside0 (Below w.heap.size w wc))
                case first =>
                  have H := HC17.out
                  clear HC17
                  by_cases c18 : 0 ≤ x30_1
                  · rw [if_pos c18] at H
                    have c18b0 : decide (0 ≤ x30_1) = true := decide_eq_true c18
                    clear c18
                    (first | rw [c18b0] | (simp only [i64_w, i32_w]; rw [c18b0]) | skip)
                    by_cases c19 : x30_1 < ((((⟨#[48, 48, 58, 48, 48, 58, 48, 48]⟩ : ByteArray) ++ t367) ++ (⟨#[48, 48]⟩ : ByteArray)).size : Int)
                    · rw [if_pos c19] at H
                      have c19b0 : decide (x30_1 < ((((⟨#[48, 48, 58, 48, 48, 58, 48, 48]⟩ : ByteArray) ++ t367) ++ (⟨#[48, 48]⟩ : ByteArray)).size : Int)) = true := decide_eq_true c19
                      try have c19n0 : decide (x30_1 < (8 + (t367.size : Int) + 2)) = true := by have c_ := c19b0; simp only [ByteArray.size_append, Int.natCast_add] at c_; exact c_
                      try have c19m0 := eq_true (of_decide_eq_true c19n0)
                      clear c19
                      by_cases c21 : (bt (((⟨#[48, 48, 58, 48, 48, 58, 48, 48]⟩ : ByteArray) ++ t367) ++ (⟨#[48, 48]⟩ : ByteArray)) x30_1) = 48
                      · rw [if_pos c21] at H
                        have c21b0 : ((bt (((⟨#[48, 48, 58, 48, 48, 58, 48, 48]⟩ : ByteArray) ++ t367) ++ (⟨#[48, 48]⟩ : ByteArray)) x30_1) == 48) = true := beq_iff_eq.mpr c21
                        have c21b1 : ((bt (((⟨#[48, 48, 58, 48, 48, 58, 48, 48]⟩ : ByteArray) ++ t367) ++ (⟨#[48, 48]⟩ : ByteArray)) x30_1) != 48) = false := bne_eq_false_iff_eq.mpr c21
                        clear c21
                        have H' := Aside0.mk H
                        clear H
                        try go_wp2
                        have n0_ := Aside0.mk (Kd.R_drew HO_8.out)
                        have n1_ := Aside0.mk (blk_drew BK364.out)
                        have n2_ := Aside0.mk (blk_drew BK365.out)
                        have n3_ := Aside0.mk (below_drew1 HB.out)
                        clear HO_8
                        clear BK364
                        clear BK365
                        clear HB
                        have HO_8 := n0_
                        have BK364 := n1_
                        have BK365 := n2_
                        have HB := n3_
                        clear n0_ n1_ n2_ n3_
                        have p20 : 0 ≤ (x30_1 : Int) := of_decide_eq_true (by first | (with_reducible assumption) | assumption)
                        have q20 : x30_1 < ((((⟨#[48, 48, 58, 48, 48, 58, 48, 48]⟩ : ByteArray) ++ t367) ++ (⟨#[48, 48]⟩ : ByteArray)).size : Int) := of_decide_eq_true (by first | (with_reducible assumption) | assumption)
                        have hx20 := bt_at (((⟨#[48, 48, 58, 48, 48, 58, 48, 48]⟩ : ByteArray) ++ t367) ++ (⟨#[48, 48]⟩ : ByteArray)) x30_1
                        replace p20 := eq_true p20
                        replace q20 := eq_true q20
                        refine start_ (n := 14) (S := fun w' => True) (ds := []) #[false, false, false, false, false, false, false, false, false, false, false, false, false, false] (by kernel_rfl) rfl rfl trivial (fun hHeld => ?_); refine with_tabW code_Parse.tab11 code_Parse.bits11 (fun HT_ HW_ => ?_)
                        generalize wr.drew = w22 at HO_8 BK364 BK365 HB hHeld ⊢
                        refine pure_ (i := 0) (N := some 34) (v := ?_) (a' := ?_) #[true, false, false, false, false, false, false, false, false, false, false, false, false, false] rfl rfl (any_of HT_.out (by kernel_rfl)) (fun _ _ _ h => h) (Or.inl ⟨by rfl, ?_⟩) ?_ ?_
                        rotate_left
                        · intro w'
                          go_simp
                          with_reducible rfl
                        rotate_left
                        · simp only [Act.put, List.setIfInBounds_toArray, List.set_cons_zero, List.set_cons_succ, i64_w, i32_w]
                          rfl
                        refine pure_ (i := 1) (N := some 35) (v := ?_) (a' := ?_) #[true, true, false, false, false, false, false, false, false, false, false, false, false, false] rfl rfl (any_of HT_.out (by kernel_rfl)) (fun _ _ _ h => h) (Or.inl ⟨by rfl, ?_⟩) ?_ ?_
                        rotate_left
                        · intro w'
                          go_simp
                          with_reducible rfl
                        rotate_left
                        · simp only [Act.put, List.setIfInBounds_toArray, List.set_cons_zero, List.set_cons_succ, i64_w, i32_w]
                          rfl
                        refine take_ (i := 2) (N := some 36) (v := ?_) (a' := ?_) #[true, true, true, false, false, false, false, false, false, false, false, false, false, false] rfl rfl (take_ofW HT_.out HW_.out (by kernel_rfl)) (fun _ _ _ h => h) (Or.inl ⟨by rfl, ?_⟩) hHeld ?_ ?_
                        rotate_left
                        · intro w' _
                          go_simp
                          with_reducible rfl
                        rotate_left
                        · simp only [Act.put, List.setIfInBounds_toArray, List.set_cons_zero, List.set_cons_succ, i64_w, i32_w]
                          rfl
                        refine pure_ (i := 3) (N := some 37) (v := ?_) (a' := ?_) #[true, true, true, true, false, false, false, false, false, false, false, false, false, false] rfl rfl (any_of HT_.out (by kernel_rfl)) (fun _ _ _ h => h) (Or.inl ⟨by rfl, ?_⟩) ?_ ?_
                        rotate_left
                        · intro w'
                          go_simp
                          with_reducible rfl
                        rotate_left
                        · simp only [Act.put, List.setIfInBounds_toArray, List.set_cons_zero, List.set_cons_succ, i64_w, i32_w]
                          rfl
                        refine pure_ (i := 4) (N := some 38) (v := ?_) (a' := ?_) #[true, true, true, true, true, false, false, false, false, false, false, false, false, false] rfl rfl (any_of HT_.out (by kernel_rfl)) (fun _ _ _ h => h) (Or.inl ⟨by rfl, ?_⟩) ?_ ?_
                        rotate_left
                        · intro w'
                          go_simp
                          with_reducible rfl
                        rotate_left
                        · simp only [Act.put, List.setIfInBounds_toArray, List.set_cons_zero, List.set_cons_succ, i64_w, i32_w]
                          rfl
                        refine pure_ (i := 5) (N := some 39) (v := undef) (a' := ?_) #[true, true, true, true, true, true, false, false, false, false, false, false, false, false] rfl rfl (any_of HT_.out (by kernel_rfl)) (fun _ _ _ h => h) (Or.inr ⟨by rfl, rfl⟩) ?_ ?_
                        rotate_left
                        · simp only [Act.put, List.setIfInBounds_toArray, List.set_cons_zero, List.set_cons_succ, i64_w, i32_w]
                          rfl
                        refine pure_ (i := 6) (N := some 40) (v := undef) (a' := ?_) #[true, true, true, true, true, true, true, false, false, false, false, false, false, false] rfl rfl (any_of HT_.out (by kernel_rfl)) (fun _ _ _ h => h) (Or.inr ⟨by rfl, rfl⟩) ?_ ?_
                        rotate_left
                        · simp only [Act.put, List.setIfInBounds_toArray, List.set_cons_zero, List.set_cons_succ, i64_w, i32_w]
                          rfl
                        refine pure_ (i := 7) (N := some 41) (v := undef) (a' := ?_) #[true, true, true, true, true, true, true, true, false, false, false, false, false, false] rfl rfl (any_of HT_.out (by kernel_rfl)) (fun _ _ _ h => h) (Or.inr ⟨by rfl, rfl⟩) ?_ ?_
                        rotate_left
                        · simp only [Act.put, List.setIfInBounds_toArray, List.set_cons_zero, List.set_cons_succ, i64_w, i32_w]
                          rfl
                        refine pure_ (i := 8) (N := some 42) (v := undef) (a' := ?_) #[true, true, true, true, true, true, true, true, true, false, false, false, false, false] rfl rfl (any_of HT_.out (by kernel_rfl)) (fun _ _ _ h => h) (Or.inr ⟨by rfl, rfl⟩) ?_ ?_
                        rotate_left
                        · simp only [Act.put, List.setIfInBounds_toArray, List.set_cons_zero, List.set_cons_succ, i64_w, i32_w]
                          rfl
                        refine pure_ (i := 9) (N := some 43) (v := undef) (a' := ?_) #[true, true, true, true, true, true, true, true, true, true, false, false, false, false] rfl rfl (any_of HT_.out (by kernel_rfl)) (fun _ _ _ h => h) (Or.inr ⟨by rfl, rfl⟩) ?_ ?_
                        rotate_left
                        · simp only [Act.put, List.setIfInBounds_toArray, List.set_cons_zero, List.set_cons_succ, i64_w, i32_w]
                          rfl
                        refine pure_ (i := 10) (N := some 44) (v := undef) (a' := ?_) #[true, true, true, true, true, true, true, true, true, true, true, false, false, false] rfl rfl (any_of HT_.out (by kernel_rfl)) (fun _ _ _ h => h) (Or.inr ⟨by rfl, rfl⟩) ?_ ?_
                        rotate_left
                        · simp only [Act.put, List.setIfInBounds_toArray, List.set_cons_zero, List.set_cons_succ, i64_w, i32_w]
                          rfl
                        refine pure_ (i := 11) (N := some 45) (v := undef) (a' := ?_) #[true, true, true, true, true, true, true, true, true, true, true, true, false, false] rfl rfl (any_of HT_.out (by kernel_rfl)) (fun _ _ _ h => h) (Or.inr ⟨by rfl, rfl⟩) ?_ ?_
                        rotate_left
                        · simp only [Act.put, List.setIfInBounds_toArray, List.set_cons_zero, List.set_cons_succ, i64_w, i32_w]
                          rfl
                        refine pure_ (i := 12) (N := some 46) (v := ?_) (a' := ?_) #[true, true, true, true, true, true, true, true, true, true, true, true, true, false] rfl rfl (any_of HT_.out (by kernel_rfl)) (fun _ _ _ h => h) (Or.inl ⟨by rfl, ?_⟩) ?_ ?_
                        rotate_left
                        · intro w'
                          go_simp
                          with_reducible rfl
                        rotate_left
                        · simp only [Act.put, List.setIfInBounds_toArray, List.set_cons_zero, List.set_cons_succ, i64_w, i32_w]
                          rfl
                        refine pure_ (i := 13) (N := some 33) (v := ?_) (a' := ?_) #[true, true, true, true, true, true, true, true, true, true, true, true, true, true] rfl rfl (any_of HT_.out (by kernel_rfl)) (fun _ _ _ h => h) (Or.inl ⟨by rfl, ?_⟩) ?_ ?_
                        rotate_left
                        · intro w'
                          go_simp
                          with_reducible rfl
                        rotate_left
                        · simp only [Act.put, List.setIfInBounds_toArray, List.set_cons_zero, List.set_cons_succ, i64_w, i32_w]
                          rfl
                        refine done_ (done_of HT_.out (by kernel_rfl)) ?_
                        try go_wp2
                        go_meet
                        case rel => exact ⟨_, (false), (by first | rfl | (simp; done) | (simp [*]; done)), H', ⟨by have := HK1.out; first | omega | exact Nat.le_refl _⟩, ⟨by (with_reducible repeat (first | apply Kd.R_alloc | apply Kd.R_drewN | apply Kd.R_drew)); exact HO_8.out⟩, ⟨by (with_reducible repeat (first | refine blk_drewN ?_ _ | refine blk_drew ?_ | refine blk_alloc ?_ _)); exact BK364.out⟩, ⟨by (with_reducible repeat (first | refine blk_drewN ?_ _ | refine blk_drew ?_ | refine blk_alloc ?_ _)); exact BK365.out⟩, ⟨by repeat (first | (with_reducible first | exact HB.out | apply below_alloc | apply pw_below_drewN | apply below_drew1 | refine below_set ?_ GE364.out | refine below_set ?_ GE365.out) | exact HB.out)⟩⟩
                      · rw [if_neg c21] at H
                        have c21b0 : ((bt (((⟨#[48, 48, 58, 48, 48, 58, 48, 48]⟩ : ByteArray) ++ t367) ++ (⟨#[48, 48]⟩ : ByteArray)) x30_1) == 48) = false := beq_eq_false_iff_ne.mpr c21
                        have c21b1 : ((bt (((⟨#[48, 48, 58, 48, 48, 58, 48, 48]⟩ : ByteArray) ++ t367) ++ (⟨#[48, 48]⟩ : ByteArray)) x30_1) != 48) = true := bne_iff_ne.mpr c21
                        by_cases c23 : x30_1 < (a1.size : Int)
                        · rw [if_pos c23] at H
                          have c23b0 : decide (x30_1 < (a1.size : Int)) = true := decide_eq_true c23
                          clear c23
                          have H' := Aside0.mk H
                          clear H
                          try go_wp2
                          have n0_ := Aside0.mk (Kd.R_drew HO_8.out)
                          have n1_ := Aside0.mk (blk_drew BK364.out)
                          have n2_ := Aside0.mk (blk_drew BK365.out)
                          have n3_ := Aside0.mk (below_drew1 HB.out)
                          clear HO_8
                          clear BK364
                          clear BK365
                          clear HB
                          have HO_8 := n0_
                          have BK364 := n1_
                          have BK365 := n2_
                          have HB := n3_
                          clear n0_ n1_ n2_ n3_
                          have p20 : 0 ≤ (x30_1 : Int) := of_decide_eq_true (by first | (with_reducible assumption) | assumption)
                          have q20 : x30_1 < ((((⟨#[48, 48, 58, 48, 48, 58, 48, 48]⟩ : ByteArray) ++ t367) ++ (⟨#[48, 48]⟩ : ByteArray)).size : Int) := of_decide_eq_true (by first | (with_reducible assumption) | assumption)
                          have hx20 := bt_at (((⟨#[48, 48, 58, 48, 48, 58, 48, 48]⟩ : ByteArray) ++ t367) ++ (⟨#[48, 48]⟩ : ByteArray)) x30_1
                          replace p20 := eq_true p20
                          replace q20 := eq_true q20
                          have p24 : 0 ≤ (x30_1 : Int) := of_decide_eq_true (by first | (with_reducible assumption) | assumption)
                          have q24 : x30_1 < (a1.size : Int) := of_decide_eq_true (by first | (with_reducible assumption) | assumption)
                          have hx24 := bt_at a1 x30_1
                          replace p24 := eq_true p24
                          replace q24 := eq_true q24
                          have p25 : 0 ≤ (x30_1 : Int) := of_decide_eq_true (by first | (with_reducible assumption) | assumption)
                          have q25 : x30_1 < ((((⟨#[48, 48, 58, 48, 48, 58, 48, 48]⟩ : ByteArray) ++ t367) ++ (⟨#[48, 48]⟩ : ByteArray)).size : Int) := of_decide_eq_true (by first | (with_reducible assumption) | assumption)
                          have hx25 := bt_at (((⟨#[48, 48, 58, 48, 48, 58, 48, 48]⟩ : ByteArray) ++ t367) ++ (⟨#[48, 48]⟩ : ByteArray)) x30_1
                          replace p25 := eq_true p25
                          replace q25 := eq_true q25
                          refine start_ (n := 14) (S := fun w' => True) (ds := []) #[false, false, false, false, false, false, false, false, false, false, false, false, false, false] (by kernel_rfl) rfl rfl trivial (fun hHeld => ?_); refine with_tabW code_Parse.tab11 code_Parse.bits11 (fun HT_ HW_ => ?_)
                          generalize wr.drew = w26 at HO_8 BK364 BK365 HB hHeld ⊢
                          refine pure_ (i := 0) (N := some 34) (v := ?_) (a' := ?_) #[true, false, false, false, false, false, false, false, false, false, false, false, false, false] rfl rfl (any_of HT_.out (by kernel_rfl)) (fun _ _ _ h => h) (Or.inl ⟨by rfl, ?_⟩) ?_ ?_
                          rotate_left
                          · intro w'
                            go_simp
                            with_reducible rfl
                          rotate_left
                          · simp only [Act.put, List.setIfInBounds_toArray, List.set_cons_zero, List.set_cons_succ, i64_w, i32_w]
                            rfl
                          refine pure_ (i := 1) (N := some 35) (v := ?_) (a' := ?_) #[true, true, false, false, false, false, false, false, false, false, false, false, false, false] rfl rfl (any_of HT_.out (by kernel_rfl)) (fun _ _ _ h => h) (Or.inl ⟨by rfl, ?_⟩) ?_ ?_
                          rotate_left
                          · intro w'
                            go_simp
                            with_reducible rfl
                          rotate_left
                          · simp only [Act.put, List.setIfInBounds_toArray, List.set_cons_zero, List.set_cons_succ, i64_w, i32_w]
                            rfl
                          refine take_ (i := 2) (N := some 36) (v := ?_) (a' := ?_) #[true, true, true, false, false, false, false, false, false, false, false, false, false, false] rfl rfl (take_ofW HT_.out HW_.out (by kernel_rfl)) (fun _ _ _ h => h) (Or.inl ⟨by rfl, ?_⟩) hHeld ?_ ?_
                          rotate_left
                          · intro w' _
                            go_simp
                            with_reducible rfl
                          rotate_left
                          · simp only [Act.put, List.setIfInBounds_toArray, List.set_cons_zero, List.set_cons_succ, i64_w, i32_w]
                            rfl
                          refine pure_ (i := 3) (N := some 37) (v := ?_) (a' := ?_) #[true, true, true, true, false, false, false, false, false, false, false, false, false, false] rfl rfl (any_of HT_.out (by kernel_rfl)) (fun _ _ _ h => h) (Or.inl ⟨by rfl, ?_⟩) ?_ ?_
                          rotate_left
                          · intro w'
                            go_simp
                            with_reducible rfl
                          rotate_left
                          · simp only [Act.put, List.setIfInBounds_toArray, List.set_cons_zero, List.set_cons_succ, i64_w, i32_w]
                            rfl
                          refine pure_ (i := 4) (N := some 38) (v := ?_) (a' := ?_) #[true, true, true, true, true, false, false, false, false, false, false, false, false, false] rfl rfl (any_of HT_.out (by kernel_rfl)) (fun _ _ _ h => h) (Or.inl ⟨by rfl, ?_⟩) ?_ ?_
                          rotate_left
                          · intro w'
                            go_simp
                            with_reducible rfl
                          rotate_left
                          · simp only [Act.put, List.setIfInBounds_toArray, List.set_cons_zero, List.set_cons_succ, i64_w, i32_w]
                            rfl
                          refine pure_ (i := 5) (N := some 39) (v := ?_) (a' := ?_) #[true, true, true, true, true, true, false, false, false, false, false, false, false, false] rfl rfl (any_of HT_.out (by kernel_rfl)) (fun _ _ _ h => h) (Or.inl ⟨by rfl, ?_⟩) ?_ ?_
                          rotate_left
                          · intro w'
                            go_simp
                            with_reducible rfl
                          rotate_left
                          · simp only [Act.put, List.setIfInBounds_toArray, List.set_cons_zero, List.set_cons_succ, i64_w, i32_w]
                            rfl
                          refine pure_ (i := 6) (N := some 40) (v := ?_) (a' := ?_) #[true, true, true, true, true, true, true, false, false, false, false, false, false, false] rfl rfl (any_of HT_.out (by kernel_rfl)) (fun _ _ _ h => h) (Or.inl ⟨by rfl, ?_⟩) ?_ ?_
                          rotate_left
                          · intro w'
                            go_simp
                            with_reducible rfl
                          rotate_left
                          · simp only [Act.put, List.setIfInBounds_toArray, List.set_cons_zero, List.set_cons_succ, i64_w, i32_w]
                            rfl
                          refine pure_ (i := 8) (N := some 42) (v := ?_) (a' := ?_) #[true, true, true, true, true, true, true, false, true, false, false, false, false, false] rfl rfl (any_of HT_.out (by kernel_rfl)) (fun _ _ _ h => h) (Or.inl ⟨by rfl, ?_⟩) ?_ ?_
                          rotate_left
                          · intro w'
                            go_simp
                            with_reducible rfl
                          rotate_left
                          · simp only [Act.put, List.setIfInBounds_toArray, List.set_cons_zero, List.set_cons_succ, i64_w, i32_w]
                            rfl
                          refine pure_ (i := 9) (N := some 43) (v := ?_) (a' := ?_) #[true, true, true, true, true, true, true, false, true, true, false, false, false, false] rfl rfl (any_of HT_.out (by kernel_rfl)) (fun _ _ _ h => h) (Or.inl ⟨by rfl, ?_⟩) ?_ ?_
                          rotate_left
                          · intro w'
                            go_simp
                            with_reducible rfl
                          rotate_left
                          · simp only [Act.put, List.setIfInBounds_toArray, List.set_cons_zero, List.set_cons_succ, i64_w, i32_w]
                            rfl
                          refine take_ (i := 7) (N := some 41) (v := ?_) (a' := ?_) #[true, true, true, true, true, true, true, true, true, true, false, false, false, false] rfl rfl (take_ofW HT_.out HW_.out (by kernel_rfl)) (fun _ _ _ h => h) (Or.inl ⟨by rfl, ?_⟩) hHeld ?_ ?_
                          rotate_left
                          · intro w' _
                            go_simp
                            with_reducible rfl
                          rotate_left
                          · simp only [Act.put, List.setIfInBounds_toArray, List.set_cons_zero, List.set_cons_succ, i64_w, i32_w]
                            rfl
                          refine take_ (i := 10) (N := some 44) (v := ?_) (a' := ?_) #[true, true, true, true, true, true, true, true, true, true, true, false, false, false] rfl rfl (take_ofW HT_.out HW_.out (by kernel_rfl)) (fun _ _ _ h => h) (Or.inl ⟨by rfl, ?_⟩) hHeld ?_ ?_
                          rotate_left
                          · intro w' _
                            go_simp
                            with_reducible rfl
                          rotate_left
                          · simp only [Act.put, List.setIfInBounds_toArray, List.set_cons_zero, List.set_cons_succ, i64_w, i32_w]
                            rfl
                          refine pure_ (i := 11) (N := some 45) (v := ?_) (a' := ?_) #[true, true, true, true, true, true, true, true, true, true, true, true, false, false] rfl rfl (any_of HT_.out (by kernel_rfl)) (fun _ _ _ h => h) (Or.inl ⟨by rfl, ?_⟩) ?_ ?_
                          rotate_left
                          · intro w'
                            go_simp
                            with_reducible rfl
                          rotate_left
                          · simp only [Act.put, List.setIfInBounds_toArray, List.set_cons_zero, List.set_cons_succ, i64_w, i32_w]
                            rfl
                          refine pure_ (i := 12) (N := some 46) (v := ?_) (a' := ?_) #[true, true, true, true, true, true, true, true, true, true, true, true, true, false] rfl rfl (any_of HT_.out (by kernel_rfl)) (fun _ _ _ h => h) (Or.inl ⟨by rfl, ?_⟩) ?_ ?_
                          rotate_left
                          · intro w'
                            go_simp
                            with_reducible rfl
                          rotate_left
                          · simp only [Act.put, List.setIfInBounds_toArray, List.set_cons_zero, List.set_cons_succ, i64_w, i32_w]
                            rfl
                          refine pure_ (i := 13) (N := some 33) (v := ?_) (a' := ?_) #[true, true, true, true, true, true, true, true, true, true, true, true, true, true] rfl rfl (any_of HT_.out (by kernel_rfl)) (fun _ _ _ h => h) (Or.inl ⟨by rfl, ?_⟩) ?_ ?_
                          rotate_left
                          · intro w'
                            go_simp
                            with_reducible rfl
                          rotate_left
                          · simp only [Act.put, List.setIfInBounds_toArray, List.set_cons_zero, List.set_cons_succ, i64_w, i32_w]
                            rfl
                          refine done_ (done_of HT_.out (by kernel_rfl)) ?_
                          try go_wp2
                          go_meet
                          case rel => exact ⟨_, (((bt a1 x30_1) != (bt (((⟨#[48, 48, 58, 48, 48, 58, 48, 48]⟩ : ByteArray) ++ t367) ++ (⟨#[48, 48]⟩ : ByteArray)) x30_1))), (by first | rfl | (simp; done) | (simp [*]; done)), H', ⟨by have := HK1.out; first | omega | exact Nat.le_refl _⟩, ⟨by (with_reducible repeat (first | apply Kd.R_alloc | apply Kd.R_drewN | apply Kd.R_drew)); exact HO_8.out⟩, ⟨by (with_reducible repeat (first | refine blk_drewN ?_ _ | refine blk_drew ?_ | refine blk_alloc ?_ _)); exact BK364.out⟩, ⟨by (with_reducible repeat (first | refine blk_drewN ?_ _ | refine blk_drew ?_ | refine blk_alloc ?_ _)); exact BK365.out⟩, ⟨by repeat (first | (with_reducible first | exact HB.out | apply below_alloc | apply pw_below_drewN | apply below_drew1 | refine below_set ?_ GE364.out | refine below_set ?_ GE365.out) | exact HB.out)⟩⟩
                        · rw [if_neg c23] at H
                          exact absurd H (by simp)
                    · rw [if_neg c19] at H
                      exact absurd H (by simp)
                  · rw [if_neg c18] at H
                    exact absurd H (by simp)
                case rest =>
                  clear HC17
                  try clear c1
                  try clear c2
                  try clear p2
                  try clear q2
                  try clear hx2
                  try clear c4
                  try clear c4b0
                  try clear c4b1
                  try clear c6
                  try clear c6b0
                  try clear c6b1
                  try clear c6b2
                  try clear c7
                  try clear c7b0
                  try clear c7b1
                  try clear c7b2
                  try clear c8
                  try clear c8b0
                  try clear c8b1
                  try clear c8b2
                  try clear c11
                  try clear c16
                  try clear c16b0
                  try clear c18
                  try clear c18b0
                  try clear c19
                  try clear c19b0
                  try clear p20
                  try clear q20
                  try clear hx20
                  try clear c21
                  try clear c21b0
                  try clear c21b1
                  try clear c23
                  try clear c23b0
                  try clear p24
                  try clear q24
                  try clear hx24
                  try clear c25
                  try clear p25
                  try clear q25
                  try clear hx25
                  try clear hcz12_0
                  try clear hcz12_1
                  try clear hcz14_0
                  try clear hcz14_1
                  try clear hfz12_0
                  try clear hfz12_1
                  try clear hfz14_0
                  try clear hfz14_1
                  try clear p2
                  try clear p20
                  try clear p24
                  try clear p25
                  try clear q20
                  try clear q24
                  try clear q25
                  obtain ⟨kq, x33_16, rfl, HA, HJ16, HO_8, BK364, BK365, HB⟩ := hcut
                  cases kq with
                  | zero => exact absurd HA.out (by simp [code_Parse.j1])
                  | succ kj16 =>
                    have H := HA.out
                    clear HA
                    simp only [code_Parse.j1] at H
                    have HC27 := Aside0.mk H
                    clear H
                    go_upto_if 33 with (fail)
                    go_cut [33] (fun v33 wc => ∃ (kq : Nat) (x33_26 : Bool), v33 = .bool x33_26 ∧ Aside0 (code_Parse.j2 kq a1 (((⟨#[48, 48, 58, 48, 48, 58, 48, 48]⟩ : ByteArray) ++ t367) ++ (⟨#[48, 48]⟩ : ByteArray)) x8_1 x30_1 (a1.size : Int) x30_1 x33_26 a0_0 a0_1 = some (r1, r2, r3, r4, r5)) ∧ Aside0 (kq ≤ kj16) ∧ Aside0 (Kd.R (Kd.int .i64) 3 wc w.heap.size (fun _ => True) u8 x8_1) ∧ Aside0 (wc.heap[gb364]? = some (.cells #[.int .i64 a0_0, .bool a0_1] 23 (0, 0))) ∧ Aside0 (wc.heap[gb365]? = some (.cells #[.int .i64 x366000_1, .int .i64 x366001_1, .int .i64 x366002_1, .int .i64 x366003_1] 25 (0, 0))) ∧ Aside0 (Below w.heap.size w wc))
                    case first =>
                      have H := HC27.out
                      clear HC27
                      by_cases c28 : x33_16 = true
                      · subst c28
                        have H1 : (code_Parse.j2 kj16 a1 (((⟨#[48, 48, 58, 48, 48, 58, 48, 48]⟩ : ByteArray) ++ t367) ++ (⟨#[48, 48]⟩ : ByteArray)) x8_1 x30_1 (a1.size : Int) x30_1 true a0_0 a0_1) = some (r1, r2, r3, r4, r5) := by rw [if_pos rfl] at H; exact H
                        clear H
                        have H := H1
                        clear H1
                        have H' := Aside0.mk H
                        clear H
                        go_wp2
                        go_meet
                        case rel => exact ⟨_, (true), (by first | rfl | (simp; done) | (simp [*]; done)), H', ⟨by have := HK1.out; have := HJ16.out; first | omega | exact Nat.le_refl _⟩, ⟨by (with_reducible repeat (first | apply Kd.R_alloc | apply Kd.R_drewN | apply Kd.R_drew)); exact HO_8.out⟩, ⟨by (with_reducible repeat (first | refine blk_drewN ?_ _ | refine blk_drew ?_ | refine blk_alloc ?_ _)); exact BK364.out⟩, ⟨by (with_reducible repeat (first | refine blk_drewN ?_ _ | refine blk_drew ?_ | refine blk_alloc ?_ _)); exact BK365.out⟩, ⟨by repeat (first | (with_reducible first | exact HB.out | apply below_alloc | apply pw_below_drewN | apply below_drew1 | refine below_set ?_ GE364.out | refine below_set ?_ GE365.out) | exact HB.out)⟩⟩
                      · replace c28 := Bool.eq_false_iff.mpr c28
                        subst c28
                        have H1 : (if 0 ≤ x30_1 then (if x30_1 < ((((⟨#[48, 48, 58, 48, 48, 58, 48, 48]⟩ : ByteArray) ++ t367) ++ (⟨#[48, 48]⟩ : ByteArray)).size : Int) then (if (bt (((⟨#[48, 48, 58, 48, 48, 58, 48, 48]⟩ : ByteArray) ++ t367) ++ (⟨#[48, 48]⟩ : ByteArray)) x30_1) = 48 then (if x30_1 < (a1.size : Int) then (if (bt a1 x30_1) < 48 then (code_Parse.j2 kj16 a1 (((⟨#[48, 48, 58, 48, 48, 58, 48, 48]⟩ : ByteArray) ++ t367) ++ (⟨#[48, 48]⟩ : ByteArray)) x8_1 x30_1 (a1.size : Int) x30_1 true a0_0 a0_1) else (code_Parse.j2 kj16 a1 (((⟨#[48, 48, 58, 48, 48, 58, 48, 48]⟩ : ByteArray) ++ t367) ++ (⟨#[48, 48]⟩ : ByteArray)) x8_1 x30_1 (a1.size : Int) x30_1 (decide ((bt a1 x30_1) > 57)) a0_0 a0_1)) else (none)) else (code_Parse.j2 kj16 a1 (((⟨#[48, 48, 58, 48, 48, 58, 48, 48]⟩ : ByteArray) ++ t367) ++ (⟨#[48, 48]⟩ : ByteArray)) x8_1 x30_1 (a1.size : Int) x30_1 false a0_0 a0_1)) else (none)) else (none)) = some (r1, r2, r3, r4, r5) := by rw [if_neg (show ¬ (false = true) by decide)] at H; exact H
                        clear H
                        have H := H1
                        clear H1
                        by_cases c29 : 0 ≤ x30_1
                        · rw [if_pos c29] at H
                          have c29b0 : decide (0 ≤ x30_1) = true := decide_eq_true c29
                          clear c29
                          (first | rw [c29b0] | (simp only [i64_w, i32_w]; rw [c29b0]) | skip)
                          by_cases c30 : x30_1 < ((((⟨#[48, 48, 58, 48, 48, 58, 48, 48]⟩ : ByteArray) ++ t367) ++ (⟨#[48, 48]⟩ : ByteArray)).size : Int)
                          · rw [if_pos c30] at H
                            have c30b0 : decide (x30_1 < ((((⟨#[48, 48, 58, 48, 48, 58, 48, 48]⟩ : ByteArray) ++ t367) ++ (⟨#[48, 48]⟩ : ByteArray)).size : Int)) = true := decide_eq_true c30
                            try have c30n0 : decide (x30_1 < (8 + (t367.size : Int) + 2)) = true := by have c_ := c30b0; simp only [ByteArray.size_append, Int.natCast_add] at c_; exact c_
                            try have c30m0 := eq_true (of_decide_eq_true c30n0)
                            clear c30
                            by_cases c32 : (bt (((⟨#[48, 48, 58, 48, 48, 58, 48, 48]⟩ : ByteArray) ++ t367) ++ (⟨#[48, 48]⟩ : ByteArray)) x30_1) = 48
                            · rw [if_pos c32] at H
                              have c32b0 : ((bt (((⟨#[48, 48, 58, 48, 48, 58, 48, 48]⟩ : ByteArray) ++ t367) ++ (⟨#[48, 48]⟩ : ByteArray)) x30_1) == 48) = true := beq_iff_eq.mpr c32
                              have c32b1 : ((bt (((⟨#[48, 48, 58, 48, 48, 58, 48, 48]⟩ : ByteArray) ++ t367) ++ (⟨#[48, 48]⟩ : ByteArray)) x30_1) != 48) = false := bne_eq_false_iff_eq.mpr c32
                              clear c32
                              by_cases c33 : x30_1 < (a1.size : Int)
                              · rw [if_pos c33] at H
                                have c33b0 : decide (x30_1 < (a1.size : Int)) = true := decide_eq_true c33
                                clear c33
                                by_cases c35 : (bt a1 x30_1) < 48
                                · rw [if_pos c35] at H
                                  have c35b0 : decide ((bt a1 x30_1) < 48) = true := decide_eq_true c35
                                  clear c35
                                  have H' := Aside0.mk H
                                  clear H
                                  have p31 : 0 ≤ (x30_1 : Int) := of_decide_eq_true (by first | (with_reducible assumption) | assumption)
                                  have q31 : x30_1 < ((((⟨#[48, 48, 58, 48, 48, 58, 48, 48]⟩ : ByteArray) ++ t367) ++ (⟨#[48, 48]⟩ : ByteArray)).size : Int) := of_decide_eq_true (by first | (with_reducible assumption) | assumption)
                                  have hx31 := bt_at (((⟨#[48, 48, 58, 48, 48, 58, 48, 48]⟩ : ByteArray) ++ t367) ++ (⟨#[48, 48]⟩ : ByteArray)) x30_1
                                  replace p31 := eq_true p31
                                  replace q31 := eq_true q31
                                  have p34 : 0 ≤ (x30_1 : Int) := of_decide_eq_true (by first | (with_reducible assumption) | assumption)
                                  have q34 : x30_1 < (a1.size : Int) := of_decide_eq_true (by first | (with_reducible assumption) | assumption)
                                  have hx34 := bt_at a1 x30_1
                                  replace p34 := eq_true p34
                                  replace q34 := eq_true q34
                                  go_wp2
                                  go_meet
                                  case rel => exact ⟨_, (true), (by first | rfl | (simp; done) | (simp [*]; done)), H', ⟨by have := HK1.out; have := HJ16.out; first | omega | exact Nat.le_refl _⟩, ⟨by (with_reducible repeat (first | apply Kd.R_alloc | apply Kd.R_drewN | apply Kd.R_drew)); exact HO_8.out⟩, ⟨by (with_reducible repeat (first | refine blk_drewN ?_ _ | refine blk_drew ?_ | refine blk_alloc ?_ _)); exact BK364.out⟩, ⟨by (with_reducible repeat (first | refine blk_drewN ?_ _ | refine blk_drew ?_ | refine blk_alloc ?_ _)); exact BK365.out⟩, ⟨by repeat (first | (with_reducible first | exact HB.out | apply below_alloc | apply pw_below_drewN | apply below_drew1 | refine below_set ?_ GE364.out | refine below_set ?_ GE365.out) | exact HB.out)⟩⟩
                                · rw [if_neg c35] at H
                                  have c35b0 : decide ((bt a1 x30_1) < 48) = false := decide_eq_false c35
                                  clear c35
                                  have H' := Aside0.mk H
                                  clear H
                                  have p31 : 0 ≤ (x30_1 : Int) := of_decide_eq_true (by first | (with_reducible assumption) | assumption)
                                  have q31 : x30_1 < ((((⟨#[48, 48, 58, 48, 48, 58, 48, 48]⟩ : ByteArray) ++ t367) ++ (⟨#[48, 48]⟩ : ByteArray)).size : Int) := of_decide_eq_true (by first | (with_reducible assumption) | assumption)
                                  have hx31 := bt_at (((⟨#[48, 48, 58, 48, 48, 58, 48, 48]⟩ : ByteArray) ++ t367) ++ (⟨#[48, 48]⟩ : ByteArray)) x30_1
                                  replace p31 := eq_true p31
                                  replace q31 := eq_true q31
                                  have p34 : 0 ≤ (x30_1 : Int) := of_decide_eq_true (by first | (with_reducible assumption) | assumption)
                                  have q34 : x30_1 < (a1.size : Int) := of_decide_eq_true (by first | (with_reducible assumption) | assumption)
                                  have hx34 := bt_at a1 x30_1
                                  replace p34 := eq_true p34
                                  replace q34 := eq_true q34
                                  have p36 : 0 ≤ (x30_1 : Int) := of_decide_eq_true (by first | (with_reducible assumption) | assumption)
                                  have q36 : x30_1 < (a1.size : Int) := of_decide_eq_true (by first | (with_reducible assumption) | assumption)
                                  have hx36 := bt_at a1 x30_1
                                  replace p36 := eq_true p36
                                  replace q36 := eq_true q36
                                  go_wp2
                                  go_meet
                                  case rel => exact ⟨_, (decide ((bt a1 x30_1) > 57)), (by first | rfl | (simp; done) | (simp [*]; done)), H', ⟨by have := HK1.out; have := HJ16.out; first | omega | exact Nat.le_refl _⟩, ⟨by (with_reducible repeat (first | apply Kd.R_alloc | apply Kd.R_drewN | apply Kd.R_drew)); exact HO_8.out⟩, ⟨by (with_reducible repeat (first | refine blk_drewN ?_ _ | refine blk_drew ?_ | refine blk_alloc ?_ _)); exact BK364.out⟩, ⟨by (with_reducible repeat (first | refine blk_drewN ?_ _ | refine blk_drew ?_ | refine blk_alloc ?_ _)); exact BK365.out⟩, ⟨by repeat (first | (with_reducible first | exact HB.out | apply below_alloc | apply pw_below_drewN | apply below_drew1 | refine below_set ?_ GE364.out | refine below_set ?_ GE365.out) | exact HB.out)⟩⟩
                              · rw [if_neg c33] at H
                                exact absurd H (by simp)
                            · rw [if_neg c32] at H
                              have c32b0 : ((bt (((⟨#[48, 48, 58, 48, 48, 58, 48, 48]⟩ : ByteArray) ++ t367) ++ (⟨#[48, 48]⟩ : ByteArray)) x30_1) == 48) = false := beq_eq_false_iff_ne.mpr c32
                              have c32b1 : ((bt (((⟨#[48, 48, 58, 48, 48, 58, 48, 48]⟩ : ByteArray) ++ t367) ++ (⟨#[48, 48]⟩ : ByteArray)) x30_1) != 48) = true := bne_iff_ne.mpr c32
                              have H' := Aside0.mk H
                              clear H
                              have p31 : 0 ≤ (x30_1 : Int) := of_decide_eq_true (by first | (with_reducible assumption) | assumption)
                              have q31 : x30_1 < ((((⟨#[48, 48, 58, 48, 48, 58, 48, 48]⟩ : ByteArray) ++ t367) ++ (⟨#[48, 48]⟩ : ByteArray)).size : Int) := of_decide_eq_true (by first | (with_reducible assumption) | assumption)
                              have hx31 := bt_at (((⟨#[48, 48, 58, 48, 48, 58, 48, 48]⟩ : ByteArray) ++ t367) ++ (⟨#[48, 48]⟩ : ByteArray)) x30_1
                              replace p31 := eq_true p31
                              replace q31 := eq_true q31
                              go_wp2
                              go_meet
                              case rel => exact ⟨_, (false), (by first | rfl | (simp; done) | (simp [*]; done)), H', ⟨by have := HK1.out; have := HJ16.out; first | omega | exact Nat.le_refl _⟩, ⟨by (with_reducible repeat (first | apply Kd.R_alloc | apply Kd.R_drewN | apply Kd.R_drew)); exact HO_8.out⟩, ⟨by (with_reducible repeat (first | refine blk_drewN ?_ _ | refine blk_drew ?_ | refine blk_alloc ?_ _)); exact BK364.out⟩, ⟨by (with_reducible repeat (first | refine blk_drewN ?_ _ | refine blk_drew ?_ | refine blk_alloc ?_ _)); exact BK365.out⟩, ⟨by repeat (first | (with_reducible first | exact HB.out | apply below_alloc | apply pw_below_drewN | apply below_drew1 | refine below_set ?_ GE364.out | refine below_set ?_ GE365.out) | exact HB.out)⟩⟩
                          · rw [if_neg c30] at H
                            exact absurd H (by simp)
                        · rw [if_neg c29] at H
                          exact absurd H (by simp)
                    case rest =>
                      clear HC27
                      try clear c1
                      try clear c2
                      try clear p2
                      try clear q2
                      try clear hx2
                      try clear c3
                      try clear p3
                      try clear q3
                      try clear hx3
                      try clear c4
                      try clear c4b0
                      try clear c4b1
                      try clear c6
                      try clear c6b0
                      try clear c6b1
                      try clear c6b2
                      try clear c7
                      try clear c7b0
                      try clear c7b1
                      try clear c7b2
                      try clear c8
                      try clear c8b0
                      try clear c8b1
                      try clear c8b2
                      try clear c11
                      try clear c16
                      try clear c16b0
                      try clear c18
                      try clear c18b0
                      try clear c19
                      try clear c19b0
                      try clear p20
                      try clear q20
                      try clear hx20
                      try clear c21
                      try clear c21b0
                      try clear c21b1
                      try clear c23
                      try clear c23b0
                      try clear p24
                      try clear q24
                      try clear hx24
                      try clear c25
                      try clear p25
                      try clear q25
                      try clear hx25
                      try clear c27
                      try clear c28
                      try clear c29
                      try clear c29b0
                      try clear c30
                      try clear c30b0
                      try clear p31
                      try clear q31
                      try clear hx31
                      try clear c32
                      try clear c32b0
                      try clear c32b1
                      try clear c33
                      try clear c33b0
                      try clear p34
                      try clear q34
                      try clear hx34
                      try clear c35
                      try clear c35b0
                      try clear p36
                      try clear q36
                      try clear hx36
                      try clear hcz12_0
                      try clear hcz12_1
                      try clear hcz14_0
                      try clear hcz14_1
                      try clear hfz12_0
                      try clear hfz12_1
                      try clear hfz14_0
                      try clear hfz14_1
                      try clear p2
                      try clear p20
                      try clear p24
                      try clear p25
                      try clear p31
                      try clear p34
                      try clear p36
                      try clear q2
                      try clear q20
                      try clear q24
                      try clear q25
                      try clear q31
                      try clear q34
                      try clear q36
                      obtain ⟨kq, x33_26, rfl, HA, HJ26, HO_8, BK364, BK365, HB⟩ := hcut
                      cases kq with
                      | zero => exact absurd HA.out (by simp [code_Parse.j2])
                      | succ kj26 =>
                        have H := HA.out
                        clear HA
                        simp only [code_Parse.j2] at H
                        by_cases c37 : x33_26 = true
                        · subst c37
                          have H1 : (some (0, 0, 0, 0, 270)) = some (r1, r2, r3, r4, r5) := by rw [if_pos rfl] at H; exact H
                          clear H
                          have H := H1
                          clear H1
                          simp only [Option.some.injEq, Prod.mk.injEq] at H
                          obtain ⟨rfl, rfl, rfl, rfl, rfl⟩ := H
                          have hnb38 := NB365_364.out
                          have hnc38 := NB364_365.out
                          have hcz39_0 : wc.cell? ⟨gb365, 0, none⟩ = some (.int .i64 x366000_1) := (blk_cell BK365.out 0).trans rfl
                          have hcz39_1 : wc.cell? ⟨gb365, 1, none⟩ = some (.int .i64 x366001_1) := (blk_cell BK365.out 1).trans rfl
                          have hcz39_2 : wc.cell? ⟨gb365, 2, none⟩ = some (.int .i64 x366002_1) := (blk_cell BK365.out 2).trans rfl
                          have hcz39_3 : wc.cell? ⟨gb365, 3, none⟩ = some (.int .i64 x366003_1) := (blk_cell BK365.out 3).trans rfl
                          have hfz39_0 := blk_frozen BK365.out 0
                          have hfz39_1 := blk_frozen BK365.out 1
                          have hfz39_2 := blk_frozen BK365.out 2
                          have hfz39_3 := blk_frozen BK365.out 3
                          go_wp2
                          refine bodyPost_ret (results_ct rfl _ _ gb365 25 #[.int .i64 0, .int .i64 0, .int .i64 0, .int .i64 0] (0, 0) _ rfl (by (with_reducible repeat (first | refine blk_drewN ?_ _ | refine blk_drew ?_ | refine blk_alloc ?_ _)); refine blk_put (cs := #[.int .i64 0, .int .i64 0, .int .i64 0, .int .i64 x366003_1]) ?_ 3 _ rfl; (with_reducible repeat (first | refine blk_drewN ?_ _ | refine blk_drew ?_ | refine blk_alloc ?_ _)); refine blk_put (cs := #[.int .i64 0, .int .i64 0, .int .i64 x366002_1, .int .i64 x366003_1]) ?_ 2 _ rfl; (with_reducible repeat (first | refine blk_drewN ?_ _ | refine blk_drew ?_ | refine blk_alloc ?_ _)); refine blk_put (cs := #[.int .i64 0, .int .i64 x366001_1, .int .i64 x366002_1, .int .i64 x366003_1]) ?_ 1 _ rfl; (with_reducible repeat (first | refine blk_drewN ?_ _ | refine blk_drew ?_ | refine blk_alloc ?_ _)); refine blk_put (cs := #[.int .i64 x366000_1, .int .i64 x366001_1, .int .i64 x366002_1, .int .i64 x366003_1]) ?_ 0 _ rfl; (with_reducible repeat (first | refine blk_drewN ?_ _ | refine blk_drew ?_ | refine blk_alloc ?_ _)); exact BK365.out) Try.underlying25 rfl (by kernel_rfl)) rfl ?_
                          exact ⟨by first | rfl | (simp [errW_none, errW_some] <;> rfl) | (simp [*, errW_none, errW_some] <;> rfl), by repeat (first | (with_reducible first | exact HB.out | apply below_alloc | apply pw_below_drewN | apply below_drew1 | refine below_set ?_ GE364.out | refine below_set ?_ GE365.out) | exact HB.out)⟩
                        · replace c37 := Bool.eq_false_iff.mpr c37
                          subst c37
                          have H1 : (if 0 ≤ x30_1 then (if x30_1 < ((((⟨#[48, 48, 58, 48, 48, 58, 48, 48]⟩ : ByteArray) ++ t367) ++ (⟨#[48, 48]⟩ : ByteArray)).size : Int) then (if (bt (((⟨#[48, 48, 58, 48, 48, 58, 48, 48]⟩ : ByteArray) ++ t367) ++ (⟨#[48, 48]⟩ : ByteArray)) x30_1) = 48 then (if (Int.tmod x30_1 3) = 1 then (if 0 ≤ (wrap64 (x30_1 - 1)) then (if (wrap64 (x30_1 - 1)) < (a1.size : Int) then (if x30_1 < (a1.size : Int) then (if x8_1.length < 17592186044416 then (code_Parse.l0 kj26 a1 (((⟨#[48, 48, 58, 48, 48, 58, 48, 48]⟩ : ByteArray) ++ t367) ++ (⟨#[48, 48]⟩ : ByteArray)) (x8_1 ++ [((((bt a1 (wrap64 (x30_1 - 1))) - 48) % 256) * 10) + (((bt a1 x30_1) - 48) % 256)]) (a1.size : Int) (wrap64 (x30_1 + 1)) a0_0 a0_1) else (none)) else (none)) else (none)) else (none)) else (code_Parse.l0 kj26 a1 (((⟨#[48, 48, 58, 48, 48, 58, 48, 48]⟩ : ByteArray) ++ t367) ++ (⟨#[48, 48]⟩ : ByteArray)) x8_1 (a1.size : Int) (wrap64 (x30_1 + 1)) a0_0 a0_1)) else (code_Parse.l0 kj26 a1 (((⟨#[48, 48, 58, 48, 48, 58, 48, 48]⟩ : ByteArray) ++ t367) ++ (⟨#[48, 48]⟩ : ByteArray)) x8_1 (a1.size : Int) (wrap64 (x30_1 + 1)) a0_0 a0_1)) else (none)) else (none)) = some (r1, r2, r3, r4, r5) := by rw [if_neg (show ¬ (false = true) by decide)] at H; exact H
                          clear H
                          have H := H1
                          clear H1
                          by_cases c40 : 0 ≤ x30_1
                          · rw [if_pos c40] at H
                            have c40b0 : decide (0 ≤ x30_1) = true := decide_eq_true c40
                            clear c40
                            by_cases c41 : x30_1 < ((((⟨#[48, 48, 58, 48, 48, 58, 48, 48]⟩ : ByteArray) ++ t367) ++ (⟨#[48, 48]⟩ : ByteArray)).size : Int)
                            · rw [if_pos c41] at H
                              have c41b0 : decide (x30_1 < ((((⟨#[48, 48, 58, 48, 48, 58, 48, 48]⟩ : ByteArray) ++ t367) ++ (⟨#[48, 48]⟩ : ByteArray)).size : Int)) = true := decide_eq_true c41
                              try have c41n0 : decide (x30_1 < (8 + (t367.size : Int) + 2)) = true := by have c_ := c41b0; simp only [ByteArray.size_append, Int.natCast_add] at c_; exact c_
                              try have c41m0 := eq_true (of_decide_eq_true c41n0)
                              clear c41
                              by_cases c43 : (bt (((⟨#[48, 48, 58, 48, 48, 58, 48, 48]⟩ : ByteArray) ++ t367) ++ (⟨#[48, 48]⟩ : ByteArray)) x30_1) = 48
                              · rw [if_pos c43] at H
                                have c43b0 : ((bt (((⟨#[48, 48, 58, 48, 48, 58, 48, 48]⟩ : ByteArray) ++ t367) ++ (⟨#[48, 48]⟩ : ByteArray)) x30_1) == 48) = true := beq_iff_eq.mpr c43
                                have c43b1 : ((bt (((⟨#[48, 48, 58, 48, 48, 58, 48, 48]⟩ : ByteArray) ++ t367) ++ (⟨#[48, 48]⟩ : ByteArray)) x30_1) != 48) = false := bne_eq_false_iff_eq.mpr c43
                                clear c43
                                by_cases c44 : (Int.tmod x30_1 3) = 1
                                · rw [if_pos c44] at H
                                  have c44b0 : ((Int.tmod x30_1 3) == 1) = true := beq_iff_eq.mpr c44
                                  have c44b1 : ((Int.tmod x30_1 3) != 1) = false := bne_eq_false_iff_eq.mpr c44
                                  clear c44
                                  obtain ⟨ji45, hji45⟩ : ∃ j_ : Int, (wrap64 (x30_1 - 1)) = j_ := ⟨_, rfl⟩
                                  replace H : (if 0 ≤ (ji45) then (if (ji45) < (a1.size : Int) then (if x30_1 < (a1.size : Int) then (if x8_1.length < 17592186044416 then (code_Parse.l0 kj26 a1 (((⟨#[48, 48, 58, 48, 48, 58, 48, 48]⟩ : ByteArray) ++ t367) ++ (⟨#[48, 48]⟩ : ByteArray)) (x8_1 ++ [((((bt a1 (ji45)) - 48) % 256) * 10) + (((bt a1 x30_1) - 48) % 256)]) (a1.size : Int) (wrap64 (x30_1 + 1)) a0_0 a0_1) else (none)) else (none)) else (none)) else (none)) = some (r1, r2, r3, r4, r5) := by first | (rw [hji45] at H; exact H) | (simp only [hji45] at H ⊢; exact H)
                                  have hji45w : (IntKind.i64.wrap (x30_1 - 1)) = ji45 := (i64_w _).trans hji45
                                  by_cases c46 : 0 ≤ (ji45)
                                  · rw [if_pos c46] at H
                                    have c46b0 : decide (0 ≤ (ji45)) = true := decide_eq_true c46
                                    clear c46
                                    by_cases c47 : (ji45) < (a1.size : Int)
                                    · rw [if_pos c47] at H
                                      have c47b0 : decide ((ji45) < (a1.size : Int)) = true := decide_eq_true c47
                                      clear c47
                                      by_cases c49 : x30_1 < (a1.size : Int)
                                      · rw [if_pos c49] at H
                                        have c49b0 : decide (x30_1 < (a1.size : Int)) = true := decide_eq_true c49
                                        clear c49
                                        by_cases c51 : x8_1.length < 17592186044416
                                        · rw [if_pos c51] at H
                                          have LMc51 := Aside0.mk c51
                                          clear c51
                                          obtain ⟨y374, hy374⟩ : ∃ y_ : List Int, y_ = (x8_1 ++ [((((bt a1 (ji45)) - 48) % 256) * 10) + (((bt a1 x30_1) - 48) % 256)]) := ⟨_, rfl⟩
                                          replace H : (code_Parse.l0 kj26 a1 (((⟨#[48, 48, 58, 48, 48, 58, 48, 48]⟩ : ByteArray) ++ t367) ++ (⟨#[48, 48]⟩ : ByteArray)) y374 (a1.size : Int) (wrap64 (x30_1 + 1)) a0_0 a0_1) = some (r1, r2, r3, r4, r5) := by first | (rw [hy374]; with_reducible exact H) | (have H2_ := (Option.bind_some _ _).symm.trans H; rw [hy374]; with_reducible exact H2_) | (have H2_ := (Option.bind_some _ _).symm.trans H; with_reducible exact H2_) | with_reducible exact H | (rw [hy374]; exact H) | exact H
                                          have Ny374 := Aside0.mk hy374
                                          clear hy374
                                          have H' := Aside0.mk H
                                          clear H
                                          have p42 : 0 ≤ (x30_1 : Int) := of_decide_eq_true (by first | (with_reducible assumption) | assumption)
                                          have q42 : x30_1 < ((((⟨#[48, 48, 58, 48, 48, 58, 48, 48]⟩ : ByteArray) ++ t367) ++ (⟨#[48, 48]⟩ : ByteArray)).size : Int) := of_decide_eq_true (by first | (with_reducible assumption) | assumption)
                                          have hx42 := bt_at (((⟨#[48, 48, 58, 48, 48, 58, 48, 48]⟩ : ByteArray) ++ t367) ++ (⟨#[48, 48]⟩ : ByteArray)) x30_1
                                          replace p42 := eq_true p42
                                          replace q42 := eq_true q42
                                          try go_wp2
                                          have n0_ := Aside0.mk (Kd.R_drew HO_8.out)
                                          have n1_ := Aside0.mk (blk_drew BK364.out)
                                          have n2_ := Aside0.mk (blk_drew BK365.out)
                                          have n3_ := Aside0.mk (below_drew1 HB.out)
                                          clear HO_8
                                          clear BK364
                                          clear BK365
                                          clear HB
                                          have HO_8 := n0_
                                          have BK364 := n1_
                                          have BK365 := n2_
                                          have HB := n3_
                                          clear n0_ n1_ n2_ n3_
                                          have p48 : 0 ≤ ((ji45) : Int) := of_decide_eq_true (by first | (with_reducible assumption) | assumption)
                                          have q48 : (ji45) < (a1.size : Int) := of_decide_eq_true (by first | (with_reducible assumption) | assumption)
                                          have hx48 := bt_at a1 (ji45)
                                          replace p48 := eq_true p48
                                          replace q48 := eq_true q48
                                          have p50 : 0 ≤ (x30_1 : Int) := of_decide_eq_true (by first | (with_reducible assumption) | assumption)
                                          have q50 : x30_1 < (a1.size : Int) := of_decide_eq_true (by first | (with_reducible assumption) | assumption)
                                          have hx50 := bt_at a1 x30_1
                                          replace p50 := eq_true p50
                                          replace q50 := eq_true q50
                                          refine start_ (n := 17) (S := fun w' => True) (ds := []) #[false, false, false, false, false, false, false, false, false, false, false, false, false, false, false, false, false] (by kernel_rfl) rfl rfl trivial (fun hHeld => ?_); refine with_tabW code_Parse.tab15 code_Parse.bits15 (fun HT_ HW_ => ?_)
                                          generalize wc.drew = w52 at HO_8 BK364 BK365 HB hHeld ⊢
                                          refine pure_ (i := 0) (N := some 74) (v := ?_) (a' := ?_) #[true, false, false, false, false, false, false, false, false, false, false, false, false, false, false, false, false] rfl rfl (any_of HT_.out (by kernel_rfl)) (fun _ _ _ h => h) (Or.inl ⟨by rfl, ?_⟩) ?_ ?_
                                          rotate_left
                                          · intro w'
                                            go_simp
                                            with_reducible rfl
                                          rotate_left
                                          · simp only [Act.put, List.setIfInBounds_toArray, List.set_cons_zero, List.set_cons_succ, i64_w, i32_w]
                                            rfl
                                          refine pure_ (i := 1) (N := some 75) (v := ?_) (a' := ?_) #[true, true, false, false, false, false, false, false, false, false, false, false, false, false, false, false, false] rfl rfl (any_of HT_.out (by kernel_rfl)) (fun _ _ _ h => h) (Or.inl ⟨by rfl, ?_⟩) ?_ ?_
                                          rotate_left
                                          · intro w'
                                            go_simp
                                            with_reducible rfl
                                          rotate_left
                                          · simp only [Act.put, List.setIfInBounds_toArray, List.set_cons_zero, List.set_cons_succ, i64_w, i32_w]
                                            rfl
                                          refine pure_ (i := 2) (N := some 76) (v := ?_) (a' := ?_) #[true, true, true, false, false, false, false, false, false, false, false, false, false, false, false, false, false] rfl rfl (any_of HT_.out (by kernel_rfl)) (fun _ _ _ h => h) (Or.inl ⟨by rfl, ?_⟩) ?_ ?_
                                          rotate_left
                                          · intro w'
                                            go_simp
                                            with_reducible rfl
                                          rotate_left
                                          · simp only [Act.put, List.setIfInBounds_toArray, List.set_cons_zero, List.set_cons_succ, i64_w, i32_w]
                                            rfl
                                          refine pure_ (i := 3) (N := some 77) (v := ?_) (a' := ?_) #[true, true, true, true, false, false, false, false, false, false, false, false, false, false, false, false, false] rfl rfl (any_of HT_.out (by kernel_rfl)) (fun _ _ _ h => h) (Or.inl ⟨by rfl, ?_⟩) ?_ ?_
                                          rotate_left
                                          · intro w'
                                            go_simp
                                            with_reducible rfl
                                          rotate_left
                                          · simp only [Act.put, List.setIfInBounds_toArray, List.set_cons_zero, List.set_cons_succ, i64_w, i32_w]
                                            rfl
                                          refine pure_ (i := 8) (N := some 82) (v := ?_) (a' := ?_) #[true, true, true, true, false, false, false, false, true, false, false, false, false, false, false, false, false] rfl rfl (any_of HT_.out (by kernel_rfl)) (fun _ _ _ h => h) (Or.inl ⟨by rfl, ?_⟩) ?_ ?_
                                          rotate_left
                                          · intro w'
                                            go_simp
                                            with_reducible rfl
                                          rotate_left
                                          · simp only [Act.put, List.setIfInBounds_toArray, List.set_cons_zero, List.set_cons_succ, i64_w, i32_w]
                                            rfl
                                          refine pure_ (i := 9) (N := some 83) (v := ?_) (a' := ?_) #[true, true, true, true, false, false, false, false, true, true, false, false, false, false, false, false, false] rfl rfl (any_of HT_.out (by kernel_rfl)) (fun _ _ _ h => h) (Or.inl ⟨by rfl, ?_⟩) ?_ ?_
                                          rotate_left
                                          · intro w'
                                            go_simp
                                            with_reducible rfl
                                          rotate_left
                                          · simp only [Act.put, List.setIfInBounds_toArray, List.set_cons_zero, List.set_cons_succ, i64_w, i32_w]
                                            rfl
                                          refine take_ (i := 4) (N := some 78) (v := ?_) (a' := ?_) #[true, true, true, true, true, false, false, false, true, true, false, false, false, false, false, false, false] rfl rfl (take_ofW HT_.out HW_.out (by kernel_rfl)) (fun _ _ _ h => h) (Or.inl ⟨by rfl, ?_⟩) hHeld ?_ ?_
                                          rotate_left
                                          · intro w' _
                                            go_simp
                                            with_reducible rfl
                                          rotate_left
                                          · simp only [Act.put, List.setIfInBounds_toArray, List.set_cons_zero, List.set_cons_succ, i64_w, i32_w]
                                            rfl
                                          refine pure_ (i := 5) (N := some 79) (v := ?_) (a' := ?_) #[true, true, true, true, true, true, false, false, true, true, false, false, false, false, false, false, false] rfl rfl (any_of HT_.out (by kernel_rfl)) (fun _ _ _ h => h) (Or.inl ⟨by rfl, ?_⟩) ?_ ?_
                                          rotate_left
                                          · intro w'
                                            go_simp
                                            with_reducible rfl
                                          rotate_left
                                          · simp only [Act.put, List.setIfInBounds_toArray, List.set_cons_zero, List.set_cons_succ, i64_w, i32_w]
                                            rfl
                                          refine pure_ (i := 6) (N := some 80) (v := ?_) (a' := ?_) #[true, true, true, true, true, true, true, false, true, true, false, false, false, false, false, false, false] rfl rfl (any_of HT_.out (by kernel_rfl)) (fun _ _ _ h => h) (Or.inl ⟨by rfl, ?_⟩) ?_ ?_
                                          rotate_left
                                          · intro w'
                                            go_simp
                                            with_reducible rfl
                                          rotate_left
                                          · simp only [Act.put, List.setIfInBounds_toArray, List.set_cons_zero, List.set_cons_succ, i64_w, i32_w]
                                            rfl
                                          refine pure_ (i := 7) (N := some 81) (v := ?_) (a' := ?_) #[true, true, true, true, true, true, true, true, true, true, false, false, false, false, false, false, false] rfl rfl (any_of HT_.out (by kernel_rfl)) (fun _ _ _ h => h) (Or.inl ⟨by rfl, ?_⟩) ?_ ?_
                                          rotate_left
                                          · intro w'
                                            go_simp
                                            with_reducible rfl
                                          rotate_left
                                          · simp only [Act.put, List.setIfInBounds_toArray, List.set_cons_zero, List.set_cons_succ, i64_w, i32_w]
                                            rfl
                                          refine take_ (i := 10) (N := some 84) (v := ?_) (a' := ?_) #[true, true, true, true, true, true, true, true, true, true, true, false, false, false, false, false, false] rfl rfl (take_ofW HT_.out HW_.out (by kernel_rfl)) (fun _ _ _ h => h) (Or.inl ⟨by rfl, ?_⟩) hHeld ?_ ?_
                                          rotate_left
                                          · intro w' _
                                            go_simp
                                            with_reducible rfl
                                          rotate_left
                                          · simp only [Act.put, List.setIfInBounds_toArray, List.set_cons_zero, List.set_cons_succ, i64_w, i32_w]
                                            rfl
                                          refine pure_ (i := 11) (N := some 85) (v := ?_) (a' := ?_) #[true, true, true, true, true, true, true, true, true, true, true, true, false, false, false, false, false] rfl rfl (any_of HT_.out (by kernel_rfl)) (fun _ _ _ h => h) (Or.inl ⟨by rfl, ?_⟩) ?_ ?_
                                          rotate_left
                                          · intro w'
                                            go_simp
                                            with_reducible rfl
                                          rotate_left
                                          · simp only [Act.put, List.setIfInBounds_toArray, List.set_cons_zero, List.set_cons_succ, i64_w, i32_w]
                                            rfl
                                          refine pure_ (i := 12) (N := some 86) (v := ?_) (a' := ?_) #[true, true, true, true, true, true, true, true, true, true, true, true, true, false, false, false, false] rfl rfl (any_of HT_.out (by kernel_rfl)) (fun _ _ _ h => h) (Or.inl ⟨by rfl, ?_⟩) ?_ ?_
                                          rotate_left
                                          · intro w'
                                            go_simp
                                            with_reducible rfl
                                          rotate_left
                                          · simp only [Act.put, List.setIfInBounds_toArray, List.set_cons_zero, List.set_cons_succ, i64_w, i32_w]
                                            rfl
                                          refine pure_ (i := 13) (N := some 87) (v := ?_) (a' := ?_) #[true, true, true, true, true, true, true, true, true, true, true, true, true, true, false, false, false] rfl rfl (any_of HT_.out (by kernel_rfl)) (fun _ _ _ h => h) (Or.inl ⟨by rfl, ?_⟩) ?_ ?_
                                          rotate_left
                                          · intro w'
                                            go_simp
                                            with_reducible rfl
                                          rotate_left
                                          · simp only [Act.put, List.setIfInBounds_toArray, List.set_cons_zero, List.set_cons_succ, i64_w, i32_w]
                                            rfl
                                          refine one_ (i := 14) (N := some 88) #[true, true, true, true, true, true, true, true, true, true, true, true, true, true, true, false, false] rfl rfl (one_of HT_.out (by kernel_rfl)) (by decide) (fun K hK => ?_)
                                          refine value_ (w1 := ?_) (v := ?_) (by rfl) rfl ?_ ?_
                                          rotate_left 2
                                          · go_simp
                                            constructor
                                            · rfl
                                            · rfl
                                          refine hK.out _ _ trivial (fun hHeld => ?_)
                                          clear hK K
                                          refine norm_ (a' := ?_) ?_ ?_
                                          rotate_left
                                          · show Act.put _ (some 88) _ = _
                                            simp only [Act.put, List.setIfInBounds_toArray, List.set_cons_zero, List.set_cons_succ, i64_w, i32_w]
                                            rfl
                                          refine one_ (i := 15) (N := some 89) #[true, true, true, true, true, true, true, true, true, true, true, true, true, true, true, true, false] rfl rfl (one_of HT_.out (by kernel_rfl)) (by decide) (fun K hK => ?_)
                                          rw [show wrap64 (wrap64 (wrap64 (IntKind.u8.wrap (bt a1 ji45 - 48)) * 10) + wrap64 (IntKind.u8.wrap (bt a1 x30_1 - 48))) = (((((bt a1 (ji45)) - 48) % 256) * 10) + (((bt a1 x30_1) - 48) % 256)) from by rw [IntKind.wrap_u8, IntKind.wrap_u8]; unfold wrap64; omega]   -- fix_parse
                                          refine Kd.R_append_step (Kd.int .i64) (w0 := w) w.heap.size (by rfl) (.tmp 74) (.tmp 88) 55 3 (.int .i64 0) 8 rfl Try.underlying55 info3 rfl (by decide) (by omega) u8 x8_1 (((((bt a1 (ji45)) - 48) % 256) * 10) + (((bt a1 x30_1) - 48) % 256)) [.int .i64 (((((bt a1 (ji45)) - 48) % 256) * 10) + (((bt a1 x30_1) - 48) % 256))] (fun _ => True) (fun _ => False) rfl rfl ?aP (fun _ hk => hk.elim) ?aF ?aO ?aB ?aS ?aL ?_
                                          (case aP => exact rfl)
                                          (case aB => exact (by repeat (first | (with_reducible first | exact HB.out | apply below_alloc | apply pw_below_drewN | apply below_drew1 | refine below_set ?_ GE364.out | refine below_set ?_ GE365.out) | exact HB.out)))
                                          (case aF => exact (fun _ _ => trivial))
                                          (case aO => exact (by (with_reducible repeat (first | apply Kd.R_alloc | apply Kd.R_drewN | apply Kd.R_drew)); exact HO_8.out))
                                          (case aS => exact (below_size (by repeat (first | (with_reducible first | exact HB.out | apply below_alloc | apply pw_below_drewN | apply below_drew1 | refine below_set ?_ GE364.out | refine below_set ?_ GE365.out) | exact HB.out))))
                                          (case aL => have := LMc51.out; omega)
                                          intro v375 w53 ho hb hg hat
                                          rw [← Ny374.out] at ho
                                          have n0_ := Aside0.mk (blk_grown (g := gb364) (o := .cells #[.int .i64 a0_0, .bool a0_1] 23 (0, 0)) (by (with_reducible repeat (first | refine blk_drewN ?_ _ | refine blk_drew ?_ | refine blk_alloc ?_ _)); exact BK364.out) hg (Kd.R_ne HO_8.out BK364.out (by decide)))
                                          have n1_ := Aside0.mk (blk_grown (g := gb365) (o := .cells #[.int .i64 x366000_1, .int .i64 x366001_1, .int .i64 x366002_1, .int .i64 x366003_1] 25 (0, 0)) (by (with_reducible repeat (first | refine blk_drewN ?_ _ | refine blk_drew ?_ | refine blk_alloc ?_ _)); exact BK365.out) hg (Kd.R_ne HO_8.out BK365.out (by decide)))
                                          have n2_ := Aside0.mk (hb)
                                          have n3_ := Aside0.mk (ho)
                                          clear BK364
                                          clear BK365
                                          clear HB
                                          clear HO_8
                                          have BK364 := n0_
                                          have BK365 := n1_
                                          have HB := n2_
                                          have HO376 := n3_
                                          clear n0_ n1_ n2_ n3_
                                          clear ho hb hg hat
                                          refine hK.out _ _ trivial (fun hHeld => ?_)
                                          clear hK K
                                          refine norm_ (a' := ?_) ?_ ?_
                                          rotate_left
                                          · show Act.put _ (some 89) _ = _
                                            simp only [Act.put, List.setIfInBounds_toArray, List.set_cons_zero, List.set_cons_succ, i64_w, i32_w]
                                            rfl
                                          refine pure_ (i := 16) (N := some 8) (v := ?_) (a' := ?_) #[true, true, true, true, true, true, true, true, true, true, true, true, true, true, true, true, true] rfl rfl (any_of HT_.out (by kernel_rfl)) (fun _ _ _ h => h) (Or.inl ⟨by rfl, ?_⟩) ?_ ?_
                                          rotate_left
                                          · intro w'
                                            go_simp
                                            with_reducible rfl
                                          rotate_left
                                          · simp only [Act.put, List.setIfInBounds_toArray, List.set_cons_zero, List.set_cons_succ, i64_w, i32_w]
                                            rfl
                                          refine done_ (done_of HT_.out (by kernel_rfl)) ?_
                                          try go_wp2
                                          go_roundg kj26
                                          case measure => have := HK1.out; have := HJ16.out; have := HJ26.out; omega
                                          case rel => exact ⟨(y374), (wrap64 (x30_1 + 1)), (x366000_1), (x366001_1), (x366002_1), (x366003_1), (by first | rfl | (simp; done) | (simp [*]; done)), H', ⟨by have := HK1.out; have := HJ16.out; have := HJ26.out; omega⟩, ⟨by (with_reducible repeat (first | apply Kd.R_alloc | apply Kd.R_drewN | apply Kd.R_drew)); exact HO376.out⟩, ⟨by (with_reducible repeat (first | refine blk_drewN ?_ _ | refine blk_drew ?_ | refine blk_alloc ?_ _)); exact BK364.out⟩, ⟨by (with_reducible repeat (first | refine blk_drewN ?_ _ | refine blk_drew ?_ | refine blk_alloc ?_ _)); exact BK365.out⟩, ⟨by repeat (first | (with_reducible first | exact HB.out | apply below_alloc | apply pw_below_drewN | apply below_drew1 | refine below_set ?_ GE364.out | refine below_set ?_ GE365.out) | exact HB.out)⟩⟩
                                        · rw [if_neg c51] at H
                                          exact absurd H (by simp)
                                      · rw [if_neg c49] at H
                                        exact absurd H (by simp)
                                    · rw [if_neg c47] at H
                                      exact absurd H (by simp)
                                  · rw [if_neg c46] at H
                                    exact absurd H (by simp)
                                · rw [if_neg c44] at H
                                  have c44b0 : ((Int.tmod x30_1 3) == 1) = false := beq_eq_false_iff_ne.mpr c44
                                  have c44b1 : ((Int.tmod x30_1 3) != 1) = true := bne_iff_ne.mpr c44
                                  have H' := Aside0.mk H
                                  clear H
                                  have p42 : 0 ≤ (x30_1 : Int) := of_decide_eq_true (by first | (with_reducible assumption) | assumption)
                                  have q42 : x30_1 < ((((⟨#[48, 48, 58, 48, 48, 58, 48, 48]⟩ : ByteArray) ++ t367) ++ (⟨#[48, 48]⟩ : ByteArray)).size : Int) := of_decide_eq_true (by first | (with_reducible assumption) | assumption)
                                  have hx42 := bt_at (((⟨#[48, 48, 58, 48, 48, 58, 48, 48]⟩ : ByteArray) ++ t367) ++ (⟨#[48, 48]⟩ : ByteArray)) x30_1
                                  replace p42 := eq_true p42
                                  replace q42 := eq_true q42
                                  go_wp2
                                  go_roundg kj26
                                  case measure => have := HK1.out; have := HJ16.out; have := HJ26.out; omega
                                  case rel => exact ⟨(x8_1), (wrap64 (x30_1 + 1)), (x366000_1), (x366001_1), (x366002_1), (x366003_1), (by first | rfl | (simp; done) | (simp [*]; done)), H', ⟨by have := HK1.out; have := HJ16.out; have := HJ26.out; omega⟩, ⟨by (with_reducible repeat (first | apply Kd.R_alloc | apply Kd.R_drewN | apply Kd.R_drew)); exact HO_8.out⟩, ⟨by (with_reducible repeat (first | refine blk_drewN ?_ _ | refine blk_drew ?_ | refine blk_alloc ?_ _)); exact BK364.out⟩, ⟨by (with_reducible repeat (first | refine blk_drewN ?_ _ | refine blk_drew ?_ | refine blk_alloc ?_ _)); exact BK365.out⟩, ⟨by repeat (first | (with_reducible first | exact HB.out | apply below_alloc | apply pw_below_drewN | apply below_drew1 | refine below_set ?_ GE364.out | refine below_set ?_ GE365.out) | exact HB.out)⟩⟩
                              · rw [if_neg c43] at H
                                have c43b0 : ((bt (((⟨#[48, 48, 58, 48, 48, 58, 48, 48]⟩ : ByteArray) ++ t367) ++ (⟨#[48, 48]⟩ : ByteArray)) x30_1) == 48) = false := beq_eq_false_iff_ne.mpr c43
                                have c43b1 : ((bt (((⟨#[48, 48, 58, 48, 48, 58, 48, 48]⟩ : ByteArray) ++ t367) ++ (⟨#[48, 48]⟩ : ByteArray)) x30_1) != 48) = true := bne_iff_ne.mpr c43
                                have H' := Aside0.mk H
                                clear H
                                have p42 : 0 ≤ (x30_1 : Int) := of_decide_eq_true (by first | (with_reducible assumption) | assumption)
                                have q42 : x30_1 < ((((⟨#[48, 48, 58, 48, 48, 58, 48, 48]⟩ : ByteArray) ++ t367) ++ (⟨#[48, 48]⟩ : ByteArray)).size : Int) := of_decide_eq_true (by first | (with_reducible assumption) | assumption)
                                have hx42 := bt_at (((⟨#[48, 48, 58, 48, 48, 58, 48, 48]⟩ : ByteArray) ++ t367) ++ (⟨#[48, 48]⟩ : ByteArray)) x30_1
                                replace p42 := eq_true p42
                                replace q42 := eq_true q42
                                go_wp2
                                go_roundg kj26
                                case measure => have := HK1.out; have := HJ16.out; have := HJ26.out; omega
                                case rel => exact ⟨(x8_1), (wrap64 (x30_1 + 1)), (x366000_1), (x366001_1), (x366002_1), (x366003_1), (by first | rfl | (simp; done) | (simp [*]; done)), H', ⟨by have := HK1.out; have := HJ16.out; have := HJ26.out; omega⟩, ⟨by (with_reducible repeat (first | apply Kd.R_alloc | apply Kd.R_drewN | apply Kd.R_drew)); exact HO_8.out⟩, ⟨by (with_reducible repeat (first | refine blk_drewN ?_ _ | refine blk_drew ?_ | refine blk_alloc ?_ _)); exact BK364.out⟩, ⟨by (with_reducible repeat (first | refine blk_drewN ?_ _ | refine blk_drew ?_ | refine blk_alloc ?_ _)); exact BK365.out⟩, ⟨by repeat (first | (with_reducible first | exact HB.out | apply below_alloc | apply pw_below_drewN | apply below_drew1 | refine below_set ?_ GE364.out | refine below_set ?_ GE365.out) | exact HB.out)⟩⟩
                            · rw [if_neg c41] at H
                              exact absurd H (by simp)
                          · rw [if_neg c40] at H
                            exact absurd H (by simp)
              · rw [if_neg c16] at H
                have c16b0 : decide (x30_1 < (a1.size : Int)) = false := decide_eq_false c16
                clear c16
                by_cases c54 : 0 < (x8_1.length : Int)
                · rw [if_pos c54] at H
                  have c54b0 : decide (0 < (x8_1.length : Int)) = true := decide_eq_true c54
                  have c54b1 : decide (0 < x8_1.length) = true := decide_eq_true (by omega)
                  clear c54
                  by_cases c55 : 1 < (x8_1.length : Int)
                  · rw [if_pos c55] at H
                    have c55b0 : decide (1 < (x8_1.length : Int)) = true := decide_eq_true c55
                    have c55b1 : decide (1 < x8_1.length) = true := decide_eq_true (by omega)
                    clear c55
                    by_cases c56 : 2 < (x8_1.length : Int)
                    · rw [if_pos c56] at H
                      have c56b0 : decide (2 < (x8_1.length : Int)) = true := decide_eq_true c56
                      have c56b1 : decide (2 < x8_1.length) = true := decide_eq_true (by omega)
                      clear c56
                      by_cases c57 : 3 < (x8_1.length : Int)
                      · rw [if_pos c57] at H
                        have c57b0 : decide (3 < (x8_1.length : Int)) = true := decide_eq_true c57
                        have c57b1 : decide (3 < x8_1.length) = true := decide_eq_true (by omega)
                        clear c57
                        replace H := Option.bind_eq_some_iff.mp H
                        obtain ⟨t373, A580, H⟩ := H
                        replace H : (if t373 = 0 then (some (rd x8_1 0, rd x8_1 1, rd x8_1 2, rd x8_1 3, 0)) else (some (0, 0, 0, 0, t373))) = some (r1, r2, r3, r4, r5) := H
                        have A58 := Aside0.mk A580
                        clear A580
                        by_cases c59 : t373 = 0
                        · rw [if_pos c59] at H
                          have c59b0 : (t373 == 0) = true := beq_iff_eq.mpr c59
                          have c59b1 : (t373 != 0) = false := bne_eq_false_iff_eq.mpr c59
                          clear c59
                          simp only [Option.some.injEq, Prod.mk.injEq] at H
                          obtain ⟨rfl, rfl, rfl, rfl, rfl⟩ := H
                          try go_wp2
                          have n0_ := Aside0.mk (Kd.R_drew HO_8.out)
                          have n1_ := Aside0.mk (blk_drew BK364.out)
                          have n2_ := Aside0.mk (blk_drew BK365.out)
                          have n3_ := Aside0.mk (below_drew1 HB.out)
                          clear HO_8
                          clear BK364
                          clear BK365
                          clear HB
                          have HO_8 := n0_
                          have BK364 := n1_
                          have BK365 := n2_
                          have HB := n3_
                          clear n0_ n1_ n2_ n3_
                          obtain ⟨Ao61, co61, eo61⟩ := Kd.R_slice HO_8.out
                          (first | subst eo61 | (injection eo61 with f1_ f2_ f3_; have f4_ := f1_.symm; have f5_ := f3_.symm; clear f1_ f2_ f3_; subst f4_; subst f5_))
                          have p368 : 0 ≤ (0 : Int) := (by omega)
                          have q368 : 0 < (x8_1.length : Int) := of_decide_eq_true (by first | (with_reducible assumption) | assumption)
                          obtain ⟨ad368, e368, hx368_0⟩ := Kd.at_int (Kd.R_reads' HO_8.out).2.2 0 p368 q368
                          cases e368
                          have qi368 : (0 < x8_1.length) = True := eq_true (by omega)
                          (try rw [show ((0 : Int)).toNat = 0 from rfl] at hx368_0)
                          (try rw [Addr.add_zero'] at hx368_0)
                          replace p368 := eq_true p368
                          replace q368 := eq_true q368
                          have p369 : 0 ≤ (1 : Int) := (by omega)
                          have q369 : 1 < (x8_1.length : Int) := of_decide_eq_true (by first | (with_reducible assumption) | assumption)
                          obtain ⟨ad369, e369, hx369_0⟩ := Kd.at_int (Kd.R_reads' HO_8.out).2.2 1 p369 q369
                          obtain rfl : ad368 = ad369 := (by injection e369)
                          (try simp only [show (1 : Int).toNat = 1 from rfl, Nat.reduceMul, Nat.reduceEqDiff, Go.Addr.add, ↓reduceIte] at hx369_0)
                          have qi369 : (1 < x8_1.length) = True := eq_true (by omega)
                          (try rw [show ((1 : Int)).toNat = 1 from rfl] at hx369_0)
                          replace p369 := eq_true p369
                          replace q369 := eq_true q369
                          have p370 : 0 ≤ (2 : Int) := (by omega)
                          have q370 : 2 < (x8_1.length : Int) := of_decide_eq_true (by first | (with_reducible assumption) | assumption)
                          obtain ⟨ad370, e370, hx370_0⟩ := Kd.at_int (Kd.R_reads' HO_8.out).2.2 2 p370 q370
                          obtain rfl : ad368 = ad370 := (by injection e370)
                          (try simp only [show (2 : Int).toNat = 2 from rfl, Nat.reduceMul, Nat.reduceEqDiff, Go.Addr.add, ↓reduceIte] at hx370_0)
                          have qi370 : (2 < x8_1.length) = True := eq_true (by omega)
                          (try rw [show ((2 : Int)).toNat = 2 from rfl] at hx370_0)
                          replace p370 := eq_true p370
                          replace q370 := eq_true q370
                          have p371 : 0 ≤ (3 : Int) := (by omega)
                          have q371 : 3 < (x8_1.length : Int) := of_decide_eq_true (by first | (with_reducible assumption) | assumption)
                          obtain ⟨ad371, e371, hx371_0⟩ := Kd.at_int (Kd.R_reads' HO_8.out).2.2 3 p371 q371
                          obtain rfl : ad368 = ad371 := (by injection e371)
                          (try simp only [show (3 : Int).toNat = 3 from rfl, Nat.reduceMul, Nat.reduceEqDiff, Go.Addr.add, ↓reduceIte] at hx371_0)
                          have qi371 : (3 < x8_1.length) = True := eq_true (by omega)
                          (try rw [show ((3 : Int)).toNat = 3 from rfl] at hx371_0)
                          replace p371 := eq_true p371
                          replace q371 := eq_true q371
                          refine start_ (n := 15) (S := fun w' => w'.cell? ad368 = some (.int .i64 (rd x8_1 0)) ∧ w'.cell? ⟨ad368.block, ad368.off + 1, none⟩ = some (.int .i64 (rd x8_1 1)) ∧ w'.cell? ⟨ad368.block, ad368.off + 2, none⟩ = some (.int .i64 (rd x8_1 2)) ∧ w'.cell? ⟨ad368.block, ad368.off + 3, none⟩ = some (.int .i64 (rd x8_1 3))) (ds := []) #[false, false, false, false, false, false, false, false, false, false, false, false, false, false, false] (by kernel_rfl) rfl rfl ⟨hx368_0, hx369_0, hx370_0, hx371_0⟩ (fun hHeld => ?_); refine with_tabW code_Parse.tab17 code_Parse.bits17 (fun HT_ HW_ => ?_)
                          generalize wr.drew = w60 at HO_8 BK364 BK365 HB hx368_0 hx369_0 hx370_0 hx371_0 hHeld ⊢
                          refine pure_ (i := 0) (N := some 91) (v := ?_) (a' := ?_) #[true, false, false, false, false, false, false, false, false, false, false, false, false, false, false] rfl rfl (any_of HT_.out (by kernel_rfl)) (fun _ _ _ h => h) (Or.inl ⟨by rfl, ?_⟩) ?_ ?_
                          rotate_left
                          · intro w'
                            go_simp
                            with_reducible rfl
                          rotate_left
                          · simp only [Act.put, List.setIfInBounds_toArray, List.set_cons_zero, List.set_cons_succ, i64_w, i32_w]
                            rfl
                          refine pure_ (i := 1) (N := some 92) (v := ?_) (a' := ?_) #[true, true, false, false, false, false, false, false, false, false, false, false, false, false, false] rfl rfl (any_of HT_.out (by kernel_rfl)) (fun _ _ _ h => h) (Or.inl ⟨by rfl, ?_⟩) ?_ ?_
                          rotate_left
                          · intro w'
                            go_simp
                            with_reducible rfl
                          rotate_left
                          · simp only [Act.put, List.setIfInBounds_toArray, List.set_cons_zero, List.set_cons_succ, i64_w, i32_w]
                            rfl
                          refine pure_ (i := 3) (N := some 94) (v := ?_) (a' := ?_) #[true, true, false, true, false, false, false, false, false, false, false, false, false, false, false] rfl rfl (any_of HT_.out (by kernel_rfl)) (fun _ _ _ h => h) (Or.inl ⟨by rfl, ?_⟩) ?_ ?_
                          rotate_left
                          · intro w'
                            go_simp
                            with_reducible rfl
                          rotate_left
                          · simp only [Act.put, List.setIfInBounds_toArray, List.set_cons_zero, List.set_cons_succ, i64_w, i32_w]
                            rfl
                          refine pure_ (i := 4) (N := some 95) (v := ?_) (a' := ?_) #[true, true, false, true, true, false, false, false, false, false, false, false, false, false, false] rfl rfl (any_of HT_.out (by kernel_rfl)) (fun _ _ _ h => h) (Or.inl ⟨by rfl, ?_⟩) ?_ ?_
                          rotate_left
                          · intro w'
                            go_simp
                            with_reducible rfl
                          rotate_left
                          · simp only [Act.put, List.setIfInBounds_toArray, List.set_cons_zero, List.set_cons_succ, i64_w, i32_w]
                            rfl
                          refine pure_ (i := 6) (N := some 97) (v := ?_) (a' := ?_) #[true, true, false, true, true, false, true, false, false, false, false, false, false, false, false] rfl rfl (any_of HT_.out (by kernel_rfl)) (fun _ _ _ h => h) (Or.inl ⟨by rfl, ?_⟩) ?_ ?_
                          rotate_left
                          · intro w'
                            go_simp
                            with_reducible rfl
                          rotate_left
                          · simp only [Act.put, List.setIfInBounds_toArray, List.set_cons_zero, List.set_cons_succ, i64_w, i32_w]
                            rfl
                          refine pure_ (i := 7) (N := some 98) (v := ?_) (a' := ?_) #[true, true, false, true, true, false, true, true, false, false, false, false, false, false, false] rfl rfl (any_of HT_.out (by kernel_rfl)) (fun _ _ _ h => h) (Or.inl ⟨by rfl, ?_⟩) ?_ ?_
                          rotate_left
                          · intro w'
                            go_simp
                            with_reducible rfl
                          rotate_left
                          · simp only [Act.put, List.setIfInBounds_toArray, List.set_cons_zero, List.set_cons_succ, i64_w, i32_w]
                            rfl
                          refine pure_ (i := 9) (N := some 100) (v := ?_) (a' := ?_) #[true, true, false, true, true, false, true, true, false, true, false, false, false, false, false] rfl rfl (any_of HT_.out (by kernel_rfl)) (fun _ _ _ h => h) (Or.inl ⟨by rfl, ?_⟩) ?_ ?_
                          rotate_left
                          · intro w'
                            go_simp
                            with_reducible rfl
                          rotate_left
                          · simp only [Act.put, List.setIfInBounds_toArray, List.set_cons_zero, List.set_cons_succ, i64_w, i32_w]
                            rfl
                          refine pure_ (i := 10) (N := some 101) (v := ?_) (a' := ?_) #[true, true, false, true, true, false, true, true, false, true, true, false, false, false, false] rfl rfl (any_of HT_.out (by kernel_rfl)) (fun _ _ _ h => h) (Or.inl ⟨by rfl, ?_⟩) ?_ ?_
                          rotate_left
                          · intro w'
                            go_simp
                            with_reducible rfl
                          rotate_left
                          · simp only [Act.put, List.setIfInBounds_toArray, List.set_cons_zero, List.set_cons_succ, i64_w, i32_w]
                            rfl
                          refine take_ (i := 2) (N := some 93) (v := ?_) (a' := ?_) #[true, true, true, true, true, false, true, true, false, true, true, false, false, false, false] rfl rfl (take_ofW HT_.out HW_.out (by kernel_rfl)) (fun _ _ _ h => h) (Or.inl ⟨by rfl, ?_⟩) hHeld ?_ ?_
                          rotate_left
                          · rintro w' ⟨s0, s1, s2, s3⟩
                            go_simp
                            with_reducible rfl
                          rotate_left
                          · simp only [Act.put, List.setIfInBounds_toArray, List.set_cons_zero, List.set_cons_succ, i64_w, i32_w]
                            rfl
                          refine take_ (i := 5) (N := some 96) (v := ?_) (a' := ?_) #[true, true, true, true, true, true, true, true, false, true, true, false, false, false, false] rfl rfl (take_ofW HT_.out HW_.out (by kernel_rfl)) (fun _ _ _ h => h) (Or.inl ⟨by rfl, ?_⟩) hHeld ?_ ?_
                          rotate_left
                          · rintro w' ⟨s0, s1, s2, s3⟩
                            go_simp
                            with_reducible rfl
                          rotate_left
                          · simp only [Act.put, List.setIfInBounds_toArray, List.set_cons_zero, List.set_cons_succ, i64_w, i32_w]
                            rfl
                          refine take_ (i := 8) (N := some 99) (v := ?_) (a' := ?_) #[true, true, true, true, true, true, true, true, true, true, true, false, false, false, false] rfl rfl (take_ofW HT_.out HW_.out (by kernel_rfl)) (fun _ _ _ h => h) (Or.inl ⟨by rfl, ?_⟩) hHeld ?_ ?_
                          rotate_left
                          · rintro w' ⟨s0, s1, s2, s3⟩
                            go_simp
                            with_reducible rfl
                          rotate_left
                          · simp only [Act.put, List.setIfInBounds_toArray, List.set_cons_zero, List.set_cons_succ, i64_w, i32_w]
                            rfl
                          refine take_ (i := 11) (N := some 102) (v := ?_) (a' := ?_) #[true, true, true, true, true, true, true, true, true, true, true, true, false, false, false] rfl rfl (take_ofW HT_.out HW_.out (by kernel_rfl)) (fun _ _ _ h => h) (Or.inl ⟨by rfl, ?_⟩) hHeld ?_ ?_
                          rotate_left
                          · rintro w' ⟨s0, s1, s2, s3⟩
                            go_simp
                            with_reducible rfl
                          rotate_left
                          · simp only [Act.put, List.setIfInBounds_toArray, List.set_cons_zero, List.set_cons_succ, i64_w, i32_w]
                            rfl
                          refine pure_ (i := 12) (N := some 103) (v := ?_) (a' := ?_) #[true, true, true, true, true, true, true, true, true, true, true, true, true, false, false] rfl rfl (any_of HT_.out (by kernel_rfl)) (fun _ _ _ h => h) (Or.inl ⟨by rfl, ?_⟩) ?_ ?_
                          rotate_left
                          · intro w'
                            go_simp
                            with_reducible rfl
                          rotate_left
                          · simp only [Act.put, List.setIfInBounds_toArray, List.set_cons_zero, List.set_cons_succ, i64_w, i32_w]
                            rfl
                          refine one_ (i := 13) (N := some 10) #[true, true, true, true, true, true, true, true, true, true, true, true, true, true, false] rfl rfl (one_of HT_.out (by kernel_rfl)) (by decide) (fun K hK => ?_)
                          refine box_step ?hg (N := 10) ?hd (cs := #[.int .i64 0, .int .i64 0, .int .i64 0, .int .i64 0]) (t := 25) ?hr ?_; (case hd => rfl); (case hg => rfl); (case hr => first | (go_simp; done) | (go_simp; rfl))
                          intro gb372 hg w62 hbox hb
                          have HS0_ := (hb.cell (World.block_lt_of_cell? _ _ (hHeld.1))).trans (hHeld.1)
                          have HS1_ := (hb.cell (World.block_lt_of_cell? _ _ (hHeld.2.1))).trans (hHeld.2.1)
                          have HS2_ := (hb.cell (World.block_lt_of_cell? _ _ (hHeld.2.2.1))).trans (hHeld.2.2.1)
                          have HS3_ := (hb.cell (World.block_lt_of_cell? _ _ (hHeld.2.2.2))).trans (hHeld.2.2.2)
                          have n0_ := Aside0.mk (Kd.R_below (by (with_reducible repeat (first | apply Kd.R_alloc | apply Kd.R_drewN | apply Kd.R_drew)); exact HO_8.out) hb)
                          have n1_ := Aside0.mk (blk_below (g := gb364) (o := .cells #[.int .i64 a0_0, .bool a0_1] 23 (0, 0)) (by (with_reducible repeat (first | refine blk_drewN ?_ _ | refine blk_drew ?_ | refine blk_alloc ?_ _)); exact BK364.out) hb)
                          have n2_ := Aside0.mk (blk_below (g := gb365) (o := .cells #[.int .i64 x366000_1, .int .i64 x366001_1, .int .i64 x366002_1, .int .i64 x366003_1] 25 (0, 0)) (by (with_reducible repeat (first | refine blk_drewN ?_ _ | refine blk_drew ?_ | refine blk_alloc ?_ _)); exact BK365.out) hb)
                          have n3_ := Aside0.mk (below_step (by repeat (first | (with_reducible first | exact HB.out | apply below_alloc | apply pw_below_drewN | apply below_drew1 | refine below_set ?_ GE364.out | refine below_set ?_ GE365.out) | exact HB.out)) hb)
                          have n4_ := Aside0.mk (hbox)
                          have n5_ := Aside0.mk ((by rw [hg]; exact (below_size (by repeat (first | (with_reducible first | exact HB.out | apply below_alloc | apply pw_below_drewN | apply below_drew1 | refine below_set ?_ GE364.out | refine below_set ?_ GE365.out) | exact HB.out))) : w.heap.size ≤ gb372))
                          have n6_ := Aside0.mk ((by rw [hg]; exact (below_size (by repeat (first | (with_reducible first | exact HB.out | apply below_alloc | apply pw_below_drewN | apply below_drew1 | refine below_set ?_ GE364.out | refine below_set ?_ GE365.out) | exact HB.out))) : w.heap.size ≤ gb372))
                          have n7_ := Aside0.mk ((by rw [hg]; exact Nat.ne_of_lt (blk_lt (g := gb364) (o := .cells #[.int .i64 a0_0, .bool a0_1] 23 (0, 0)) (by (with_reducible repeat (first | refine blk_drewN ?_ _ | refine blk_drew ?_ | refine blk_alloc ?_ _)); exact BK364.out)) : gb364 ≠ gb372))
                          have n8_ := Aside0.mk ((by rw [hg]; exact Nat.ne_of_gt (blk_lt (g := gb364) (o := .cells #[.int .i64 a0_0, .bool a0_1] 23 (0, 0)) (by (with_reducible repeat (first | refine blk_drewN ?_ _ | refine blk_drew ?_ | refine blk_alloc ?_ _)); exact BK364.out)) : gb372 ≠ gb364))
                          have n9_ := Aside0.mk ((by rw [hg]; exact Nat.ne_of_lt (blk_lt (g := gb365) (o := .cells #[.int .i64 x366000_1, .int .i64 x366001_1, .int .i64 x366002_1, .int .i64 x366003_1] 25 (0, 0)) (by (with_reducible repeat (first | refine blk_drewN ?_ _ | refine blk_drew ?_ | refine blk_alloc ?_ _)); exact BK365.out)) : gb365 ≠ gb372))
                          have n10_ := Aside0.mk ((by rw [hg]; exact Nat.ne_of_gt (blk_lt (g := gb365) (o := .cells #[.int .i64 x366000_1, .int .i64 x366001_1, .int .i64 x366002_1, .int .i64 x366003_1] 25 (0, 0)) (by (with_reducible repeat (first | refine blk_drewN ?_ _ | refine blk_drew ?_ | refine blk_alloc ?_ _)); exact BK365.out)) : gb372 ≠ gb365))
                          clear HO_8
                          clear BK364
                          clear BK365
                          clear HB
                          have HO_8 := n0_
                          have BK364 := n1_
                          have BK365 := n2_
                          have HB := n3_
                          have BK372 := n4_
                          have GW372 := n5_
                          have GE372 := n6_
                          have NB364_372 := n7_
                          have NB372_364 := n8_
                          have NB365_372 := n9_
                          have NB372_365 := n10_
                          clear n0_ n1_ n2_ n3_ n4_ n5_ n6_ n7_ n8_ n9_ n10_
                          clear hb hbox hg
                          refine hK.out _ _ ⟨HS0_, HS1_, HS2_, HS3_⟩ (fun hHeld => ?_)
                          clear hK K
                          refine norm_ (a' := ?_) ?_ ?_
                          rotate_left
                          · show Act.put _ (some 10) _ = _
                            simp only [Act.put, List.setIfInBounds_toArray, List.set_cons_zero, List.set_cons_succ, i64_w, i32_w]
                            rfl
                          refine one_ (i := 14) (N := none) #[true, true, true, true, true, true, true, true, true, true, true, true, true, true, true] rfl rfl (one_of HT_.out (by kernel_rfl)) (by decide) (fun K hK => ?_)
                          have hs63 : w62.cell? ⟨gb372, 0, none⟩ = some (.int .i64 0) := (blk_cell BK372.out 0).trans rfl
                          have hfs63 := blk_frozen BK372.out 0
                          have hns63_0 := NB364_372.out
                          have hns63_1 := NB365_372.out
                          have hms63_0 := NB372_364.out
                          have hms63_1 := NB372_365.out
                          have hs64 : w62.cell? ⟨gb372, 1, none⟩ = some (.int .i64 0) := (blk_cell BK372.out 1).trans rfl
                          have hfs64 := blk_frozen BK372.out 1
                          have hns64_0 := NB364_372.out
                          have hns64_1 := NB365_372.out
                          have hms64_0 := NB372_364.out
                          have hms64_1 := NB372_365.out
                          have hs65 : w62.cell? ⟨gb372, 2, none⟩ = some (.int .i64 0) := (blk_cell BK372.out 2).trans rfl
                          have hfs65 := blk_frozen BK372.out 2
                          have hns65_0 := NB364_372.out
                          have hns65_1 := NB365_372.out
                          have hms65_0 := NB372_364.out
                          have hms65_1 := NB372_365.out
                          have hs66 : w62.cell? ⟨gb372, 3, none⟩ = some (.int .i64 0) := (blk_cell BK372.out 3).trans rfl
                          have hfs66 := blk_frozen BK372.out 3
                          have hns66_0 := NB364_372.out
                          have hns66_1 := NB365_372.out
                          have hms66_0 := NB372_364.out
                          have hms66_1 := NB372_365.out
                          refine skip_ (w1 := ?_) (by rfl) rfl ?_ ?_
                          rotate_left
                          · go_simp
                            rfl
                          refine hK.out _ _ ⟨((cell_far (p := ⟨gb372, _, none⟩) (by first | exact Kd.own_blk (Kd.R_ne HO_8.out BK372.out (by decide)) | (rw [add_block]; exact Kd.own_blk (Kd.R_ne HO_8.out BK372.out (by decide))) | (show (Addr.add _ _).block ≠ _; rw [add_block]; exact Kd.own_blk (Kd.R_ne HO_8.out BK372.out (by decide))) | (dsimp only; exact Kd.own_blk (Kd.R_ne HO_8.out BK372.out (by decide)))) _).trans (((cell_far (p := ⟨gb372, _, none⟩) (by first | exact Kd.own_blk (Kd.R_ne HO_8.out BK372.out (by decide)) | (rw [add_block]; exact Kd.own_blk (Kd.R_ne HO_8.out BK372.out (by decide))) | (show (Addr.add _ _).block ≠ _; rw [add_block]; exact Kd.own_blk (Kd.R_ne HO_8.out BK372.out (by decide))) | (dsimp only; exact Kd.own_blk (Kd.R_ne HO_8.out BK372.out (by decide)))) _).trans (((cell_far (p := ⟨gb372, _, none⟩) (by first | exact Kd.own_blk (Kd.R_ne HO_8.out BK372.out (by decide)) | (rw [add_block]; exact Kd.own_blk (Kd.R_ne HO_8.out BK372.out (by decide))) | (show (Addr.add _ _).block ≠ _; rw [add_block]; exact Kd.own_blk (Kd.R_ne HO_8.out BK372.out (by decide))) | (dsimp only; exact Kd.own_blk (Kd.R_ne HO_8.out BK372.out (by decide)))) _).trans (((cell_far (p := ⟨gb372, _, none⟩) (by first | exact Kd.own_blk (Kd.R_ne HO_8.out BK372.out (by decide)) | (rw [add_block]; exact Kd.own_blk (Kd.R_ne HO_8.out BK372.out (by decide))) | (show (Addr.add _ _).block ≠ _; rw [add_block]; exact Kd.own_blk (Kd.R_ne HO_8.out BK372.out (by decide))) | (dsimp only; exact Kd.own_blk (Kd.R_ne HO_8.out BK372.out (by decide)))) _).trans (hHeld.1)))))))), ((cell_far (p := ⟨gb372, _, none⟩) (by first | exact Kd.own_blk (Kd.R_ne HO_8.out BK372.out (by decide)) | (rw [add_block]; exact Kd.own_blk (Kd.R_ne HO_8.out BK372.out (by decide))) | (show (Addr.add _ _).block ≠ _; rw [add_block]; exact Kd.own_blk (Kd.R_ne HO_8.out BK372.out (by decide))) | (dsimp only; exact Kd.own_blk (Kd.R_ne HO_8.out BK372.out (by decide)))) _).trans (((cell_far (p := ⟨gb372, _, none⟩) (by first | exact Kd.own_blk (Kd.R_ne HO_8.out BK372.out (by decide)) | (rw [add_block]; exact Kd.own_blk (Kd.R_ne HO_8.out BK372.out (by decide))) | (show (Addr.add _ _).block ≠ _; rw [add_block]; exact Kd.own_blk (Kd.R_ne HO_8.out BK372.out (by decide))) | (dsimp only; exact Kd.own_blk (Kd.R_ne HO_8.out BK372.out (by decide)))) _).trans (((cell_far (p := ⟨gb372, _, none⟩) (by first | exact Kd.own_blk (Kd.R_ne HO_8.out BK372.out (by decide)) | (rw [add_block]; exact Kd.own_blk (Kd.R_ne HO_8.out BK372.out (by decide))) | (show (Addr.add _ _).block ≠ _; rw [add_block]; exact Kd.own_blk (Kd.R_ne HO_8.out BK372.out (by decide))) | (dsimp only; exact Kd.own_blk (Kd.R_ne HO_8.out BK372.out (by decide)))) _).trans (((cell_far (p := ⟨gb372, _, none⟩) (by first | exact Kd.own_blk (Kd.R_ne HO_8.out BK372.out (by decide)) | (rw [add_block]; exact Kd.own_blk (Kd.R_ne HO_8.out BK372.out (by decide))) | (show (Addr.add _ _).block ≠ _; rw [add_block]; exact Kd.own_blk (Kd.R_ne HO_8.out BK372.out (by decide))) | (dsimp only; exact Kd.own_blk (Kd.R_ne HO_8.out BK372.out (by decide)))) _).trans (hHeld.2.1)))))))), ((cell_far (p := ⟨gb372, _, none⟩) (by first | exact Kd.own_blk (Kd.R_ne HO_8.out BK372.out (by decide)) | (rw [add_block]; exact Kd.own_blk (Kd.R_ne HO_8.out BK372.out (by decide))) | (show (Addr.add _ _).block ≠ _; rw [add_block]; exact Kd.own_blk (Kd.R_ne HO_8.out BK372.out (by decide))) | (dsimp only; exact Kd.own_blk (Kd.R_ne HO_8.out BK372.out (by decide)))) _).trans (((cell_far (p := ⟨gb372, _, none⟩) (by first | exact Kd.own_blk (Kd.R_ne HO_8.out BK372.out (by decide)) | (rw [add_block]; exact Kd.own_blk (Kd.R_ne HO_8.out BK372.out (by decide))) | (show (Addr.add _ _).block ≠ _; rw [add_block]; exact Kd.own_blk (Kd.R_ne HO_8.out BK372.out (by decide))) | (dsimp only; exact Kd.own_blk (Kd.R_ne HO_8.out BK372.out (by decide)))) _).trans (((cell_far (p := ⟨gb372, _, none⟩) (by first | exact Kd.own_blk (Kd.R_ne HO_8.out BK372.out (by decide)) | (rw [add_block]; exact Kd.own_blk (Kd.R_ne HO_8.out BK372.out (by decide))) | (show (Addr.add _ _).block ≠ _; rw [add_block]; exact Kd.own_blk (Kd.R_ne HO_8.out BK372.out (by decide))) | (dsimp only; exact Kd.own_blk (Kd.R_ne HO_8.out BK372.out (by decide)))) _).trans (((cell_far (p := ⟨gb372, _, none⟩) (by first | exact Kd.own_blk (Kd.R_ne HO_8.out BK372.out (by decide)) | (rw [add_block]; exact Kd.own_blk (Kd.R_ne HO_8.out BK372.out (by decide))) | (show (Addr.add _ _).block ≠ _; rw [add_block]; exact Kd.own_blk (Kd.R_ne HO_8.out BK372.out (by decide))) | (dsimp only; exact Kd.own_blk (Kd.R_ne HO_8.out BK372.out (by decide)))) _).trans (hHeld.2.2.1)))))))), ((cell_far (p := ⟨gb372, _, none⟩) (by first | exact Kd.own_blk (Kd.R_ne HO_8.out BK372.out (by decide)) | (rw [add_block]; exact Kd.own_blk (Kd.R_ne HO_8.out BK372.out (by decide))) | (show (Addr.add _ _).block ≠ _; rw [add_block]; exact Kd.own_blk (Kd.R_ne HO_8.out BK372.out (by decide))) | (dsimp only; exact Kd.own_blk (Kd.R_ne HO_8.out BK372.out (by decide)))) _).trans (((cell_far (p := ⟨gb372, _, none⟩) (by first | exact Kd.own_blk (Kd.R_ne HO_8.out BK372.out (by decide)) | (rw [add_block]; exact Kd.own_blk (Kd.R_ne HO_8.out BK372.out (by decide))) | (show (Addr.add _ _).block ≠ _; rw [add_block]; exact Kd.own_blk (Kd.R_ne HO_8.out BK372.out (by decide))) | (dsimp only; exact Kd.own_blk (Kd.R_ne HO_8.out BK372.out (by decide)))) _).trans (((cell_far (p := ⟨gb372, _, none⟩) (by first | exact Kd.own_blk (Kd.R_ne HO_8.out BK372.out (by decide)) | (rw [add_block]; exact Kd.own_blk (Kd.R_ne HO_8.out BK372.out (by decide))) | (show (Addr.add _ _).block ≠ _; rw [add_block]; exact Kd.own_blk (Kd.R_ne HO_8.out BK372.out (by decide))) | (dsimp only; exact Kd.own_blk (Kd.R_ne HO_8.out BK372.out (by decide)))) _).trans (((cell_far (p := ⟨gb372, _, none⟩) (by first | exact Kd.own_blk (Kd.R_ne HO_8.out BK372.out (by decide)) | (rw [add_block]; exact Kd.own_blk (Kd.R_ne HO_8.out BK372.out (by decide))) | (show (Addr.add _ _).block ≠ _; rw [add_block]; exact Kd.own_blk (Kd.R_ne HO_8.out BK372.out (by decide))) | (dsimp only; exact Kd.own_blk (Kd.R_ne HO_8.out BK372.out (by decide)))) _).trans (hHeld.2.2.2))))))))⟩ (fun hHeld => ?_)
                          clear hK K
                          refine done_ (done_of HT_.out (by kernel_rfl)) ?_
                          have hnb67 := NB364_365.out
                          have hnc67 := NB365_364.out
                          have hnb68 := NB364_372.out
                          have hnc68 := NB372_364.out
                          have hcz69_0 : w62.cell? ⟨gb364, 0, none⟩ = some (.int .i64 a0_0) := (blk_cell BK364.out 0).trans rfl
                          have hcz69_1 : w62.cell? ⟨gb364, 1, none⟩ = some (.bool a0_1) := (blk_cell BK364.out 1).trans rfl
                          have hfz69_0 := blk_frozen BK364.out 0
                          have hfz69_1 := blk_frozen BK364.out 1
                          have hnb70 := NB372_365.out
                          have hnc70 := NB365_372.out
                          have hcz71_0 : w62.cell? ⟨gb372, 0, none⟩ = some (.int .i64 0) := (blk_cell BK372.out 0).trans rfl
                          have hcz71_1 : w62.cell? ⟨gb372, 1, none⟩ = some (.int .i64 0) := (blk_cell BK372.out 1).trans rfl
                          have hcz71_2 : w62.cell? ⟨gb372, 2, none⟩ = some (.int .i64 0) := (blk_cell BK372.out 2).trans rfl
                          have hcz71_3 : w62.cell? ⟨gb372, 3, none⟩ = some (.int .i64 0) := (blk_cell BK372.out 3).trans rfl
                          have hfz71_0 := blk_frozen BK372.out 0
                          have hfz71_1 := blk_frozen BK372.out 1
                          have hfz71_2 := blk_frozen BK372.out 2
                          have hfz71_3 := blk_frozen BK372.out 3
                          try go_wp2_with (first | ((with_reducible refine gate_callee (f := 43) rfl ?_); refine goesL_ (some 106) rfl rfl Try.func43 (by kernel_rfl) rfl #[.agg #[.int .i64 a0_0, .bool a0_1], .agg #[.int .i64 (rd x8_1 0), .int .i64 (rd x8_1 1), .int .i64 (rd x8_1 2), .int .i64 (rd x8_1 3)]] rfl (by (try simp only [List.map_toArray, List.map_cons, List.map_nil]); first | done | rfl | (simp only [List.length_drop, List.length_take]; rfl)) ?_; (with_reducible refine (code_checked.calls k1 a0_0 a0_1 (rd x8_1 0) (rd x8_1 1) (rd x8_1 2) (rd x8_1 3) t373 _ A58.out).mono ?_); rintro e w72 ⟨rfl, hb⟩; refine ⟨_, rfl, ?_⟩; have n0_ := Aside0.mk (Kd.R_below (by (with_reducible repeat (first | apply Kd.R_alloc | apply Kd.R_drewN | apply Kd.R_drew)); exact (Kd.R_mono (Kd.R_far (p := ⟨gb372, 3, none⟩) (Kd.R_far (p := ⟨gb372, 2, none⟩) (Kd.R_far (p := ⟨gb372, 1, none⟩) (Kd.R_far (p := ⟨gb372, 0, none⟩) (Kd.R_types HO_8.out BK372.out (by decide)) (fun _ hk => hk.2) (.int .i64 (rd x8_1 0))) (fun _ hk => hk.2) (.int .i64 (rd x8_1 1))) (fun _ hk => hk.2) (.int .i64 (rd x8_1 2))) (fun _ hk => hk.2) (.int .i64 (rd x8_1 3))) (fun _ h_ => h_.1))) hb); have n1_ := Aside0.mk (blk_below (g := gb364) (o := .cells #[.int .i64 a0_0, .bool a0_1] 23 (0, 0)) (by (with_reducible repeat (first | refine blk_drewN ?_ _ | refine blk_drew ?_ | refine blk_alloc ?_ _)); refine blk_far ?_ NB364_372.out _; (with_reducible repeat (first | refine blk_drewN ?_ _ | refine blk_drew ?_ | refine blk_alloc ?_ _)); refine blk_far ?_ NB364_372.out _; (with_reducible repeat (first | refine blk_drewN ?_ _ | refine blk_drew ?_ | refine blk_alloc ?_ _)); refine blk_far ?_ NB364_372.out _; (with_reducible repeat (first | refine blk_drewN ?_ _ | refine blk_drew ?_ | refine blk_alloc ?_ _)); refine blk_far ?_ NB364_372.out _; (with_reducible repeat (first | refine blk_drewN ?_ _ | refine blk_drew ?_ | refine blk_alloc ?_ _)); exact BK364.out) hb); have n2_ := Aside0.mk (blk_below (g := gb365) (o := .cells #[.int .i64 x366000_1, .int .i64 x366001_1, .int .i64 x366002_1, .int .i64 x366003_1] 25 (0, 0)) (by (with_reducible repeat (first | refine blk_drewN ?_ _ | refine blk_drew ?_ | refine blk_alloc ?_ _)); refine blk_far ?_ NB365_372.out _; (with_reducible repeat (first | refine blk_drewN ?_ _ | refine blk_drew ?_ | refine blk_alloc ?_ _)); refine blk_far ?_ NB365_372.out _; (with_reducible repeat (first | refine blk_drewN ?_ _ | refine blk_drew ?_ | refine blk_alloc ?_ _)); refine blk_far ?_ NB365_372.out _; (with_reducible repeat (first | refine blk_drewN ?_ _ | refine blk_drew ?_ | refine blk_alloc ?_ _)); refine blk_far ?_ NB365_372.out _; (with_reducible repeat (first | refine blk_drewN ?_ _ | refine blk_drew ?_ | refine blk_alloc ?_ _)); exact BK365.out) hb); have n3_ := Aside0.mk (blk_below (g := gb372) (o := .cells #[.int .i64 (rd x8_1 0), .int .i64 (rd x8_1 1), .int .i64 (rd x8_1 2), .int .i64 (rd x8_1 3)] 25 (0, 0)) (by (with_reducible repeat (first | refine blk_drewN ?_ _ | refine blk_drew ?_ | refine blk_alloc ?_ _)); refine blk_put (cs := #[.int .i64 (rd x8_1 0), .int .i64 (rd x8_1 1), .int .i64 (rd x8_1 2), .int .i64 0]) ?_ 3 _ rfl; (with_reducible repeat (first | refine blk_drewN ?_ _ | refine blk_drew ?_ | refine blk_alloc ?_ _)); refine blk_put (cs := #[.int .i64 (rd x8_1 0), .int .i64 (rd x8_1 1), .int .i64 0, .int .i64 0]) ?_ 2 _ rfl; (with_reducible repeat (first | refine blk_drewN ?_ _ | refine blk_drew ?_ | refine blk_alloc ?_ _)); refine blk_put (cs := #[.int .i64 (rd x8_1 0), .int .i64 0, .int .i64 0, .int .i64 0]) ?_ 1 _ rfl; (with_reducible repeat (first | refine blk_drewN ?_ _ | refine blk_drew ?_ | refine blk_alloc ?_ _)); refine blk_put (cs := #[.int .i64 0, .int .i64 0, .int .i64 0, .int .i64 0]) ?_ 0 _ rfl; (with_reducible repeat (first | refine blk_drewN ?_ _ | refine blk_drew ?_ | refine blk_alloc ?_ _)); exact BK372.out) hb); have n4_ := Aside0.mk (below_step (by repeat (first | (with_reducible first | exact HB.out | apply below_alloc | apply pw_below_drewN | apply below_drew1 | refine below_set ?_ GE364.out | refine below_set ?_ GE365.out | refine below_set ?_ GE372.out) | exact HB.out)) hb); clear HO_8; clear BK364; clear BK365; clear BK372; clear HB; have HO_8 := n0_; have BK364 := n1_; have BK365 := n2_; have BK372 := n3_; have HB := n4_; clear n0_ n1_ n2_ n3_ n4_; (try clear hb); (try clear hb2); (try clear hk); (try clear hi); have hcz73_0 : w72.cell? ⟨gb372, 0, none⟩ = some (.int .i64 (rd x8_1 0)) := (blk_cell BK372.out 0).trans rfl; have hcz73_1 : w72.cell? ⟨gb372, 1, none⟩ = some (.int .i64 (rd x8_1 1)) := (blk_cell BK372.out 1).trans rfl; have hcz73_2 : w72.cell? ⟨gb372, 2, none⟩ = some (.int .i64 (rd x8_1 2)) := (blk_cell BK372.out 2).trans rfl; have hcz73_3 : w72.cell? ⟨gb372, 3, none⟩ = some (.int .i64 (rd x8_1 3)) := (blk_cell BK372.out 3).trans rfl; have hfz73_0 := blk_frozen BK372.out 0; have hfz73_1 := blk_frozen BK372.out 1; have hfz73_2 := blk_frozen BK372.out 2; have hfz73_3 := blk_frozen BK372.out 3; have hcz74_0 : w72.cell? ⟨gb365, 0, none⟩ = some (.int .i64 x366000_1) := (blk_cell BK365.out 0).trans rfl; have hcz74_1 : w72.cell? ⟨gb365, 1, none⟩ = some (.int .i64 x366001_1) := (blk_cell BK365.out 1).trans rfl; have hcz74_2 : w72.cell? ⟨gb365, 2, none⟩ = some (.int .i64 x366002_1) := (blk_cell BK365.out 2).trans rfl; have hcz74_3 : w72.cell? ⟨gb365, 3, none⟩ = some (.int .i64 x366003_1) := (blk_cell BK365.out 3).trans rfl; have hfz74_0 := blk_frozen BK365.out 0; have hfz74_1 := blk_frozen BK365.out 1; have hfz74_2 := blk_frozen BK365.out 2; have hfz74_3 := blk_frozen BK365.out 3))
                          refine bodyPost_ret (results_ct rfl _ _ gb365 25 #[.int .i64 (rd x8_1 0), .int .i64 (rd x8_1 1), .int .i64 (rd x8_1 2), .int .i64 (rd x8_1 3)] (0, 0) _ rfl (by (with_reducible repeat (first | refine blk_drewN ?_ _ | refine blk_drew ?_ | refine blk_alloc ?_ _)); refine blk_put (cs := #[.int .i64 (rd x8_1 0), .int .i64 (rd x8_1 1), .int .i64 (rd x8_1 2), .int .i64 x366003_1]) ?_ 3 _ rfl; (with_reducible repeat (first | refine blk_drewN ?_ _ | refine blk_drew ?_ | refine blk_alloc ?_ _)); refine blk_put (cs := #[.int .i64 (rd x8_1 0), .int .i64 (rd x8_1 1), .int .i64 x366002_1, .int .i64 x366003_1]) ?_ 2 _ rfl; (with_reducible repeat (first | refine blk_drewN ?_ _ | refine blk_drew ?_ | refine blk_alloc ?_ _)); refine blk_put (cs := #[.int .i64 (rd x8_1 0), .int .i64 x366001_1, .int .i64 x366002_1, .int .i64 x366003_1]) ?_ 1 _ rfl; (with_reducible repeat (first | refine blk_drewN ?_ _ | refine blk_drew ?_ | refine blk_alloc ?_ _)); refine blk_put (cs := #[.int .i64 x366000_1, .int .i64 x366001_1, .int .i64 x366002_1, .int .i64 x366003_1]) ?_ 0 _ rfl; (with_reducible repeat (first | refine blk_drewN ?_ _ | refine blk_drew ?_ | refine blk_alloc ?_ _)); exact BK365.out) Try.underlying25 rfl (by kernel_rfl)) rfl ?_
                          exact ⟨by first | rfl | (simp [errW_none, errW_some] <;> rfl) | (simp [*, errW_none, errW_some] <;> rfl), by repeat (first | (with_reducible first | exact HB.out | apply below_alloc | apply pw_below_drewN | apply below_drew1 | refine below_set ?_ GE364.out | refine below_set ?_ GE365.out | refine below_set ?_ GE372.out) | exact HB.out)⟩
                        · rw [if_neg c59] at H
                          have c59b0 : (t373 == 0) = false := beq_eq_false_iff_ne.mpr c59
                          have c59b1 : (t373 != 0) = true := bne_iff_ne.mpr c59
                          simp only [Option.some.injEq, Prod.mk.injEq] at H
                          obtain ⟨rfl, rfl, rfl, rfl, rfl⟩ := H
                          try go_wp2
                          have n0_ := Aside0.mk (Kd.R_drew HO_8.out)
                          have n1_ := Aside0.mk (blk_drew BK364.out)
                          have n2_ := Aside0.mk (blk_drew BK365.out)
                          have n3_ := Aside0.mk (below_drew1 HB.out)
                          clear HO_8
                          clear BK364
                          clear BK365
                          clear HB
                          have HO_8 := n0_
                          have BK364 := n1_
                          have BK365 := n2_
                          have HB := n3_
                          clear n0_ n1_ n2_ n3_
                          obtain ⟨Ao76, co76, eo76⟩ := Kd.R_slice HO_8.out
                          (first | subst eo76 | (injection eo76 with f1_ f2_ f3_; have f4_ := f1_.symm; have f5_ := f3_.symm; clear f1_ f2_ f3_; subst f4_; subst f5_))
                          have p368 : 0 ≤ (0 : Int) := (by omega)
                          have q368 : 0 < (x8_1.length : Int) := of_decide_eq_true (by first | (with_reducible assumption) | assumption)
                          obtain ⟨ad368, e368, hx368_0⟩ := Kd.at_int (Kd.R_reads' HO_8.out).2.2 0 p368 q368
                          cases e368
                          have qi368 : (0 < x8_1.length) = True := eq_true (by omega)
                          (try rw [show ((0 : Int)).toNat = 0 from rfl] at hx368_0)
                          (try rw [Addr.add_zero'] at hx368_0)
                          replace p368 := eq_true p368
                          replace q368 := eq_true q368
                          have p369 : 0 ≤ (1 : Int) := (by omega)
                          have q369 : 1 < (x8_1.length : Int) := of_decide_eq_true (by first | (with_reducible assumption) | assumption)
                          obtain ⟨ad369, e369, hx369_0⟩ := Kd.at_int (Kd.R_reads' HO_8.out).2.2 1 p369 q369
                          obtain rfl : ad368 = ad369 := (by injection e369)
                          (try simp only [show (1 : Int).toNat = 1 from rfl, Nat.reduceMul, Nat.reduceEqDiff, Go.Addr.add, ↓reduceIte] at hx369_0)
                          have qi369 : (1 < x8_1.length) = True := eq_true (by omega)
                          (try rw [show ((1 : Int)).toNat = 1 from rfl] at hx369_0)
                          replace p369 := eq_true p369
                          replace q369 := eq_true q369
                          have p370 : 0 ≤ (2 : Int) := (by omega)
                          have q370 : 2 < (x8_1.length : Int) := of_decide_eq_true (by first | (with_reducible assumption) | assumption)
                          obtain ⟨ad370, e370, hx370_0⟩ := Kd.at_int (Kd.R_reads' HO_8.out).2.2 2 p370 q370
                          obtain rfl : ad368 = ad370 := (by injection e370)
                          (try simp only [show (2 : Int).toNat = 2 from rfl, Nat.reduceMul, Nat.reduceEqDiff, Go.Addr.add, ↓reduceIte] at hx370_0)
                          have qi370 : (2 < x8_1.length) = True := eq_true (by omega)
                          (try rw [show ((2 : Int)).toNat = 2 from rfl] at hx370_0)
                          replace p370 := eq_true p370
                          replace q370 := eq_true q370
                          have p371 : 0 ≤ (3 : Int) := (by omega)
                          have q371 : 3 < (x8_1.length : Int) := of_decide_eq_true (by first | (with_reducible assumption) | assumption)
                          obtain ⟨ad371, e371, hx371_0⟩ := Kd.at_int (Kd.R_reads' HO_8.out).2.2 3 p371 q371
                          obtain rfl : ad368 = ad371 := (by injection e371)
                          (try simp only [show (3 : Int).toNat = 3 from rfl, Nat.reduceMul, Nat.reduceEqDiff, Go.Addr.add, ↓reduceIte] at hx371_0)
                          have qi371 : (3 < x8_1.length) = True := eq_true (by omega)
                          (try rw [show ((3 : Int)).toNat = 3 from rfl] at hx371_0)
                          replace p371 := eq_true p371
                          replace q371 := eq_true q371
                          refine start_ (n := 15) (S := fun w' => w'.cell? ad368 = some (.int .i64 (rd x8_1 0)) ∧ w'.cell? ⟨ad368.block, ad368.off + 1, none⟩ = some (.int .i64 (rd x8_1 1)) ∧ w'.cell? ⟨ad368.block, ad368.off + 2, none⟩ = some (.int .i64 (rd x8_1 2)) ∧ w'.cell? ⟨ad368.block, ad368.off + 3, none⟩ = some (.int .i64 (rd x8_1 3))) (ds := []) #[false, false, false, false, false, false, false, false, false, false, false, false, false, false, false] (by kernel_rfl) rfl rfl ⟨hx368_0, hx369_0, hx370_0, hx371_0⟩ (fun hHeld => ?_); refine with_tabW code_Parse.tab17 code_Parse.bits17 (fun HT_ HW_ => ?_)
                          generalize wr.drew = w75 at HO_8 BK364 BK365 HB hx368_0 hx369_0 hx370_0 hx371_0 hHeld ⊢
                          refine pure_ (i := 0) (N := some 91) (v := ?_) (a' := ?_) #[true, false, false, false, false, false, false, false, false, false, false, false, false, false, false] rfl rfl (any_of HT_.out (by kernel_rfl)) (fun _ _ _ h => h) (Or.inl ⟨by rfl, ?_⟩) ?_ ?_
                          rotate_left
                          · intro w'
                            go_simp
                            with_reducible rfl
                          rotate_left
                          · simp only [Act.put, List.setIfInBounds_toArray, List.set_cons_zero, List.set_cons_succ, i64_w, i32_w]
                            rfl
                          refine pure_ (i := 1) (N := some 92) (v := ?_) (a' := ?_) #[true, true, false, false, false, false, false, false, false, false, false, false, false, false, false] rfl rfl (any_of HT_.out (by kernel_rfl)) (fun _ _ _ h => h) (Or.inl ⟨by rfl, ?_⟩) ?_ ?_
                          rotate_left
                          · intro w'
                            go_simp
                            with_reducible rfl
                          rotate_left
                          · simp only [Act.put, List.setIfInBounds_toArray, List.set_cons_zero, List.set_cons_succ, i64_w, i32_w]
                            rfl
                          refine pure_ (i := 3) (N := some 94) (v := ?_) (a' := ?_) #[true, true, false, true, false, false, false, false, false, false, false, false, false, false, false] rfl rfl (any_of HT_.out (by kernel_rfl)) (fun _ _ _ h => h) (Or.inl ⟨by rfl, ?_⟩) ?_ ?_
                          rotate_left
                          · intro w'
                            go_simp
                            with_reducible rfl
                          rotate_left
                          · simp only [Act.put, List.setIfInBounds_toArray, List.set_cons_zero, List.set_cons_succ, i64_w, i32_w]
                            rfl
                          refine pure_ (i := 4) (N := some 95) (v := ?_) (a' := ?_) #[true, true, false, true, true, false, false, false, false, false, false, false, false, false, false] rfl rfl (any_of HT_.out (by kernel_rfl)) (fun _ _ _ h => h) (Or.inl ⟨by rfl, ?_⟩) ?_ ?_
                          rotate_left
                          · intro w'
                            go_simp
                            with_reducible rfl
                          rotate_left
                          · simp only [Act.put, List.setIfInBounds_toArray, List.set_cons_zero, List.set_cons_succ, i64_w, i32_w]
                            rfl
                          refine pure_ (i := 6) (N := some 97) (v := ?_) (a' := ?_) #[true, true, false, true, true, false, true, false, false, false, false, false, false, false, false] rfl rfl (any_of HT_.out (by kernel_rfl)) (fun _ _ _ h => h) (Or.inl ⟨by rfl, ?_⟩) ?_ ?_
                          rotate_left
                          · intro w'
                            go_simp
                            with_reducible rfl
                          rotate_left
                          · simp only [Act.put, List.setIfInBounds_toArray, List.set_cons_zero, List.set_cons_succ, i64_w, i32_w]
                            rfl
                          refine pure_ (i := 7) (N := some 98) (v := ?_) (a' := ?_) #[true, true, false, true, true, false, true, true, false, false, false, false, false, false, false] rfl rfl (any_of HT_.out (by kernel_rfl)) (fun _ _ _ h => h) (Or.inl ⟨by rfl, ?_⟩) ?_ ?_
                          rotate_left
                          · intro w'
                            go_simp
                            with_reducible rfl
                          rotate_left
                          · simp only [Act.put, List.setIfInBounds_toArray, List.set_cons_zero, List.set_cons_succ, i64_w, i32_w]
                            rfl
                          refine pure_ (i := 9) (N := some 100) (v := ?_) (a' := ?_) #[true, true, false, true, true, false, true, true, false, true, false, false, false, false, false] rfl rfl (any_of HT_.out (by kernel_rfl)) (fun _ _ _ h => h) (Or.inl ⟨by rfl, ?_⟩) ?_ ?_
                          rotate_left
                          · intro w'
                            go_simp
                            with_reducible rfl
                          rotate_left
                          · simp only [Act.put, List.setIfInBounds_toArray, List.set_cons_zero, List.set_cons_succ, i64_w, i32_w]
                            rfl
                          refine pure_ (i := 10) (N := some 101) (v := ?_) (a' := ?_) #[true, true, false, true, true, false, true, true, false, true, true, false, false, false, false] rfl rfl (any_of HT_.out (by kernel_rfl)) (fun _ _ _ h => h) (Or.inl ⟨by rfl, ?_⟩) ?_ ?_
                          rotate_left
                          · intro w'
                            go_simp
                            with_reducible rfl
                          rotate_left
                          · simp only [Act.put, List.setIfInBounds_toArray, List.set_cons_zero, List.set_cons_succ, i64_w, i32_w]
                            rfl
                          refine take_ (i := 2) (N := some 93) (v := ?_) (a' := ?_) #[true, true, true, true, true, false, true, true, false, true, true, false, false, false, false] rfl rfl (take_ofW HT_.out HW_.out (by kernel_rfl)) (fun _ _ _ h => h) (Or.inl ⟨by rfl, ?_⟩) hHeld ?_ ?_
                          rotate_left
                          · rintro w' ⟨s0, s1, s2, s3⟩
                            go_simp
                            with_reducible rfl
                          rotate_left
                          · simp only [Act.put, List.setIfInBounds_toArray, List.set_cons_zero, List.set_cons_succ, i64_w, i32_w]
                            rfl
                          refine take_ (i := 5) (N := some 96) (v := ?_) (a' := ?_) #[true, true, true, true, true, true, true, true, false, true, true, false, false, false, false] rfl rfl (take_ofW HT_.out HW_.out (by kernel_rfl)) (fun _ _ _ h => h) (Or.inl ⟨by rfl, ?_⟩) hHeld ?_ ?_
                          rotate_left
                          · rintro w' ⟨s0, s1, s2, s3⟩
                            go_simp
                            with_reducible rfl
                          rotate_left
                          · simp only [Act.put, List.setIfInBounds_toArray, List.set_cons_zero, List.set_cons_succ, i64_w, i32_w]
                            rfl
                          refine take_ (i := 8) (N := some 99) (v := ?_) (a' := ?_) #[true, true, true, true, true, true, true, true, true, true, true, false, false, false, false] rfl rfl (take_ofW HT_.out HW_.out (by kernel_rfl)) (fun _ _ _ h => h) (Or.inl ⟨by rfl, ?_⟩) hHeld ?_ ?_
                          rotate_left
                          · rintro w' ⟨s0, s1, s2, s3⟩
                            go_simp
                            with_reducible rfl
                          rotate_left
                          · simp only [Act.put, List.setIfInBounds_toArray, List.set_cons_zero, List.set_cons_succ, i64_w, i32_w]
                            rfl
                          refine take_ (i := 11) (N := some 102) (v := ?_) (a' := ?_) #[true, true, true, true, true, true, true, true, true, true, true, true, false, false, false] rfl rfl (take_ofW HT_.out HW_.out (by kernel_rfl)) (fun _ _ _ h => h) (Or.inl ⟨by rfl, ?_⟩) hHeld ?_ ?_
                          rotate_left
                          · rintro w' ⟨s0, s1, s2, s3⟩
                            go_simp
                            with_reducible rfl
                          rotate_left
                          · simp only [Act.put, List.setIfInBounds_toArray, List.set_cons_zero, List.set_cons_succ, i64_w, i32_w]
                            rfl
                          refine pure_ (i := 12) (N := some 103) (v := ?_) (a' := ?_) #[true, true, true, true, true, true, true, true, true, true, true, true, true, false, false] rfl rfl (any_of HT_.out (by kernel_rfl)) (fun _ _ _ h => h) (Or.inl ⟨by rfl, ?_⟩) ?_ ?_
                          rotate_left
                          · intro w'
                            go_simp
                            with_reducible rfl
                          rotate_left
                          · simp only [Act.put, List.setIfInBounds_toArray, List.set_cons_zero, List.set_cons_succ, i64_w, i32_w]
                            rfl
                          refine one_ (i := 13) (N := some 10) #[true, true, true, true, true, true, true, true, true, true, true, true, true, true, false] rfl rfl (one_of HT_.out (by kernel_rfl)) (by decide) (fun K hK => ?_)
                          refine box_step ?hg (N := 10) ?hd (cs := #[.int .i64 0, .int .i64 0, .int .i64 0, .int .i64 0]) (t := 25) ?hr ?_; (case hd => rfl); (case hg => rfl); (case hr => first | (go_simp; done) | (go_simp; rfl))
                          intro gb372 hg w77 hbox hb
                          have HS0_ := (hb.cell (World.block_lt_of_cell? _ _ (hHeld.1))).trans (hHeld.1)
                          have HS1_ := (hb.cell (World.block_lt_of_cell? _ _ (hHeld.2.1))).trans (hHeld.2.1)
                          have HS2_ := (hb.cell (World.block_lt_of_cell? _ _ (hHeld.2.2.1))).trans (hHeld.2.2.1)
                          have HS3_ := (hb.cell (World.block_lt_of_cell? _ _ (hHeld.2.2.2))).trans (hHeld.2.2.2)
                          have n0_ := Aside0.mk (Kd.R_below (by (with_reducible repeat (first | apply Kd.R_alloc | apply Kd.R_drewN | apply Kd.R_drew)); exact HO_8.out) hb)
                          have n1_ := Aside0.mk (blk_below (g := gb364) (o := .cells #[.int .i64 a0_0, .bool a0_1] 23 (0, 0)) (by (with_reducible repeat (first | refine blk_drewN ?_ _ | refine blk_drew ?_ | refine blk_alloc ?_ _)); exact BK364.out) hb)
                          have n2_ := Aside0.mk (blk_below (g := gb365) (o := .cells #[.int .i64 x366000_1, .int .i64 x366001_1, .int .i64 x366002_1, .int .i64 x366003_1] 25 (0, 0)) (by (with_reducible repeat (first | refine blk_drewN ?_ _ | refine blk_drew ?_ | refine blk_alloc ?_ _)); exact BK365.out) hb)
                          have n3_ := Aside0.mk (below_step (by repeat (first | (with_reducible first | exact HB.out | apply below_alloc | apply pw_below_drewN | apply below_drew1 | refine below_set ?_ GE364.out | refine below_set ?_ GE365.out) | exact HB.out)) hb)
                          have n4_ := Aside0.mk (hbox)
                          have n5_ := Aside0.mk ((by rw [hg]; exact (below_size (by repeat (first | (with_reducible first | exact HB.out | apply below_alloc | apply pw_below_drewN | apply below_drew1 | refine below_set ?_ GE364.out | refine below_set ?_ GE365.out) | exact HB.out))) : w.heap.size ≤ gb372))
                          have n6_ := Aside0.mk ((by rw [hg]; exact (below_size (by repeat (first | (with_reducible first | exact HB.out | apply below_alloc | apply pw_below_drewN | apply below_drew1 | refine below_set ?_ GE364.out | refine below_set ?_ GE365.out) | exact HB.out))) : w.heap.size ≤ gb372))
                          have n7_ := Aside0.mk ((by rw [hg]; exact Nat.ne_of_lt (blk_lt (g := gb364) (o := .cells #[.int .i64 a0_0, .bool a0_1] 23 (0, 0)) (by (with_reducible repeat (first | refine blk_drewN ?_ _ | refine blk_drew ?_ | refine blk_alloc ?_ _)); exact BK364.out)) : gb364 ≠ gb372))
                          have n8_ := Aside0.mk ((by rw [hg]; exact Nat.ne_of_gt (blk_lt (g := gb364) (o := .cells #[.int .i64 a0_0, .bool a0_1] 23 (0, 0)) (by (with_reducible repeat (first | refine blk_drewN ?_ _ | refine blk_drew ?_ | refine blk_alloc ?_ _)); exact BK364.out)) : gb372 ≠ gb364))
                          have n9_ := Aside0.mk ((by rw [hg]; exact Nat.ne_of_lt (blk_lt (g := gb365) (o := .cells #[.int .i64 x366000_1, .int .i64 x366001_1, .int .i64 x366002_1, .int .i64 x366003_1] 25 (0, 0)) (by (with_reducible repeat (first | refine blk_drewN ?_ _ | refine blk_drew ?_ | refine blk_alloc ?_ _)); exact BK365.out)) : gb365 ≠ gb372))
                          have n10_ := Aside0.mk ((by rw [hg]; exact Nat.ne_of_gt (blk_lt (g := gb365) (o := .cells #[.int .i64 x366000_1, .int .i64 x366001_1, .int .i64 x366002_1, .int .i64 x366003_1] 25 (0, 0)) (by (with_reducible repeat (first | refine blk_drewN ?_ _ | refine blk_drew ?_ | refine blk_alloc ?_ _)); exact BK365.out)) : gb372 ≠ gb365))
                          clear HO_8
                          clear BK364
                          clear BK365
                          clear HB
                          have HO_8 := n0_
                          have BK364 := n1_
                          have BK365 := n2_
                          have HB := n3_
                          have BK372 := n4_
                          have GW372 := n5_
                          have GE372 := n6_
                          have NB364_372 := n7_
                          have NB372_364 := n8_
                          have NB365_372 := n9_
                          have NB372_365 := n10_
                          clear n0_ n1_ n2_ n3_ n4_ n5_ n6_ n7_ n8_ n9_ n10_
                          clear hb hbox hg
                          refine hK.out _ _ ⟨HS0_, HS1_, HS2_, HS3_⟩ (fun hHeld => ?_)
                          clear hK K
                          refine norm_ (a' := ?_) ?_ ?_
                          rotate_left
                          · show Act.put _ (some 10) _ = _
                            simp only [Act.put, List.setIfInBounds_toArray, List.set_cons_zero, List.set_cons_succ, i64_w, i32_w]
                            rfl
                          refine one_ (i := 14) (N := none) #[true, true, true, true, true, true, true, true, true, true, true, true, true, true, true] rfl rfl (one_of HT_.out (by kernel_rfl)) (by decide) (fun K hK => ?_)
                          have hs78 : w77.cell? ⟨gb372, 0, none⟩ = some (.int .i64 0) := (blk_cell BK372.out 0).trans rfl
                          have hfs78 := blk_frozen BK372.out 0
                          have hns78_0 := NB364_372.out
                          have hns78_1 := NB365_372.out
                          have hms78_0 := NB372_364.out
                          have hms78_1 := NB372_365.out
                          have hs79 : w77.cell? ⟨gb372, 1, none⟩ = some (.int .i64 0) := (blk_cell BK372.out 1).trans rfl
                          have hfs79 := blk_frozen BK372.out 1
                          have hns79_0 := NB364_372.out
                          have hns79_1 := NB365_372.out
                          have hms79_0 := NB372_364.out
                          have hms79_1 := NB372_365.out
                          have hs80 : w77.cell? ⟨gb372, 2, none⟩ = some (.int .i64 0) := (blk_cell BK372.out 2).trans rfl
                          have hfs80 := blk_frozen BK372.out 2
                          have hns80_0 := NB364_372.out
                          have hns80_1 := NB365_372.out
                          have hms80_0 := NB372_364.out
                          have hms80_1 := NB372_365.out
                          have hs81 : w77.cell? ⟨gb372, 3, none⟩ = some (.int .i64 0) := (blk_cell BK372.out 3).trans rfl
                          have hfs81 := blk_frozen BK372.out 3
                          have hns81_0 := NB364_372.out
                          have hns81_1 := NB365_372.out
                          have hms81_0 := NB372_364.out
                          have hms81_1 := NB372_365.out
                          refine skip_ (w1 := ?_) (by rfl) rfl ?_ ?_
                          rotate_left
                          · go_simp
                            rfl
                          refine hK.out _ _ ⟨((cell_far (p := ⟨gb372, _, none⟩) (by first | exact Kd.own_blk (Kd.R_ne HO_8.out BK372.out (by decide)) | (rw [add_block]; exact Kd.own_blk (Kd.R_ne HO_8.out BK372.out (by decide))) | (show (Addr.add _ _).block ≠ _; rw [add_block]; exact Kd.own_blk (Kd.R_ne HO_8.out BK372.out (by decide))) | (dsimp only; exact Kd.own_blk (Kd.R_ne HO_8.out BK372.out (by decide)))) _).trans (((cell_far (p := ⟨gb372, _, none⟩) (by first | exact Kd.own_blk (Kd.R_ne HO_8.out BK372.out (by decide)) | (rw [add_block]; exact Kd.own_blk (Kd.R_ne HO_8.out BK372.out (by decide))) | (show (Addr.add _ _).block ≠ _; rw [add_block]; exact Kd.own_blk (Kd.R_ne HO_8.out BK372.out (by decide))) | (dsimp only; exact Kd.own_blk (Kd.R_ne HO_8.out BK372.out (by decide)))) _).trans (((cell_far (p := ⟨gb372, _, none⟩) (by first | exact Kd.own_blk (Kd.R_ne HO_8.out BK372.out (by decide)) | (rw [add_block]; exact Kd.own_blk (Kd.R_ne HO_8.out BK372.out (by decide))) | (show (Addr.add _ _).block ≠ _; rw [add_block]; exact Kd.own_blk (Kd.R_ne HO_8.out BK372.out (by decide))) | (dsimp only; exact Kd.own_blk (Kd.R_ne HO_8.out BK372.out (by decide)))) _).trans (((cell_far (p := ⟨gb372, _, none⟩) (by first | exact Kd.own_blk (Kd.R_ne HO_8.out BK372.out (by decide)) | (rw [add_block]; exact Kd.own_blk (Kd.R_ne HO_8.out BK372.out (by decide))) | (show (Addr.add _ _).block ≠ _; rw [add_block]; exact Kd.own_blk (Kd.R_ne HO_8.out BK372.out (by decide))) | (dsimp only; exact Kd.own_blk (Kd.R_ne HO_8.out BK372.out (by decide)))) _).trans (hHeld.1)))))))), ((cell_far (p := ⟨gb372, _, none⟩) (by first | exact Kd.own_blk (Kd.R_ne HO_8.out BK372.out (by decide)) | (rw [add_block]; exact Kd.own_blk (Kd.R_ne HO_8.out BK372.out (by decide))) | (show (Addr.add _ _).block ≠ _; rw [add_block]; exact Kd.own_blk (Kd.R_ne HO_8.out BK372.out (by decide))) | (dsimp only; exact Kd.own_blk (Kd.R_ne HO_8.out BK372.out (by decide)))) _).trans (((cell_far (p := ⟨gb372, _, none⟩) (by first | exact Kd.own_blk (Kd.R_ne HO_8.out BK372.out (by decide)) | (rw [add_block]; exact Kd.own_blk (Kd.R_ne HO_8.out BK372.out (by decide))) | (show (Addr.add _ _).block ≠ _; rw [add_block]; exact Kd.own_blk (Kd.R_ne HO_8.out BK372.out (by decide))) | (dsimp only; exact Kd.own_blk (Kd.R_ne HO_8.out BK372.out (by decide)))) _).trans (((cell_far (p := ⟨gb372, _, none⟩) (by first | exact Kd.own_blk (Kd.R_ne HO_8.out BK372.out (by decide)) | (rw [add_block]; exact Kd.own_blk (Kd.R_ne HO_8.out BK372.out (by decide))) | (show (Addr.add _ _).block ≠ _; rw [add_block]; exact Kd.own_blk (Kd.R_ne HO_8.out BK372.out (by decide))) | (dsimp only; exact Kd.own_blk (Kd.R_ne HO_8.out BK372.out (by decide)))) _).trans (((cell_far (p := ⟨gb372, _, none⟩) (by first | exact Kd.own_blk (Kd.R_ne HO_8.out BK372.out (by decide)) | (rw [add_block]; exact Kd.own_blk (Kd.R_ne HO_8.out BK372.out (by decide))) | (show (Addr.add _ _).block ≠ _; rw [add_block]; exact Kd.own_blk (Kd.R_ne HO_8.out BK372.out (by decide))) | (dsimp only; exact Kd.own_blk (Kd.R_ne HO_8.out BK372.out (by decide)))) _).trans (hHeld.2.1)))))))), ((cell_far (p := ⟨gb372, _, none⟩) (by first | exact Kd.own_blk (Kd.R_ne HO_8.out BK372.out (by decide)) | (rw [add_block]; exact Kd.own_blk (Kd.R_ne HO_8.out BK372.out (by decide))) | (show (Addr.add _ _).block ≠ _; rw [add_block]; exact Kd.own_blk (Kd.R_ne HO_8.out BK372.out (by decide))) | (dsimp only; exact Kd.own_blk (Kd.R_ne HO_8.out BK372.out (by decide)))) _).trans (((cell_far (p := ⟨gb372, _, none⟩) (by first | exact Kd.own_blk (Kd.R_ne HO_8.out BK372.out (by decide)) | (rw [add_block]; exact Kd.own_blk (Kd.R_ne HO_8.out BK372.out (by decide))) | (show (Addr.add _ _).block ≠ _; rw [add_block]; exact Kd.own_blk (Kd.R_ne HO_8.out BK372.out (by decide))) | (dsimp only; exact Kd.own_blk (Kd.R_ne HO_8.out BK372.out (by decide)))) _).trans (((cell_far (p := ⟨gb372, _, none⟩) (by first | exact Kd.own_blk (Kd.R_ne HO_8.out BK372.out (by decide)) | (rw [add_block]; exact Kd.own_blk (Kd.R_ne HO_8.out BK372.out (by decide))) | (show (Addr.add _ _).block ≠ _; rw [add_block]; exact Kd.own_blk (Kd.R_ne HO_8.out BK372.out (by decide))) | (dsimp only; exact Kd.own_blk (Kd.R_ne HO_8.out BK372.out (by decide)))) _).trans (((cell_far (p := ⟨gb372, _, none⟩) (by first | exact Kd.own_blk (Kd.R_ne HO_8.out BK372.out (by decide)) | (rw [add_block]; exact Kd.own_blk (Kd.R_ne HO_8.out BK372.out (by decide))) | (show (Addr.add _ _).block ≠ _; rw [add_block]; exact Kd.own_blk (Kd.R_ne HO_8.out BK372.out (by decide))) | (dsimp only; exact Kd.own_blk (Kd.R_ne HO_8.out BK372.out (by decide)))) _).trans (hHeld.2.2.1)))))))), ((cell_far (p := ⟨gb372, _, none⟩) (by first | exact Kd.own_blk (Kd.R_ne HO_8.out BK372.out (by decide)) | (rw [add_block]; exact Kd.own_blk (Kd.R_ne HO_8.out BK372.out (by decide))) | (show (Addr.add _ _).block ≠ _; rw [add_block]; exact Kd.own_blk (Kd.R_ne HO_8.out BK372.out (by decide))) | (dsimp only; exact Kd.own_blk (Kd.R_ne HO_8.out BK372.out (by decide)))) _).trans (((cell_far (p := ⟨gb372, _, none⟩) (by first | exact Kd.own_blk (Kd.R_ne HO_8.out BK372.out (by decide)) | (rw [add_block]; exact Kd.own_blk (Kd.R_ne HO_8.out BK372.out (by decide))) | (show (Addr.add _ _).block ≠ _; rw [add_block]; exact Kd.own_blk (Kd.R_ne HO_8.out BK372.out (by decide))) | (dsimp only; exact Kd.own_blk (Kd.R_ne HO_8.out BK372.out (by decide)))) _).trans (((cell_far (p := ⟨gb372, _, none⟩) (by first | exact Kd.own_blk (Kd.R_ne HO_8.out BK372.out (by decide)) | (rw [add_block]; exact Kd.own_blk (Kd.R_ne HO_8.out BK372.out (by decide))) | (show (Addr.add _ _).block ≠ _; rw [add_block]; exact Kd.own_blk (Kd.R_ne HO_8.out BK372.out (by decide))) | (dsimp only; exact Kd.own_blk (Kd.R_ne HO_8.out BK372.out (by decide)))) _).trans (((cell_far (p := ⟨gb372, _, none⟩) (by first | exact Kd.own_blk (Kd.R_ne HO_8.out BK372.out (by decide)) | (rw [add_block]; exact Kd.own_blk (Kd.R_ne HO_8.out BK372.out (by decide))) | (show (Addr.add _ _).block ≠ _; rw [add_block]; exact Kd.own_blk (Kd.R_ne HO_8.out BK372.out (by decide))) | (dsimp only; exact Kd.own_blk (Kd.R_ne HO_8.out BK372.out (by decide)))) _).trans (hHeld.2.2.2))))))))⟩ (fun hHeld => ?_)
                          clear hK K
                          refine done_ (done_of HT_.out (by kernel_rfl)) ?_
                          have hnb82 := NB364_365.out
                          have hnc82 := NB365_364.out
                          have hnb83 := NB364_372.out
                          have hnc83 := NB372_364.out
                          have hcz84_0 : w77.cell? ⟨gb364, 0, none⟩ = some (.int .i64 a0_0) := (blk_cell BK364.out 0).trans rfl
                          have hcz84_1 : w77.cell? ⟨gb364, 1, none⟩ = some (.bool a0_1) := (blk_cell BK364.out 1).trans rfl
                          have hfz84_0 := blk_frozen BK364.out 0
                          have hfz84_1 := blk_frozen BK364.out 1
                          have hnb85 := NB372_365.out
                          have hnc85 := NB365_372.out
                          have hcz86_0 : w77.cell? ⟨gb372, 0, none⟩ = some (.int .i64 0) := (blk_cell BK372.out 0).trans rfl
                          have hcz86_1 : w77.cell? ⟨gb372, 1, none⟩ = some (.int .i64 0) := (blk_cell BK372.out 1).trans rfl
                          have hcz86_2 : w77.cell? ⟨gb372, 2, none⟩ = some (.int .i64 0) := (blk_cell BK372.out 2).trans rfl
                          have hcz86_3 : w77.cell? ⟨gb372, 3, none⟩ = some (.int .i64 0) := (blk_cell BK372.out 3).trans rfl
                          have hfz86_0 := blk_frozen BK372.out 0
                          have hfz86_1 := blk_frozen BK372.out 1
                          have hfz86_2 := blk_frozen BK372.out 2
                          have hfz86_3 := blk_frozen BK372.out 3
                          try go_wp2_with (first | ((with_reducible refine gate_callee (f := 43) rfl ?_); refine goesL_ (some 106) rfl rfl Try.func43 (by kernel_rfl) rfl #[.agg #[.int .i64 a0_0, .bool a0_1], .agg #[.int .i64 (rd x8_1 0), .int .i64 (rd x8_1 1), .int .i64 (rd x8_1 2), .int .i64 (rd x8_1 3)]] rfl (by (try simp only [List.map_toArray, List.map_cons, List.map_nil]); first | done | rfl | (simp only [List.length_drop, List.length_take]; rfl)) ?_; (with_reducible refine (code_checked.calls k1 a0_0 a0_1 (rd x8_1 0) (rd x8_1 1) (rd x8_1 2) (rd x8_1 3) t373 _ A58.out).mono ?_); rintro e w87 ⟨rfl, hb⟩; refine ⟨_, rfl, ?_⟩; have n0_ := Aside0.mk (Kd.R_below (by (with_reducible repeat (first | apply Kd.R_alloc | apply Kd.R_drewN | apply Kd.R_drew)); exact (Kd.R_mono (Kd.R_far (p := ⟨gb372, 3, none⟩) (Kd.R_far (p := ⟨gb372, 2, none⟩) (Kd.R_far (p := ⟨gb372, 1, none⟩) (Kd.R_far (p := ⟨gb372, 0, none⟩) (Kd.R_types HO_8.out BK372.out (by decide)) (fun _ hk => hk.2) (.int .i64 (rd x8_1 0))) (fun _ hk => hk.2) (.int .i64 (rd x8_1 1))) (fun _ hk => hk.2) (.int .i64 (rd x8_1 2))) (fun _ hk => hk.2) (.int .i64 (rd x8_1 3))) (fun _ h_ => h_.1))) hb); have n1_ := Aside0.mk (blk_below (g := gb364) (o := .cells #[.int .i64 a0_0, .bool a0_1] 23 (0, 0)) (by (with_reducible repeat (first | refine blk_drewN ?_ _ | refine blk_drew ?_ | refine blk_alloc ?_ _)); refine blk_far ?_ NB364_372.out _; (with_reducible repeat (first | refine blk_drewN ?_ _ | refine blk_drew ?_ | refine blk_alloc ?_ _)); refine blk_far ?_ NB364_372.out _; (with_reducible repeat (first | refine blk_drewN ?_ _ | refine blk_drew ?_ | refine blk_alloc ?_ _)); refine blk_far ?_ NB364_372.out _; (with_reducible repeat (first | refine blk_drewN ?_ _ | refine blk_drew ?_ | refine blk_alloc ?_ _)); refine blk_far ?_ NB364_372.out _; (with_reducible repeat (first | refine blk_drewN ?_ _ | refine blk_drew ?_ | refine blk_alloc ?_ _)); exact BK364.out) hb); have n2_ := Aside0.mk (blk_below (g := gb365) (o := .cells #[.int .i64 x366000_1, .int .i64 x366001_1, .int .i64 x366002_1, .int .i64 x366003_1] 25 (0, 0)) (by (with_reducible repeat (first | refine blk_drewN ?_ _ | refine blk_drew ?_ | refine blk_alloc ?_ _)); refine blk_far ?_ NB365_372.out _; (with_reducible repeat (first | refine blk_drewN ?_ _ | refine blk_drew ?_ | refine blk_alloc ?_ _)); refine blk_far ?_ NB365_372.out _; (with_reducible repeat (first | refine blk_drewN ?_ _ | refine blk_drew ?_ | refine blk_alloc ?_ _)); refine blk_far ?_ NB365_372.out _; (with_reducible repeat (first | refine blk_drewN ?_ _ | refine blk_drew ?_ | refine blk_alloc ?_ _)); refine blk_far ?_ NB365_372.out _; (with_reducible repeat (first | refine blk_drewN ?_ _ | refine blk_drew ?_ | refine blk_alloc ?_ _)); exact BK365.out) hb); have n3_ := Aside0.mk (blk_below (g := gb372) (o := .cells #[.int .i64 (rd x8_1 0), .int .i64 (rd x8_1 1), .int .i64 (rd x8_1 2), .int .i64 (rd x8_1 3)] 25 (0, 0)) (by (with_reducible repeat (first | refine blk_drewN ?_ _ | refine blk_drew ?_ | refine blk_alloc ?_ _)); refine blk_put (cs := #[.int .i64 (rd x8_1 0), .int .i64 (rd x8_1 1), .int .i64 (rd x8_1 2), .int .i64 0]) ?_ 3 _ rfl; (with_reducible repeat (first | refine blk_drewN ?_ _ | refine blk_drew ?_ | refine blk_alloc ?_ _)); refine blk_put (cs := #[.int .i64 (rd x8_1 0), .int .i64 (rd x8_1 1), .int .i64 0, .int .i64 0]) ?_ 2 _ rfl; (with_reducible repeat (first | refine blk_drewN ?_ _ | refine blk_drew ?_ | refine blk_alloc ?_ _)); refine blk_put (cs := #[.int .i64 (rd x8_1 0), .int .i64 0, .int .i64 0, .int .i64 0]) ?_ 1 _ rfl; (with_reducible repeat (first | refine blk_drewN ?_ _ | refine blk_drew ?_ | refine blk_alloc ?_ _)); refine blk_put (cs := #[.int .i64 0, .int .i64 0, .int .i64 0, .int .i64 0]) ?_ 0 _ rfl; (with_reducible repeat (first | refine blk_drewN ?_ _ | refine blk_drew ?_ | refine blk_alloc ?_ _)); exact BK372.out) hb); have n4_ := Aside0.mk (below_step (by repeat (first | (with_reducible first | exact HB.out | apply below_alloc | apply pw_below_drewN | apply below_drew1 | refine below_set ?_ GE364.out | refine below_set ?_ GE365.out | refine below_set ?_ GE372.out) | exact HB.out)) hb); clear HO_8; clear BK364; clear BK365; clear BK372; clear HB; have HO_8 := n0_; have BK364 := n1_; have BK365 := n2_; have BK372 := n3_; have HB := n4_; clear n0_ n1_ n2_ n3_ n4_; (try clear hb); (try clear hb2); (try clear hk); (try clear hi); have hcz88_0 : w87.cell? ⟨gb365, 0, none⟩ = some (.int .i64 x366000_1) := (blk_cell BK365.out 0).trans rfl; have hcz88_1 : w87.cell? ⟨gb365, 1, none⟩ = some (.int .i64 x366001_1) := (blk_cell BK365.out 1).trans rfl; have hcz88_2 : w87.cell? ⟨gb365, 2, none⟩ = some (.int .i64 x366002_1) := (blk_cell BK365.out 2).trans rfl; have hcz88_3 : w87.cell? ⟨gb365, 3, none⟩ = some (.int .i64 x366003_1) := (blk_cell BK365.out 3).trans rfl; have hfz88_0 := blk_frozen BK365.out 0; have hfz88_1 := blk_frozen BK365.out 1; have hfz88_2 := blk_frozen BK365.out 2; have hfz88_3 := blk_frozen BK365.out 3))
                          refine bodyPost_ret (results_ct rfl _ _ gb365 25 #[.int .i64 0, .int .i64 0, .int .i64 0, .int .i64 0] (0, 0) _ rfl (by (with_reducible repeat (first | refine blk_drewN ?_ _ | refine blk_drew ?_ | refine blk_alloc ?_ _)); refine blk_put (cs := #[.int .i64 0, .int .i64 0, .int .i64 0, .int .i64 x366003_1]) ?_ 3 _ rfl; (with_reducible repeat (first | refine blk_drewN ?_ _ | refine blk_drew ?_ | refine blk_alloc ?_ _)); refine blk_put (cs := #[.int .i64 0, .int .i64 0, .int .i64 x366002_1, .int .i64 x366003_1]) ?_ 2 _ rfl; (with_reducible repeat (first | refine blk_drewN ?_ _ | refine blk_drew ?_ | refine blk_alloc ?_ _)); refine blk_put (cs := #[.int .i64 0, .int .i64 x366001_1, .int .i64 x366002_1, .int .i64 x366003_1]) ?_ 1 _ rfl; (with_reducible repeat (first | refine blk_drewN ?_ _ | refine blk_drew ?_ | refine blk_alloc ?_ _)); refine blk_put (cs := #[.int .i64 x366000_1, .int .i64 x366001_1, .int .i64 x366002_1, .int .i64 x366003_1]) ?_ 0 _ rfl; (with_reducible repeat (first | refine blk_drewN ?_ _ | refine blk_drew ?_ | refine blk_alloc ?_ _)); exact BK365.out) Try.underlying25 rfl (by kernel_rfl)) rfl ?_
                          exact ⟨by first | rfl | (simp [errW_none, errW_some] <;> rfl) | (simp [*, errW_none, errW_some] <;> rfl), by repeat (first | (with_reducible first | exact HB.out | apply below_alloc | apply pw_below_drewN | apply below_drew1 | refine below_set ?_ GE364.out | refine below_set ?_ GE365.out | refine below_set ?_ GE372.out) | exact HB.out)⟩
                      · rw [if_neg c57] at H
                        exact absurd H (by simp)
                    · rw [if_neg c56] at H
                      exact absurd H (by simp)
                  · rw [if_neg c55] at H
                    exact absurd H (by simp)
                · rw [if_neg c54] at H
                  exact absurd H (by simp)
        · rw [if_neg c8] at H
          have c8b0 : ((a1.size : Int) == ((((⟨#[48, 48, 58, 48, 48, 58, 48, 48]⟩ : ByteArray) ++ t367) ++ (⟨#[48, 48]⟩ : ByteArray)).size : Int)) = false := beq_eq_false_iff_ne.mpr c8
          have c8b1 : ((a1.size : Int) != ((((⟨#[48, 48, 58, 48, 48, 58, 48, 48]⟩ : ByteArray) ++ t367) ++ (⟨#[48, 48]⟩ : ByteArray)).size : Int)) = true := bne_iff_ne.mpr c8
          have c8b2 : (a1.size == (((⟨#[48, 48, 58, 48, 48, 58, 48, 48]⟩ : ByteArray) ++ t367) ++ (⟨#[48, 48]⟩ : ByteArray)).size) = false := by first | simpa using c8 | (simp at c8 ⊢; omega)
          try have c8b8 : ((a1.size : Int) == 8 + (t367.size : Int) + 2) = false := by have c_ := c8b0; simp only [ByteArray.size_append, Int.natCast_add] at c_; exact c_
          try have c8b7 : ((a1.size : Int) != 8 + (t367.size : Int) + 2) = true := by have c_ := c8b1; simp only [ByteArray.size_append, Int.natCast_add] at c_; exact c_
          simp only [Option.some.injEq, Prod.mk.injEq] at H
          obtain ⟨rfl, rfl, rfl, rfl, rfl⟩ := H
          go_enter Try.func27, Try.ntmps27
          go_wp2_with (first | ((with_reducible refine gate_dst (N := 2) rfl ?_); refine box_event ?hg (N := 2) ?hd (cs := #[.int .i64 a0_0, .bool a0_1]) (t := 23) ?hr ?_; (case hd => rfl); (case hg => rfl); (case hr => first | (go_simp; done) | (go_simp; rfl)); intro gb364 hg w89 hbox hb; have n0_ := Aside0.mk (below_step (by repeat (first | (with_reducible first | exact HB.out | apply below_alloc | apply pw_below_drewN | apply below_drew1) | exact HB.out)) hb); have n1_ := Aside0.mk (hbox); have n2_ := Aside0.mk ((by rw [hg]; exact (below_size (by repeat (first | (with_reducible first | exact HB.out | apply below_alloc | apply pw_below_drewN | apply below_drew1) | exact HB.out))) : w.heap.size ≤ gb364)); have n3_ := Aside0.mk ((by rw [hg]; exact (below_size (by repeat (first | (with_reducible first | exact HB.out | apply below_alloc | apply pw_below_drewN | apply below_drew1) | exact HB.out))) : w.heap.size ≤ gb364)); clear HB; have HB := n0_; have BK364 := n1_; have GW364 := n2_; have GE364 := n3_; clear n0_ n1_ n2_ n3_; clear hb hbox hg) | ((with_reducible refine gate_dst (N := 4) rfl ?_); refine box_event ?hg (N := 4) ?hd (cs := #[.int .i64 0, .int .i64 0, .int .i64 0, .int .i64 0]) (t := 25) ?hr ?_; (case hd => rfl); (case hg => rfl); (case hr => first | (go_simp; done) | (go_simp; rfl)); intro gb365 hg w90 hbox hb; have n0_ := Aside0.mk (blk_below (g := gb364) (o := .cells #[.int .i64 a0_0, .bool a0_1] 23 (0, 0)) (by (with_reducible repeat (first | refine blk_drewN ?_ _ | refine blk_drew ?_ | refine blk_alloc ?_ _)); exact BK364.out) hb); have n1_ := Aside0.mk (below_step (by repeat (first | (with_reducible first | exact HB.out | apply below_alloc | apply pw_below_drewN | apply below_drew1 | refine below_set ?_ GE364.out) | exact HB.out)) hb); have n2_ := Aside0.mk (hbox); have n3_ := Aside0.mk ((by rw [hg]; exact (below_size (by repeat (first | (with_reducible first | exact HB.out | apply below_alloc | apply pw_below_drewN | apply below_drew1 | refine below_set ?_ GE364.out) | exact HB.out))) : w.heap.size ≤ gb365)); have n4_ := Aside0.mk ((by rw [hg]; exact (below_size (by repeat (first | (with_reducible first | exact HB.out | apply below_alloc | apply pw_below_drewN | apply below_drew1 | refine below_set ?_ GE364.out) | exact HB.out))) : w.heap.size ≤ gb365)); have n5_ := Aside0.mk ((by rw [hg]; exact Nat.ne_of_lt (blk_lt (g := gb364) (o := .cells #[.int .i64 a0_0, .bool a0_1] 23 (0, 0)) (by (with_reducible repeat (first | refine blk_drewN ?_ _ | refine blk_drew ?_ | refine blk_alloc ?_ _)); exact BK364.out)) : gb364 ≠ gb365)); have n6_ := Aside0.mk ((by rw [hg]; exact Nat.ne_of_gt (blk_lt (g := gb364) (o := .cells #[.int .i64 a0_0, .bool a0_1] 23 (0, 0)) (by (with_reducible repeat (first | refine blk_drewN ?_ _ | refine blk_drew ?_ | refine blk_alloc ?_ _)); exact BK364.out)) : gb365 ≠ gb364)); clear BK364; clear HB; have BK364 := n0_; have HB := n1_; have BK365 := n2_; have GW365 := n3_; have GE365 := n4_; have NB364_365 := n5_; have NB365_364 := n6_; clear n0_ n1_ n2_ n3_ n4_ n5_ n6_; clear hb hbox hg; have hnb91 := NB364_365.out; have hnc91 := NB365_364.out; have hcz92_0 : w90.cell? ⟨gb364, 0, none⟩ = some (.int .i64 a0_0) := (blk_cell BK364.out 0).trans rfl; have hcz92_1 : w90.cell? ⟨gb364, 1, none⟩ = some (.bool a0_1) := (blk_cell BK364.out 1).trans rfl; have hfz92_0 := blk_frozen BK364.out 0; have hfz92_1 := blk_frozen BK364.out 1) | ((with_reducible refine gate_callee (f := 25) rfl ?_); refine goesL_ (some 13) rfl rfl Try.func25 (by kernel_rfl) rfl #[.agg #[.int .i64 a0_0, .bool a0_1]] rfl (by (try simp only [List.map_toArray, List.map_cons, List.map_nil]); first | done | rfl | (simp only [List.length_drop, List.length_take]; rfl)) ?_; (with_reducible refine (code_Check.calls a0_0 a0_1 t366 _ A3.out).mono ?_); rintro e w93 ⟨rfl, hb⟩; refine ⟨_, rfl, ?_⟩; have n0_ := Aside0.mk (blk_below (g := gb364) (o := .cells #[.int .i64 a0_0, .bool a0_1] 23 (0, 0)) (by (with_reducible repeat (first | refine blk_drewN ?_ _ | refine blk_drew ?_ | refine blk_alloc ?_ _)); exact BK364.out) hb); have n1_ := Aside0.mk (blk_below (g := gb365) (o := .cells #[.int .i64 0, .int .i64 0, .int .i64 0, .int .i64 0] 25 (0, 0)) (by (with_reducible repeat (first | refine blk_drewN ?_ _ | refine blk_drew ?_ | refine blk_alloc ?_ _)); exact BK365.out) hb); have n2_ := Aside0.mk (below_step (by repeat (first | (with_reducible first | exact HB.out | apply below_alloc | apply pw_below_drewN | apply below_drew1 | refine below_set ?_ GE364.out | refine below_set ?_ GE365.out) | exact HB.out)) hb); clear BK364; clear BK365; clear HB; have BK364 := n0_; have BK365 := n1_; have HB := n2_; clear n0_ n1_ n2_; (try clear hb); (try clear hb2); (try clear hk); (try clear hi); have hcz94_0 : w93.cell? ⟨gb364, 0, none⟩ = some (.int .i64 a0_0) := (blk_cell BK364.out 0).trans rfl; have hcz94_1 : w93.cell? ⟨gb364, 1, none⟩ = some (.bool a0_1) := (blk_cell BK364.out 1).trans rfl; have hfz94_0 := blk_frozen BK364.out 0; have hfz94_1 := blk_frozen BK364.out 1) | ((with_reducible refine gate_callee (f := 49) rfl ?_); refine goesL_ (some 19) rfl rfl Try.func49 (by kernel_rfl) rfl #[.agg #[.int .i64 a0_0, .bool a0_1]] rfl (by (try simp only [List.map_toArray, List.map_cons, List.map_nil]); first | done | rfl | (simp only [List.length_drop, List.length_take]; rfl)) ?_; (with_reducible refine (code_mark.calls a0_0 a0_1 t367 _ A5.out).mono ?_); rintro e w95 ⟨rfl, hb⟩; refine ⟨_, rfl, ?_⟩; have n0_ := Aside0.mk (blk_below (g := gb364) (o := .cells #[.int .i64 a0_0, .bool a0_1] 23 (0, 0)) (by (with_reducible repeat (first | refine blk_drewN ?_ _ | refine blk_drew ?_ | refine blk_alloc ?_ _)); exact BK364.out) hb); have n1_ := Aside0.mk (blk_below (g := gb365) (o := .cells #[.int .i64 0, .int .i64 0, .int .i64 0, .int .i64 0] 25 (0, 0)) (by (with_reducible repeat (first | refine blk_drewN ?_ _ | refine blk_drew ?_ | refine blk_alloc ?_ _)); exact BK365.out) hb); have n2_ := Aside0.mk (below_step (by repeat (first | (with_reducible first | exact HB.out | apply below_alloc | apply pw_below_drewN | apply below_drew1 | refine below_set ?_ GE364.out | refine below_set ?_ GE365.out) | exact HB.out)) hb); clear BK364; clear BK365; clear HB; have BK364 := n0_; have BK365 := n1_; have HB := n2_; clear n0_ n1_ n2_; (try clear hb); (try clear hb2); (try clear hk); (try clear hi); have hcz96_0 : w95.cell? ⟨gb365, 0, none⟩ = some (.int .i64 0) := (blk_cell BK365.out 0).trans rfl; have hcz96_1 : w95.cell? ⟨gb365, 1, none⟩ = some (.int .i64 0) := (blk_cell BK365.out 1).trans rfl; have hcz96_2 : w95.cell? ⟨gb365, 2, none⟩ = some (.int .i64 0) := (blk_cell BK365.out 2).trans rfl; have hcz96_3 : w95.cell? ⟨gb365, 3, none⟩ = some (.int .i64 0) := (blk_cell BK365.out 3).trans rfl; have hfz96_0 := blk_frozen BK365.out 0; have hfz96_1 := blk_frozen BK365.out 1; have hfz96_2 := blk_frozen BK365.out 2; have hfz96_3 := blk_frozen BK365.out 3))
          refine bodyPost_ret (results_ct rfl _ _ gb365 25 #[.int .i64 0, .int .i64 0, .int .i64 0, .int .i64 0] (0, 0) _ rfl (by (with_reducible repeat (first | refine blk_drewN ?_ _ | refine blk_drew ?_ | refine blk_alloc ?_ _)); refine blk_put (cs := #[.int .i64 0, .int .i64 0, .int .i64 0, .int .i64 0]) ?_ 3 _ rfl; (with_reducible repeat (first | refine blk_drewN ?_ _ | refine blk_drew ?_ | refine blk_alloc ?_ _)); refine blk_put (cs := #[.int .i64 0, .int .i64 0, .int .i64 0, .int .i64 0]) ?_ 2 _ rfl; (with_reducible repeat (first | refine blk_drewN ?_ _ | refine blk_drew ?_ | refine blk_alloc ?_ _)); refine blk_put (cs := #[.int .i64 0, .int .i64 0, .int .i64 0, .int .i64 0]) ?_ 1 _ rfl; (with_reducible repeat (first | refine blk_drewN ?_ _ | refine blk_drew ?_ | refine blk_alloc ?_ _)); refine blk_put (cs := #[.int .i64 0, .int .i64 0, .int .i64 0, .int .i64 0]) ?_ 0 _ rfl; (with_reducible repeat (first | refine blk_drewN ?_ _ | refine blk_drew ?_ | refine blk_alloc ?_ _)); exact BK365.out) Try.underlying25 rfl (by kernel_rfl)) rfl ?_
          exact ⟨by first | rfl | (simp [errW_none, errW_some] <;> rfl) | (simp [*, errW_none, errW_some] <;> rfl), by repeat (first | (with_reducible first | exact HB.out | apply below_alloc | apply pw_below_drewN | apply below_drew1 | refine below_set ?_ GE364.out | refine below_set ?_ GE365.out) | exact HB.out)⟩
      · rw [if_neg c7] at H
        exact absurd H (by simp)
    · rw [if_neg c6] at H
      exact absurd H (by simp)
  · rw [if_neg c4] at H
    have c4b0 : (t366 == 0) = false := beq_eq_false_iff_ne.mpr c4
    have c4b1 : (t366 != 0) = true := bne_iff_ne.mpr c4
    simp only [Option.some.injEq, Prod.mk.injEq] at H
    obtain ⟨rfl, rfl, rfl, rfl, rfl⟩ := H
    go_enter Try.func27, Try.ntmps27
    go_wp2_with (first | ((with_reducible refine gate_dst (N := 2) rfl ?_); refine box_event ?hg (N := 2) ?hd (cs := #[.int .i64 a0_0, .bool a0_1]) (t := 23) ?hr ?_; (case hd => rfl); (case hg => rfl); (case hr => first | (go_simp; done) | (go_simp; rfl)); intro gb364 hg w97 hbox hb; have n0_ := Aside0.mk (below_step (by repeat (first | (with_reducible first | exact HB.out | apply below_alloc | apply pw_below_drewN | apply below_drew1) | exact HB.out)) hb); have n1_ := Aside0.mk (hbox); have n2_ := Aside0.mk ((by rw [hg]; exact (below_size (by repeat (first | (with_reducible first | exact HB.out | apply below_alloc | apply pw_below_drewN | apply below_drew1) | exact HB.out))) : w.heap.size ≤ gb364)); have n3_ := Aside0.mk ((by rw [hg]; exact (below_size (by repeat (first | (with_reducible first | exact HB.out | apply below_alloc | apply pw_below_drewN | apply below_drew1) | exact HB.out))) : w.heap.size ≤ gb364)); clear HB; have HB := n0_; have BK364 := n1_; have GW364 := n2_; have GE364 := n3_; clear n0_ n1_ n2_ n3_; clear hb hbox hg) | ((with_reducible refine gate_dst (N := 4) rfl ?_); refine box_event ?hg (N := 4) ?hd (cs := #[.int .i64 0, .int .i64 0, .int .i64 0, .int .i64 0]) (t := 25) ?hr ?_; (case hd => rfl); (case hg => rfl); (case hr => first | (go_simp; done) | (go_simp; rfl)); intro gb365 hg w98 hbox hb; have n0_ := Aside0.mk (blk_below (g := gb364) (o := .cells #[.int .i64 a0_0, .bool a0_1] 23 (0, 0)) (by (with_reducible repeat (first | refine blk_drewN ?_ _ | refine blk_drew ?_ | refine blk_alloc ?_ _)); exact BK364.out) hb); have n1_ := Aside0.mk (below_step (by repeat (first | (with_reducible first | exact HB.out | apply below_alloc | apply pw_below_drewN | apply below_drew1 | refine below_set ?_ GE364.out) | exact HB.out)) hb); have n2_ := Aside0.mk (hbox); have n3_ := Aside0.mk ((by rw [hg]; exact (below_size (by repeat (first | (with_reducible first | exact HB.out | apply below_alloc | apply pw_below_drewN | apply below_drew1 | refine below_set ?_ GE364.out) | exact HB.out))) : w.heap.size ≤ gb365)); have n4_ := Aside0.mk ((by rw [hg]; exact (below_size (by repeat (first | (with_reducible first | exact HB.out | apply below_alloc | apply pw_below_drewN | apply below_drew1 | refine below_set ?_ GE364.out) | exact HB.out))) : w.heap.size ≤ gb365)); have n5_ := Aside0.mk ((by rw [hg]; exact Nat.ne_of_lt (blk_lt (g := gb364) (o := .cells #[.int .i64 a0_0, .bool a0_1] 23 (0, 0)) (by (with_reducible repeat (first | refine blk_drewN ?_ _ | refine blk_drew ?_ | refine blk_alloc ?_ _)); exact BK364.out)) : gb364 ≠ gb365)); have n6_ := Aside0.mk ((by rw [hg]; exact Nat.ne_of_gt (blk_lt (g := gb364) (o := .cells #[.int .i64 a0_0, .bool a0_1] 23 (0, 0)) (by (with_reducible repeat (first | refine blk_drewN ?_ _ | refine blk_drew ?_ | refine blk_alloc ?_ _)); exact BK364.out)) : gb365 ≠ gb364)); clear BK364; clear HB; have BK364 := n0_; have HB := n1_; have BK365 := n2_; have GW365 := n3_; have GE365 := n4_; have NB364_365 := n5_; have NB365_364 := n6_; clear n0_ n1_ n2_ n3_ n4_ n5_ n6_; clear hb hbox hg; have hnb99 := NB364_365.out; have hnc99 := NB365_364.out; have hcz100_0 : w98.cell? ⟨gb364, 0, none⟩ = some (.int .i64 a0_0) := (blk_cell BK364.out 0).trans rfl; have hcz100_1 : w98.cell? ⟨gb364, 1, none⟩ = some (.bool a0_1) := (blk_cell BK364.out 1).trans rfl; have hfz100_0 := blk_frozen BK364.out 0; have hfz100_1 := blk_frozen BK364.out 1) | ((with_reducible refine gate_callee (f := 25) rfl ?_); refine goesL_ (some 13) rfl rfl Try.func25 (by kernel_rfl) rfl #[.agg #[.int .i64 a0_0, .bool a0_1]] rfl (by (try simp only [List.map_toArray, List.map_cons, List.map_nil]); first | done | rfl | (simp only [List.length_drop, List.length_take]; rfl)) ?_; (with_reducible refine (code_Check.calls a0_0 a0_1 t366 _ A3.out).mono ?_); rintro e w101 ⟨rfl, hb⟩; refine ⟨_, rfl, ?_⟩; have n0_ := Aside0.mk (blk_below (g := gb364) (o := .cells #[.int .i64 a0_0, .bool a0_1] 23 (0, 0)) (by (with_reducible repeat (first | refine blk_drewN ?_ _ | refine blk_drew ?_ | refine blk_alloc ?_ _)); exact BK364.out) hb); have n1_ := Aside0.mk (blk_below (g := gb365) (o := .cells #[.int .i64 0, .int .i64 0, .int .i64 0, .int .i64 0] 25 (0, 0)) (by (with_reducible repeat (first | refine blk_drewN ?_ _ | refine blk_drew ?_ | refine blk_alloc ?_ _)); exact BK365.out) hb); have n2_ := Aside0.mk (below_step (by repeat (first | (with_reducible first | exact HB.out | apply below_alloc | apply pw_below_drewN | apply below_drew1 | refine below_set ?_ GE364.out | refine below_set ?_ GE365.out) | exact HB.out)) hb); clear BK364; clear BK365; clear HB; have BK364 := n0_; have BK365 := n1_; have HB := n2_; clear n0_ n1_ n2_; (try clear hb); (try clear hb2); (try clear hk); (try clear hi); have hcz102_0 : w101.cell? ⟨gb365, 0, none⟩ = some (.int .i64 0) := (blk_cell BK365.out 0).trans rfl; have hcz102_1 : w101.cell? ⟨gb365, 1, none⟩ = some (.int .i64 0) := (blk_cell BK365.out 1).trans rfl; have hcz102_2 : w101.cell? ⟨gb365, 2, none⟩ = some (.int .i64 0) := (blk_cell BK365.out 2).trans rfl; have hcz102_3 : w101.cell? ⟨gb365, 3, none⟩ = some (.int .i64 0) := (blk_cell BK365.out 3).trans rfl; have hfz102_0 := blk_frozen BK365.out 0; have hfz102_1 := blk_frozen BK365.out 1; have hfz102_2 := blk_frozen BK365.out 2; have hfz102_3 := blk_frozen BK365.out 3))
    refine bodyPost_ret (results_ct rfl _ _ gb365 25 #[.int .i64 0, .int .i64 0, .int .i64 0, .int .i64 0] (0, 0) _ rfl (by (with_reducible repeat (first | refine blk_drewN ?_ _ | refine blk_drew ?_ | refine blk_alloc ?_ _)); refine blk_put (cs := #[.int .i64 0, .int .i64 0, .int .i64 0, .int .i64 0]) ?_ 3 _ rfl; (with_reducible repeat (first | refine blk_drewN ?_ _ | refine blk_drew ?_ | refine blk_alloc ?_ _)); refine blk_put (cs := #[.int .i64 0, .int .i64 0, .int .i64 0, .int .i64 0]) ?_ 2 _ rfl; (with_reducible repeat (first | refine blk_drewN ?_ _ | refine blk_drew ?_ | refine blk_alloc ?_ _)); refine blk_put (cs := #[.int .i64 0, .int .i64 0, .int .i64 0, .int .i64 0]) ?_ 1 _ rfl; (with_reducible repeat (first | refine blk_drewN ?_ _ | refine blk_drew ?_ | refine blk_alloc ?_ _)); refine blk_put (cs := #[.int .i64 0, .int .i64 0, .int .i64 0, .int .i64 0]) ?_ 0 _ rfl; (with_reducible repeat (first | refine blk_drewN ?_ _ | refine blk_drew ?_ | refine blk_alloc ?_ _)); exact BK365.out) Try.underlying25 rfl (by kernel_rfl)) rfl ?_
    exact ⟨by first | rfl | (simp [errW_none, errW_some] <;> rfl) | (simp [*, errW_none, errW_some] <;> rfl), by repeat (first | (with_reducible first | exact HB.out | apply below_alloc | apply pw_below_drewN | apply below_drew1 | refine below_set ?_ GE364.out | refine below_set ?_ GE365.out) | exact HB.out)⟩

end Go.Proofs.Ytndbhfbgigefnaa.PA
