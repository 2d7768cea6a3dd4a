-- PRINTED by print.py (a twelfth state) out of the translation. Not trusted: Lean checks it.
import Derived.Test.YtndbhfbgigefnaaPAx0
import Derived.Test.YtndbhfbgigefnaaPAx20
import Derived.Test.YtndbhfbgigefnaaPAx34
import Derived.Test.YtndbhfbgigefnaaPAx35
namespace Go.Proofs.Ytndbhfbgigefnaa.PA
open Go.RowKit Go.Proofs.YtndbhfbgigefnaaW.PrintWords Go.Proofs.YtndbhfbgigefnaaW.PrintLast Go.Proofs.YtndbhfbgigefnaaW.PrintMore
attribute [local go_sem] max2_int min2_int max_two min_two max_three min_three max_four min_four   -- for this text's walks alone
set_option linter.unusedVariables false
set_option linter.unusedSimpArgs false

/-! ### code_Format: function 20 -/
def code_Format.f (k : Nat) (a0_0 : Int) (a0_1 : Bool) (a1_0 : Int) (a1_1 : Int) (a1_2 : Int) (a1_3 : Int) : Option (ByteArray × Int) := (code_checked.f k a0_0 a0_1 a1_0 a1_1 a1_2 a1_3).bind fun t305 => (if t305 = 0 then ((code_two.f a1_0).bind fun t306 => (if t306.size + 1 ≤ 9223372036854775807 then ((code_two.f a1_1).bind fun t307 => (if (t306 ++ (⟨#[58]⟩ : ByteArray)).size + t307.size ≤ 9223372036854775807 then (if ((t306 ++ (⟨#[58]⟩ : ByteArray)) ++ t307).size + 1 ≤ 9223372036854775807 then ((code_two.f a1_2).bind fun t308 => (if (((t306 ++ (⟨#[58]⟩ : ByteArray)) ++ t307) ++ (⟨#[58]⟩ : ByteArray)).size + t308.size ≤ 9223372036854775807 then ((code_mark.f a0_0 a0_1).bind fun t309 => (if ((((t306 ++ (⟨#[58]⟩ : ByteArray)) ++ t307) ++ (⟨#[58]⟩ : ByteArray)) ++ t308).size + t309.size ≤ 9223372036854775807 then ((code_two.f a1_3).bind fun t310 => (if (((((t306 ++ (⟨#[58]⟩ : ByteArray)) ++ t307) ++ (⟨#[58]⟩ : ByteArray)) ++ t308) ++ t309).size + t310.size ≤ 9223372036854775807 then (some ((((((t306 ++ (⟨#[58]⟩ : ByteArray)) ++ t307) ++ (⟨#[58]⟩ : ByteArray)) ++ t308) ++ t309) ++ t310, 0)) else (none))) else (none))) else (none))) else (none)) else (none))) else (none))) else (some ((⟨#[]⟩ : ByteArray), t305)))
theorem code_Format.mono : ∀ a0 a1 a2 a3 a4 a5 k, LeO (code_Format.f k a0 a1 a2 a3 a4 a5) (code_Format.f (k + 1) a0 a1 a2 a3 a4 a5) := by
  intro a0 a1 a2 a3 a4 a5 k
  unfold code_Format.f
  repeat' first
      | (with_reducible exact code_checked.mono _ _ _ _ _ _ _)
      | (with_reducible exact LeO.refl _)
      | (with_reducible exact LeO.none _)
      | (with_reducible refine LeO.ite ?_ ?_)
      | (with_reducible refine LeO.bind ?_ (fun _ => ?_))
      | exact code_checked.mono _ _ _ _ _ _ _
      | exact LeO.none _
      | refine LeO.ite ?_ ?_
      | refine LeO.bind ?_ (fun _ => ?_)
def code_Format.T4 : Bool × List (List Nat × List Nat) := (true, [([], []), ([0], [0]), ([1], [1]), ([2], [2]), ([], []), ([4], [4]), ([5, 2], [5]), ([3, 6], [3, 6]), ([7], [7]), ([], []), ([9], [9]), ([10, 6], [10]), ([8, 11], [8, 11]), ([], []), ([13, 11], [13]), ([12, 14], [12, 14]), ([], []), ([16], [16]), ([17, 14], [17]), ([15, 18], [15, 18]), ([19, 18, 0, 1, 2, 3, 4, 5, 6, 7, 8, 9, 10, 11, 12, 13, 14, 15, 16, 17, 18, 19], [19]), ([20, 0, 1, 2, 3, 4, 5, 6, 7, 8, 9, 10, 11, 12, 13, 14, 15, 16, 17, 18, 19, 20], [])])
def code_Format.B4 : List Nat := [0, 1, 3, 7, 0, 16, 55, 127, 255, 0, 512, 1655, 4095, 0, 11895, 32767, 0, 65536, 224887, 524287, 1048575, 2097151]
theorem code_Format.tab4 : rtab .any (opsOf Try.f20 4) = code_Format.T4 := by kernel_rfl
theorem code_Format.bits4 : waitsOk code_Format.T4.2 code_Format.B4 = true := by kernel_rfl
set_option maxHeartbeats 8000000 in
set_option maxRecDepth 100000 in
theorem code_Format.calls (k : Nat) (a0_0 : Int) (a0_1 : Bool) (a1_0 : Int) (a1_1 : Int) (a1_2 : Int) (a1_3 : Int) (r1 : ByteArray) (r2 : Int) (w : World) (h : code_Format.f k a0_0 a0_1 a1_0 a1_1 a1_2 a1_3 = some (r1, r2)) :
    Calls Try.prog 20 #[.agg #[.int .i64 a0_0, .bool a0_1], .agg #[.int .i64 a1_0, .int .i64 a1_1, .int .i64 a1_2, .int .i64 a1_3]] w fun e w' => e = .returned (.tuple #[.string r1, .int .i64 r2]) ∧ Below w.heap.size w w' := by
  have hu23 := Try.underlying23
  have hu25 := Try.underlying25
  have HB := Aside0.mk (Below.refl w.heap.size w)
  have H : ((code_checked.f k a0_0 a0_1 a1_0 a1_1 a1_2 a1_3).bind fun t305 => (if t305 = 0 then ((code_two.f a1_0).bind fun t306 => (if t306.size + 1 ≤ 9223372036854775807 then ((code_two.f a1_1).bind fun t307 => (if (t306 ++ (⟨#[58]⟩ : ByteArray)).size + t307.size ≤ 9223372036854775807 then (if ((t306 ++ (⟨#[58]⟩ : ByteArray)) ++ t307).size + 1 ≤ 9223372036854775807 then ((code_two.f a1_2).bind fun t308 => (if (((t306 ++ (⟨#[58]⟩ : ByteArray)) ++ t307) ++ (⟨#[58]⟩ : ByteArray)).size + t308.size ≤ 9223372036854775807 then ((code_mark.f a0_0 a0_1).bind fun t309 => (if ((((t306 ++ (⟨#[58]⟩ : ByteArray)) ++ t307) ++ (⟨#[58]⟩ : ByteArray)) ++ t308).size + t309.size ≤ 9223372036854775807 then ((code_two.f a1_3).bind fun t310 => (if (((((t306 ++ (⟨#[58]⟩ : ByteArray)) ++ t307) ++ (⟨#[58]⟩ : ByteArray)) ++ t308) ++ t309).size + t310.size ≤ 9223372036854775807 then (some ((((((t306 ++ (⟨#[58]⟩ : ByteArray)) ++ t307) ++ (⟨#[58]⟩ : ByteArray)) ++ t308) ++ t309) ++ t310, 0)) else (none))) else (none))) else (none))) else (none)) else (none))) else (none))) else (some ((⟨#[]⟩ : ByteArray), t305)))) = some (r1, r2) := h
  clear h
  replace H := Option.bind_eq_some_iff.mp H
  obtain ⟨t305, A30, H⟩ := H
  replace H : (if t305 = 0 then ((code_two.f a1_0).bind fun t306 => (if t306.size + 1 ≤ 9223372036854775807 then ((code_two.f a1_1).bind fun t307 => (if (t306 ++ (⟨#[58]⟩ : ByteArray)).size + t307.size ≤ 9223372036854775807 then (if ((t306 ++ (⟨#[58]⟩ : ByteArray)) ++ t307).size + 1 ≤ 9223372036854775807 then ((code_two.f a1_2).bind fun t308 => (if (((t306 ++ (⟨#[58]⟩ : ByteArray)) ++ t307) ++ (⟨#[58]⟩ : ByteArray)).size + t308.size ≤ 9223372036854775807 then ((code_mark.f a0_0 a0_1).bind fun t309 => (if ((((t306 ++ (⟨#[58]⟩ : ByteArray)) ++ t307) ++ (⟨#[58]⟩ : ByteArray)) ++ t308).size + t309.size ≤ 9223372036854775807 then ((code_two.f a1_3).bind fun t310 => (if (((((t306 ++ (⟨#[58]⟩ : ByteArray)) ++ t307) ++ (⟨#[58]⟩ : ByteArray)) ++ t308) ++ t309).size + t310.size ≤ 9223372036854775807 then (some ((((((t306 ++ (⟨#[58]⟩ : ByteArray)) ++ t307) ++ (⟨#[58]⟩ : ByteArray)) ++ t308) ++ t309) ++ t310, 0)) else (none))) else (none))) else (none))) else (none)) else (none))) else (none))) else (some ((⟨#[]⟩ : ByteArray), t305))) = some (r1, r2) := H
  have A3 := Aside0.mk A30
  clear A30
  by_cases c4 : t305 = 0
  · rw [if_pos c4] at H
    have c4b0 : (t305 == 0) = true := beq_iff_eq.mpr c4
    have c4b1 : (t305 != 0) = false := bne_eq_false_iff_eq.mpr c4
    clear c4
    replace H := Option.bind_eq_some_iff.mp H
    obtain ⟨t306, A50, H⟩ := H
    replace H : (if t306.size + 1 ≤ 9223372036854775807 then ((code_two.f a1_1).bind fun t307 => (if (t306 ++ (⟨#[58]⟩ : ByteArray)).size + t307.size ≤ 9223372036854775807 then (if ((t306 ++ (⟨#[58]⟩ : ByteArray)) ++ t307).size + 1 ≤ 9223372036854775807 then ((code_two.f a1_2).bind fun t308 => (if (((t306 ++ (⟨#[58]⟩ : ByteArray)) ++ t307) ++ (⟨#[58]⟩ : ByteArray)).size + t308.size ≤ 9223372036854775807 then ((code_mark.f a0_0 a0_1).bind fun t309 => (if ((((t306 ++ (⟨#[58]⟩ : ByteArray)) ++ t307) ++ (⟨#[58]⟩ : ByteArray)) ++ t308).size + t309.size ≤ 9223372036854775807 then ((code_two.f a1_3).bind fun t310 => (if (((((t306 ++ (⟨#[58]⟩ : ByteArray)) ++ t307) ++ (⟨#[58]⟩ : ByteArray)) ++ t308) ++ t309).size + t310.size ≤ 9223372036854775807 then (some ((((((t306 ++ (⟨#[58]⟩ : ByteArray)) ++ t307) ++ (⟨#[58]⟩ : ByteArray)) ++ t308) ++ t309) ++ t310, 0)) else (none))) else (none))) else (none))) else (none)) else (none))) else (none)) = some (r1, r2) := H
    have A5 := Aside0.mk A50
    clear A50
    by_cases c6 : t306.size + 1 ≤ 9223372036854775807
    · rw [if_pos c6] at H
      have c6b0 := eq_true c6
      have c6b1 : decide (t306.size + 1 ≤ 9223372036854775807) = true := decide_eq_true c6
      try have c6b2 : (9223372036854775807 < t306.size + 1) = False := eq_false (Nat.not_lt.2 c6)
      replace H := Option.bind_eq_some_iff.mp H
      obtain ⟨t307, A70, H⟩ := H
      replace H : (if (t306 ++ (⟨#[58]⟩ : ByteArray)).size + t307.size ≤ 9223372036854775807 then (if ((t306 ++ (⟨#[58]⟩ : ByteArray)) ++ t307).size + 1 ≤ 9223372036854775807 then ((code_two.f a1_2).bind fun t308 => (if (((t306 ++ (⟨#[58]⟩ : ByteArray)) ++ t307) ++ (⟨#[58]⟩ : ByteArray)).size + t308.size ≤ 9223372036854775807 then ((code_mark.f a0_0 a0_1).bind fun t309 => (if ((((t306 ++ (⟨#[58]⟩ : ByteArray)) ++ t307) ++ (⟨#[58]⟩ : ByteArray)) ++ t308).size + t309.size ≤ 9223372036854775807 then ((code_two.f a1_3).bind fun t310 => (if (((((t306 ++ (⟨#[58]⟩ : ByteArray)) ++ t307) ++ (⟨#[58]⟩ : ByteArray)) ++ t308) ++ t309).size + t310.size ≤ 9223372036854775807 then (some ((((((t306 ++ (⟨#[58]⟩ : ByteArray)) ++ t307) ++ (⟨#[58]⟩ : ByteArray)) ++ t308) ++ t309) ++ t310, 0)) else (none))) else (none))) else (none))) else (none)) else (none)) = some (r1, r2) := H
      have A7 := Aside0.mk A70
      clear A70
      by_cases c8 : (t306 ++ (⟨#[58]⟩ : ByteArray)).size + t307.size ≤ 9223372036854775807
      · rw [if_pos c8] at H
        have c8b0 := eq_true c8
        have c8b1 : decide ((t306 ++ (⟨#[58]⟩ : ByteArray)).size + t307.size ≤ 9223372036854775807) = true := decide_eq_true c8
        try have c8b2 : (9223372036854775807 < (t306 ++ (⟨#[58]⟩ : ByteArray)).size + t307.size) = False := eq_false (Nat.not_lt.2 c8)
        try have c8b9 : (9223372036854775807 < t306.size + 1 + t307.size) = False := eq_false (by have c_ := c8; simp only [ByteArray.size_append] at c_; exact Nat.not_lt.2 c_)
        by_cases c9 : ((t306 ++ (⟨#[58]⟩ : ByteArray)) ++ t307).size + 1 ≤ 9223372036854775807
        · rw [if_pos c9] at H
          have c9b0 := eq_true c9
          have c9b1 : decide (((t306 ++ (⟨#[58]⟩ : ByteArray)) ++ t307).size + 1 ≤ 9223372036854775807) = true := decide_eq_true c9
          try have c9b2 : (9223372036854775807 < ((t306 ++ (⟨#[58]⟩ : ByteArray)) ++ t307).size + 1) = False := eq_false (Nat.not_lt.2 c9)
          try have c9b9 : (9223372036854775807 < t306.size + 1 + t307.size + 1) = False := eq_false (by have c_ := c9; simp only [ByteArray.size_append] at c_; exact Nat.not_lt.2 c_)
          replace H := Option.bind_eq_some_iff.mp H
          obtain ⟨t308, A100, H⟩ := H
          replace H : (if (((t306 ++ (⟨#[58]⟩ : ByteArray)) ++ t307) ++ (⟨#[58]⟩ : ByteArray)).size + t308.size ≤ 9223372036854775807 then ((code_mark.f a0_0 a0_1).bind fun t309 => (if ((((t306 ++ (⟨#[58]⟩ : ByteArray)) ++ t307) ++ (⟨#[58]⟩ : ByteArray)) ++ t308).size + t309.size ≤ 9223372036854775807 then ((code_two.f a1_3).bind fun t310 => (if (((((t306 ++ (⟨#[58]⟩ : ByteArray)) ++ t307) ++ (⟨#[58]⟩ : ByteArray)) ++ t308) ++ t309).size + t310.size ≤ 9223372036854775807 then (some ((((((t306 ++ (⟨#[58]⟩ : ByteArray)) ++ t307) ++ (⟨#[58]⟩ : ByteArray)) ++ t308) ++ t309) ++ t310, 0)) else (none))) else (none))) else (none)) = some (r1, r2) := H
          have A10 := Aside0.mk A100
          clear A100
          by_cases c11 : (((t306 ++ (⟨#[58]⟩ : ByteArray)) ++ t307) ++ (⟨#[58]⟩ : ByteArray)).size + t308.size ≤ 9223372036854775807
          · rw [if_pos c11] at H
            have c11b0 := eq_true c11
            have c11b1 : decide ((((t306 ++ (⟨#[58]⟩ : ByteArray)) ++ t307) ++ (⟨#[58]⟩ : ByteArray)).size + t308.size ≤ 9223372036854775807) = true := decide_eq_true c11
            try have c11b2 : (9223372036854775807 < (((t306 ++ (⟨#[58]⟩ : ByteArray)) ++ t307) ++ (⟨#[58]⟩ : ByteArray)).size + t308.size) = False := eq_false (Nat.not_lt.2 c11)
            try have c11b9 : (9223372036854775807 < t306.size + 1 + t307.size + 1 + t308.size) = False := eq_false (by have c_ := c11; simp only [ByteArray.size_append] at c_; exact Nat.not_lt.2 c_)
            replace H := Option.bind_eq_some_iff.mp H
            obtain ⟨t309, A120, H⟩ := H
            replace H : (if ((((t306 ++ (⟨#[58]⟩ : ByteArray)) ++ t307) ++ (⟨#[58]⟩ : ByteArray)) ++ t308).size + t309.size ≤ 9223372036854775807 then ((code_two.f a1_3).bind fun t310 => (if (((((t306 ++ (⟨#[58]⟩ : ByteArray)) ++ t307) ++ (⟨#[58]⟩ : ByteArray)) ++ t308) ++ t309).size + t310.size ≤ 9223372036854775807 then (some ((((((t306 ++ (⟨#[58]⟩ : ByteArray)) ++ t307) ++ (⟨#[58]⟩ : ByteArray)) ++ t308) ++ t309) ++ t310, 0)) else (none))) else (none)) = some (r1, r2) := H
            have A12 := Aside0.mk A120
            clear A120
            by_cases c13 : ((((t306 ++ (⟨#[58]⟩ : ByteArray)) ++ t307) ++ (⟨#[58]⟩ : ByteArray)) ++ t308).size + t309.size ≤ 9223372036854775807
            · rw [if_pos c13] at H
              have c13b0 := eq_true c13
              have c13b1 : decide (((((t306 ++ (⟨#[58]⟩ : ByteArray)) ++ t307) ++ (⟨#[58]⟩ : ByteArray)) ++ t308).size + t309.size ≤ 9223372036854775807) = true := decide_eq_true c13
              try have c13b2 : (9223372036854775807 < ((((t306 ++ (⟨#[58]⟩ : ByteArray)) ++ t307) ++ (⟨#[58]⟩ : ByteArray)) ++ t308).size + t309.size) = False := eq_false (Nat.not_lt.2 c13)
              try have c13b9 : (9223372036854775807 < t306.size + 1 + t307.size + 1 + t308.size + t309.size) = False := eq_false (by have c_ := c13; simp only [ByteArray.size_append] at c_; exact Nat.not_lt.2 c_)
              replace H := Option.bind_eq_some_iff.mp H
              obtain ⟨t310, A140, H⟩ := H
              replace H : (if (((((t306 ++ (⟨#[58]⟩ : ByteArray)) ++ t307) ++ (⟨#[58]⟩ : ByteArray)) ++ t308) ++ t309).size + t310.size ≤ 9223372036854775807 then (some ((((((t306 ++ (⟨#[58]⟩ : ByteArray)) ++ t307) ++ (⟨#[58]⟩ : ByteArray)) ++ t308) ++ t309) ++ t310, 0)) else (none)) = some (r1, r2) := H
              have A14 := Aside0.mk A140
              clear A140
              by_cases c15 : (((((t306 ++ (⟨#[58]⟩ : ByteArray)) ++ t307) ++ (⟨#[58]⟩ : ByteArray)) ++ t308) ++ t309).size + t310.size ≤ 9223372036854775807
              · rw [if_pos c15] at H
                have c15b0 := eq_true c15
                have c15b1 : decide ((((((t306 ++ (⟨#[58]⟩ : ByteArray)) ++ t307) ++ (⟨#[58]⟩ : ByteArray)) ++ t308) ++ t309).size + t310.size ≤ 9223372036854775807) = true := decide_eq_true c15
                try have c15b2 : (9223372036854775807 < (((((t306 ++ (⟨#[58]⟩ : ByteArray)) ++ t307) ++ (⟨#[58]⟩ : ByteArray)) ++ t308) ++ t309).size + t310.size) = False := eq_false (Nat.not_lt.2 c15)
                try have c15b9 : (9223372036854775807 < t306.size + 1 + t307.size + 1 + t308.size + t309.size + t310.size) = False := eq_false (by have c_ := c15; simp only [ByteArray.size_append] at c_; exact Nat.not_lt.2 c_)
                simp only [Option.some.injEq, Prod.mk.injEq] at H
                obtain ⟨rfl, rfl⟩ := H
                go_enter Try.func20, Try.ntmps20
                try go_wp2_with (first | ((with_reducible refine gate_dst (N := 2) rfl ?_); refine box_event ?hg (N := 2) ?hd (cs := #[.int .i64 a0_0, .bool a0_1]) (t := 23) ?hr ?_; (case hd => rfl); (case hg => rfl); (case hr => first | (go_simp; done) | (go_simp; rfl)); intro gb303 hg w16 hbox hb; have n0_ := Aside0.mk (below_step (by repeat (first | (with_reducible first | exact HB.out | apply below_alloc | apply pw_below_drewN | apply below_drew1) | exact HB.out)) hb); have n1_ := Aside0.mk (hbox); have n2_ := Aside0.mk ((by rw [hg]; exact (below_size (by repeat (first | (with_reducible first | exact HB.out | apply below_alloc | apply pw_below_drewN | apply below_drew1) | exact HB.out))) : w.heap.size ≤ gb303)); have n3_ := Aside0.mk ((by rw [hg]; exact (below_size (by repeat (first | (with_reducible first | exact HB.out | apply below_alloc | apply pw_below_drewN | apply below_drew1) | exact HB.out))) : w.heap.size ≤ gb303)); clear HB; have HB := n0_; have BK303 := n1_; have GW303 := n2_; have GE303 := n3_; clear n0_ n1_ n2_ n3_; clear hb hbox hg) | ((with_reducible refine gate_dst (N := 3) rfl ?_); refine box_event ?hg (N := 3) ?hd (cs := #[.int .i64 a1_0, .int .i64 a1_1, .int .i64 a1_2, .int .i64 a1_3]) (t := 25) ?hr ?_; (case hd => rfl); (case hg => rfl); (case hr => first | (go_simp; done) | (go_simp; rfl)); intro gb304 hg w17 hbox hb; have n0_ := Aside0.mk (blk_below (g := gb303) (o := .cells #[.int .i64 a0_0, .bool a0_1] 23 (0, 0)) (by (with_reducible repeat (first | refine blk_drewN ?_ _ | refine blk_drew ?_ | refine blk_alloc ?_ _)); exact BK303.out) hb); have n1_ := Aside0.mk (below_step (by repeat (first | (with_reducible first | exact HB.out | apply below_alloc | apply pw_below_drewN | apply below_drew1 | refine below_set ?_ GE303.out) | exact HB.out)) hb); have n2_ := Aside0.mk (hbox); have n3_ := Aside0.mk ((by rw [hg]; exact (below_size (by repeat (first | (with_reducible first | exact HB.out | apply below_alloc | apply pw_below_drewN | apply below_drew1 | refine below_set ?_ GE303.out) | exact HB.out))) : w.heap.size ≤ gb304)); have n4_ := Aside0.mk ((by rw [hg]; exact (below_size (by repeat (first | (with_reducible first | exact HB.out | apply below_alloc | apply pw_below_drewN | apply below_drew1 | refine below_set ?_ GE303.out) | exact HB.out))) : w.heap.size ≤ gb304)); have n5_ := Aside0.mk ((by rw [hg]; exact Nat.ne_of_lt (blk_lt (g := gb303) (o := .cells #[.int .i64 a0_0, .bool a0_1] 23 (0, 0)) (by (with_reducible repeat (first | refine blk_drewN ?_ _ | refine blk_drew ?_ | refine blk_alloc ?_ _)); exact BK303.out)) : gb303 ≠ gb304)); have n6_ := Aside0.mk ((by rw [hg]; exact Nat.ne_of_gt (blk_lt (g := gb303) (o := .cells #[.int .i64 a0_0, .bool a0_1] 23 (0, 0)) (by (with_reducible repeat (first | refine blk_drewN ?_ _ | refine blk_drew ?_ | refine blk_alloc ?_ _)); exact BK303.out)) : gb304 ≠ gb303)); clear BK303; clear HB; have BK303 := n0_; have HB := n1_; have BK304 := n2_; have GW304 := n3_; have GE304 := n4_; have NB303_304 := n5_; have NB304_303 := n6_; clear n0_ n1_ n2_ n3_ n4_ n5_ n6_; clear hb hbox hg; have hnb18 := NB303_304.out; have hnc18 := NB304_303.out; have hcz19_0 : w17.cell? ⟨gb303, 0, none⟩ = some (.int .i64 a0_0) := (blk_cell BK303.out 0).trans rfl; have hcz19_1 : w17.cell? ⟨gb303, 1, none⟩ = some (.bool a0_1) := (blk_cell BK303.out 1).trans rfl; have hfz19_0 := blk_frozen BK303.out 0; have hfz19_1 := blk_frozen BK303.out 1; have hcz20_0 : w17.cell? ⟨gb304, 0, none⟩ = some (.int .i64 a1_0) := (blk_cell BK304.out 0).trans rfl; have hcz20_1 : w17.cell? ⟨gb304, 1, none⟩ = some (.int .i64 a1_1) := (blk_cell BK304.out 1).trans rfl; have hcz20_2 : w17.cell? ⟨gb304, 2, none⟩ = some (.int .i64 a1_2) := (blk_cell BK304.out 2).trans rfl; have hcz20_3 : w17.cell? ⟨gb304, 3, none⟩ = some (.int .i64 a1_3) := (blk_cell BK304.out 3).trans rfl; have hfz20_0 := blk_frozen BK304.out 0; have hfz20_1 := blk_frozen BK304.out 1; have hfz20_2 := blk_frozen BK304.out 2; have hfz20_3 := blk_frozen BK304.out 3) | ((with_reducible refine gate_callee (f := 43) rfl ?_); refine goesL_ (some 9) rfl rfl Try.func43 (by kernel_rfl) rfl #[.agg #[.int .i64 a0_0, .bool a0_1], .agg #[.int .i64 a1_0, .int .i64 a1_1, .int .i64 a1_2, .int .i64 a1_3]] rfl (by (try simp only [List.map_toArray, List.map_cons, List.map_nil]); first | done | rfl | (simp only [List.length_drop, List.length_take]; rfl)) ?_; (with_reducible refine (code_checked.calls k a0_0 a0_1 a1_0 a1_1 a1_2 a1_3 t305 _ A3.out).mono ?_); rintro e w21 ⟨rfl, hb⟩; refine ⟨_, rfl, ?_⟩; have n0_ := Aside0.mk (blk_below (g := gb303) (o := .cells #[.int .i64 a0_0, .bool a0_1] 23 (0, 0)) (by (with_reducible repeat (first | refine blk_drewN ?_ _ | refine blk_drew ?_ | refine blk_alloc ?_ _)); exact BK303.out) hb); have n1_ := Aside0.mk (blk_below (g := gb304) (o := .cells #[.int .i64 a1_0, .int .i64 a1_1, .int .i64 a1_2, .int .i64 a1_3] 25 (0, 0)) (by (with_reducible repeat (first | refine blk_drewN ?_ _ | refine blk_drew ?_ | refine blk_alloc ?_ _)); exact BK304.out) hb); have n2_ := Aside0.mk (below_step (by repeat (first | (with_reducible first | exact HB.out | apply below_alloc | apply pw_below_drewN | apply below_drew1 | refine below_set ?_ GE303.out | refine below_set ?_ GE304.out) | exact HB.out)) hb); clear BK303; clear BK304; clear HB; have BK303 := n0_; have BK304 := n1_; have HB := n2_; clear n0_ n1_ n2_; (try clear hb); (try clear hb2); (try clear hk); (try clear hi)))
                have n0_ := Aside0.mk (blk_drew BK303.out)
                have n1_ := Aside0.mk (blk_drew BK304.out)
                have n2_ := Aside0.mk (below_drew1 HB.out)
                clear BK303
                clear BK304
                clear HB
                have BK303 := n0_
                have BK304 := n1_
                have HB := n2_
                clear n0_ n1_ n2_
                refine start_ (n := 22) (S := fun w' => w'.cell? ⟨gb304, 0, none⟩ = some (.int .i64 a1_0) ∧ w'.cell? ⟨gb304, 1, none⟩ = some (.int .i64 a1_1) ∧ w'.cell? ⟨gb304, 2, none⟩ = some (.int .i64 a1_2) ∧ w'.cell? ⟨gb304, 3, none⟩ = some (.int .i64 a1_3) ∧ w'.cell? ⟨gb303, 0, none⟩ = some (.int .i64 a0_0) ∧ w'.cell? ⟨gb303, 1, none⟩ = some (.bool a0_1)) (ds := []) #[false, false, false, false, false, false, false, false, false, false, false, false, false, false, false, false, false, false, false, false, false, false] (by kernel_rfl) rfl rfl ⟨(blk_cell BK304.out 0).trans rfl, (blk_cell BK304.out 1).trans rfl, (blk_cell BK304.out 2).trans rfl, (blk_cell BK304.out 3).trans rfl, (blk_cell BK303.out 0).trans rfl, (blk_cell BK303.out 1).trans rfl⟩ (fun hHeld => ?_); refine with_tabW code_Format.tab4 code_Format.bits4 (fun HT_ HW_ => ?_)
                generalize w21.drew = w22 at BK303 BK304 HB hHeld ⊢
                refine pure_ (i := 0) (N := some 13) (v := ?_) (a' := ?_) #[true, false, false, false, false, false, false, false, false, false, false, false, false, false, false, false, false, false, false, false, false, false] rfl rfl (any_of HT_.out (by kernel_rfl)) (fun _ _ _ h => h) (Or.inl ⟨by rfl, ?_⟩) ?_ ?_
                rotate_left
                · intro w'
                  go_simp
                  with_reducible rfl
                rotate_left
                · simp only [Act.put, List.setIfInBounds_toArray, List.set_cons_zero, List.set_cons_succ, i64_w, i32_w]
                  rfl
                refine pure_ (i := 4) (N := some 17) (v := ?_) (a' := ?_) #[true, false, false, false, true, false, false, false, false, false, false, false, false, false, false, false, false, false, false, false, false, false] rfl rfl (any_of HT_.out (by kernel_rfl)) (fun _ _ _ h => h) (Or.inl ⟨by rfl, ?_⟩) ?_ ?_
                rotate_left
                · intro w'
                  go_simp
                  with_reducible rfl
                rotate_left
                · simp only [Act.put, List.setIfInBounds_toArray, List.set_cons_zero, List.set_cons_succ, i64_w, i32_w]
                  rfl
                refine pure_ (i := 9) (N := some 22) (v := ?_) (a' := ?_) #[true, false, false, false, true, false, false, false, false, true, false, false, false, false, false, false, false, false, false, false, false, false] rfl rfl (any_of HT_.out (by kernel_rfl)) (fun _ _ _ h => h) (Or.inl ⟨by rfl, ?_⟩) ?_ ?_
                rotate_left
                · intro w'
                  go_simp
                  with_reducible rfl
                rotate_left
                · simp only [Act.put, List.setIfInBounds_toArray, List.set_cons_zero, List.set_cons_succ, i64_w, i32_w]
                  rfl
                refine pure_ (i := 16) (N := some 29) (v := ?_) (a' := ?_) #[true, false, false, false, true, false, false, false, false, true, false, false, false, false, false, false, true, false, false, false, false, false] rfl rfl (any_of HT_.out (by kernel_rfl)) (fun _ _ _ h => h) (Or.inl ⟨by rfl, ?_⟩) ?_ ?_
                rotate_left
                · intro w'
                  go_simp
                  with_reducible rfl
                rotate_left
                · simp only [Act.put, List.setIfInBounds_toArray, List.set_cons_zero, List.set_cons_succ, i64_w, i32_w]
                  rfl
                refine take_ (i := 1) (N := some 14) (v := ?_) (a' := ?_) #[true, true, false, false, true, false, false, false, false, true, false, false, false, false, false, false, true, false, false, false, false, false] rfl rfl (take_ofW HT_.out HW_.out (by kernel_rfl)) (fun _ _ _ h => h) (Or.inl ⟨by rfl, ?_⟩) hHeld ?_ ?_
                rotate_left
                · rintro w' ⟨s0, s1, s2, s3, s4, s5⟩
                  go_simp
                  with_reducible rfl
                rotate_left
                · simp only [Act.put, List.setIfInBounds_toArray, List.set_cons_zero, List.set_cons_succ, i64_w, i32_w]
                  rfl
                refine take_ (i := 5) (N := some 18) (v := ?_) (a' := ?_) #[true, true, false, false, true, true, false, false, false, true, false, false, false, false, false, false, true, false, false, false, false, false] rfl rfl (take_ofW HT_.out HW_.out (by kernel_rfl)) (fun _ _ _ h => h) (Or.inl ⟨by rfl, ?_⟩) hHeld ?_ ?_
                rotate_left
                · rintro w' ⟨s0, s1, s2, s3, s4, s5⟩
                  go_simp
                  with_reducible rfl
                rotate_left
                · simp only [Act.put, List.setIfInBounds_toArray, List.set_cons_zero, List.set_cons_succ, i64_w, i32_w]
                  rfl
                refine take_ (i := 10) (N := some 23) (v := ?_) (a' := ?_) #[true, true, false, false, true, true, false, false, false, true, true, false, false, false, false, false, true, false, false, false, false, false] rfl rfl (take_ofW HT_.out HW_.out (by kernel_rfl)) (fun _ _ _ h => h) (Or.inl ⟨by rfl, ?_⟩) hHeld ?_ ?_
                rotate_left
                · rintro w' ⟨s0, s1, s2, s3, s4, s5⟩
                  go_simp
                  with_reducible rfl
                rotate_left
                · simp only [Act.put, List.setIfInBounds_toArray, List.set_cons_zero, List.set_cons_succ, i64_w, i32_w]
                  rfl
                refine take_ (i := 13) (N := some 26) (v := ?_) (a' := ?_) #[true, true, false, false, true, true, false, false, false, true, true, false, false, true, false, false, true, false, false, false, false, false] rfl rfl (take_ofW HT_.out HW_.out (by kernel_rfl)) (fun _ _ _ h => h) (Or.inl ⟨by rfl, ?_⟩) hHeld ?_ ?_
                rotate_left
                · rintro w' ⟨s0, s1, s2, s3, s4, s5⟩
                  go_simp
                  with_reducible rfl
                rotate_left
                · simp only [Act.put, List.setIfInBounds_toArray, List.set_cons_zero, List.set_cons_succ, i64_w, i32_w]
                  rfl
                refine take_ (i := 17) (N := some 30) (v := ?_) (a' := ?_) #[true, true, false, false, true, true, false, false, false, true, true, false, false, true, false, false, true, true, false, false, false, false] rfl rfl (take_ofW HT_.out HW_.out (by kernel_rfl)) (fun _ _ _ h => h) (Or.inl ⟨by rfl, ?_⟩) hHeld ?_ ?_
                rotate_left
                · rintro w' ⟨s0, s1, s2, s3, s4, s5⟩
                  go_simp
                  with_reducible rfl
                rotate_left
                · simp only [Act.put, List.setIfInBounds_toArray, List.set_cons_zero, List.set_cons_succ, i64_w, i32_w]
                  rfl
                refine one_ (i := 2) (N := some 15) #[true, true, true, false, true, true, false, false, false, true, true, false, false, true, false, false, true, true, false, false, false, false] rfl rfl (one_of HT_.out (by kernel_rfl)) (by decide) (fun K hK => ?_)
                refine goes_ Try.func48 (by kernel_rfl) rfl #[.int .i64 a1_0] (by rfl) rfl rfl (by (try simp only [List.map_toArray, List.map_cons, List.map_nil]); first | done | rfl | (simp only [List.length_drop, List.length_take]; rfl)) ?_
                with_reducible refine (code_two.calls a1_0 t306 _ A5.out).mono ?_
                rintro e w23 ⟨rfl, hb⟩
                refine ⟨_, rfl, ?_⟩
                have n0_ := Aside0.mk (blk_below (g := gb303) (o := .cells #[.int .i64 a0_0, .bool a0_1] 23 (0, 0)) (by (with_reducible repeat (first | refine blk_drewN ?_ _ | refine blk_drew ?_ | refine blk_alloc ?_ _)); exact BK303.out) hb)
                have n1_ := Aside0.mk (blk_below (g := gb304) (o := .cells #[.int .i64 a1_0, .int .i64 a1_1, .int .i64 a1_2, .int .i64 a1_3] 25 (0, 0)) (by (with_reducible repeat (first | refine blk_drewN ?_ _ | refine blk_drew ?_ | refine blk_alloc ?_ _)); exact BK304.out) hb)
                have n2_ := Aside0.mk (below_step (by repeat (first | (with_reducible first | exact HB.out | apply below_alloc | apply pw_below_drewN | apply below_drew1 | refine below_set ?_ GE303.out | refine below_set ?_ GE304.out) | exact HB.out)) hb)
                clear BK303
                clear BK304
                clear HB
                have BK303 := n0_
                have BK304 := n1_
                have HB := n2_
                clear n0_ n1_ n2_
                (try clear hb)
                (try clear hb2)
                (try clear hk)
                (try clear hi)
                refine hK.out _ _ ⟨(blk_cell BK304.out 0).trans rfl, (blk_cell BK304.out 1).trans rfl, (blk_cell BK304.out 2).trans rfl, (blk_cell BK304.out 3).trans rfl, (blk_cell BK303.out 0).trans rfl, (blk_cell BK303.out 1).trans rfl⟩ (fun hHeld => ?_)
                clear hK K
                refine norm_ (a' := ?_) ?_ ?_
                rotate_left
                · show Act.put _ (some 15) _ = _
                  simp only [Act.put, List.setIfInBounds_toArray, List.set_cons_zero, List.set_cons_succ, i64_w, i32_w]
                  rfl
                refine pure_ (i := 3) (N := some 16) (v := ?_) (a' := ?_) #[true, true, true, true, true, true, false, false, false, true, true, false, false, true, false, false, true, true, false, false, false, false] rfl rfl (any_of HT_.out (by kernel_rfl)) (fun _ _ _ h => h) (Or.inl ⟨by rfl, ?_⟩) ?_ ?_
                rotate_left
                · intro w'
                  go_simp
                  with_reducible rfl
                rotate_left
                · simp only [Act.put, List.setIfInBounds_toArray, List.set_cons_zero, List.set_cons_succ, i64_w, i32_w]
                  rfl
                refine one_ (i := 6) (N := some 19) #[true, true, true, true, true, true, true, false, false, true, true, false, false, true, false, false, true, true, false, false, false, false] rfl rfl (one_of HT_.out (by kernel_rfl)) (by decide) (fun K hK => ?_)
                refine goes_ Try.func48 (by kernel_rfl) rfl #[.int .i64 a1_1] (by rfl) rfl rfl (by (try simp only [List.map_toArray, List.map_cons, List.map_nil]); first | done | rfl | (simp only [List.length_drop, List.length_take]; rfl)) ?_
                with_reducible refine (code_two.calls a1_1 t307 _ A7.out).mono ?_
                rintro e w24 ⟨rfl, hb⟩
                refine ⟨_, rfl, ?_⟩
                have n0_ := Aside0.mk (blk_below (g := gb303) (o := .cells #[.int .i64 a0_0, .bool a0_1] 23 (0, 0)) (by (with_reducible repeat (first | refine blk_drewN ?_ _ | refine blk_drew ?_ | refine blk_alloc ?_ _)); exact BK303.out) hb)
                have n1_ := Aside0.mk (blk_below (g := gb304) (o := .cells #[.int .i64 a1_0, .int .i64 a1_1, .int .i64 a1_2, .int .i64 a1_3] 25 (0, 0)) (by (with_reducible repeat (first | refine blk_drewN ?_ _ | refine blk_drew ?_ | refine blk_alloc ?_ _)); exact BK304.out) hb)
                have n2_ := Aside0.mk (below_step (by repeat (first | (with_reducible first | exact HB.out | apply below_alloc | apply pw_below_drewN | apply below_drew1 | refine below_set ?_ GE303.out | refine below_set ?_ GE304.out) | exact HB.out)) hb)
                clear BK303
                clear BK304
                clear HB
                have BK303 := n0_
                have BK304 := n1_
                have HB := n2_
                clear n0_ n1_ n2_
                (try clear hb)
                (try clear hb2)
                (try clear hk)
                (try clear hi)
                refine hK.out _ _ ⟨(blk_cell BK304.out 0).trans rfl, (blk_cell BK304.out 1).trans rfl, (blk_cell BK304.out 2).trans rfl, (blk_cell BK304.out 3).trans rfl, (blk_cell BK303.out 0).trans rfl, (blk_cell BK303.out 1).trans rfl⟩ (fun hHeld => ?_)
                clear hK K
                refine norm_ (a' := ?_) ?_ ?_
                rotate_left
                · show Act.put _ (some 19) _ = _
                  simp only [Act.put, List.setIfInBounds_toArray, List.set_cons_zero, List.set_cons_succ, i64_w, i32_w]
                  rfl
                refine pure_ (i := 7) (N := some 20) (v := ?_) (a' := ?_) #[true, true, true, true, true, true, true, true, false, true, true, false, false, true, false, false, true, true, false, false, false, false] rfl rfl (any_of HT_.out (by kernel_rfl)) (fun _ _ _ h => h) (Or.inl ⟨by rfl, ?_⟩) ?_ ?_
                rotate_left
                · intro w'
                  go_simp
                  with_reducible rfl
                rotate_left
                · simp only [Act.put, List.setIfInBounds_toArray, List.set_cons_zero, List.set_cons_succ, i64_w, i32_w]
                  rfl
                refine pure_ (i := 8) (N := some 21) (v := ?_) (a' := ?_) #[true, true, true, true, true, true, true, true, true, true, true, false, false, true, false, false, true, true, false, false, false, false] rfl rfl (any_of HT_.out (by kernel_rfl)) (fun _ _ _ h => h) (Or.inl ⟨by rfl, ?_⟩) ?_ ?_
                rotate_left
                · intro w'
                  go_simp
                  with_reducible rfl
                rotate_left
                · simp only [Act.put, List.setIfInBounds_toArray, List.set_cons_zero, List.set_cons_succ, i64_w, i32_w]
                  rfl
                refine one_ (i := 11) (N := some 24) #[true, true, true, true, true, true, true, true, true, true, true, true, false, true, false, false, true, true, false, false, false, false] rfl rfl (one_of HT_.out (by kernel_rfl)) (by decide) (fun K hK => ?_)
                refine goes_ Try.func48 (by kernel_rfl) rfl #[.int .i64 a1_2] (by rfl) rfl rfl (by (try simp only [List.map_toArray, List.map_cons, List.map_nil]); first | done | rfl | (simp only [List.length_drop, List.length_take]; rfl)) ?_
                with_reducible refine (code_two.calls a1_2 t308 _ A10.out).mono ?_
                rintro e w25 ⟨rfl, hb⟩
                refine ⟨_, rfl, ?_⟩
                have n0_ := Aside0.mk (blk_below (g := gb303) (o := .cells #[.int .i64 a0_0, .bool a0_1] 23 (0, 0)) (by (with_reducible repeat (first | refine blk_drewN ?_ _ | refine blk_drew ?_ | refine blk_alloc ?_ _)); exact BK303.out) hb)
                have n1_ := Aside0.mk (blk_below (g := gb304) (o := .cells #[.int .i64 a1_0, .int .i64 a1_1, .int .i64 a1_2, .int .i64 a1_3] 25 (0, 0)) (by (with_reducible repeat (first | refine blk_drewN ?_ _ | refine blk_drew ?_ | refine blk_alloc ?_ _)); exact BK304.out) hb)
                have n2_ := Aside0.mk (below_step (by repeat (first | (with_reducible first | exact HB.out | apply below_alloc | apply pw_below_drewN | apply below_drew1 | refine below_set ?_ GE303.out | refine below_set ?_ GE304.out) | exact HB.out)) hb)
                clear BK303
                clear BK304
                clear HB
                have BK303 := n0_
                have BK304 := n1_
                have HB := n2_
                clear n0_ n1_ n2_
                (try clear hb)
                (try clear hb2)
                (try clear hk)
                (try clear hi)
                refine hK.out _ _ ⟨(blk_cell BK304.out 0).trans rfl, (blk_cell BK304.out 1).trans rfl, (blk_cell BK304.out 2).trans rfl, (blk_cell BK304.out 3).trans rfl, (blk_cell BK303.out 0).trans rfl, (blk_cell BK303.out 1).trans rfl⟩ (fun hHeld => ?_)
                clear hK K
                refine norm_ (a' := ?_) ?_ ?_
                rotate_left
                · show Act.put _ (some 24) _ = _
                  simp only [Act.put, List.setIfInBounds_toArray, List.set_cons_zero, List.set_cons_succ, i64_w, i32_w]
                  rfl
                refine pure_ (i := 12) (N := some 25) (v := ?_) (a' := ?_) #[true, true, true, true, true, true, true, true, true, true, true, true, true, true, false, false, true, true, false, false, false, false] rfl rfl (any_of HT_.out (by kernel_rfl)) (fun _ _ _ h => h) (Or.inl ⟨by rfl, ?_⟩) ?_ ?_
                rotate_left
                · intro w'
                  go_simp
                  with_reducible rfl
                rotate_left
                · simp only [Act.put, List.setIfInBounds_toArray, List.set_cons_zero, List.set_cons_succ, i64_w, i32_w]
                  rfl
                refine one_ (i := 14) (N := some 27) #[true, true, true, true, true, true, true, true, true, true, true, true, true, true, true, false, true, true, false, false, false, false] rfl rfl (one_of HT_.out (by kernel_rfl)) (by decide) (fun K hK => ?_)
                refine goes_ Try.func49 (by kernel_rfl) rfl #[.agg #[.int .i64 a0_0, .bool a0_1]] (by rfl) rfl rfl (by (try simp only [List.map_toArray, List.map_cons, List.map_nil]); first | done | rfl | (simp only [List.length_drop, List.length_take]; rfl)) ?_
                with_reducible refine (code_mark.calls a0_0 a0_1 t309 _ A12.out).mono ?_
                rintro e w26 ⟨rfl, hb⟩
                refine ⟨_, rfl, ?_⟩
                have n0_ := Aside0.mk (blk_below (g := gb303) (o := .cells #[.int .i64 a0_0, .bool a0_1] 23 (0, 0)) (by (with_reducible repeat (first | refine blk_drewN ?_ _ | refine blk_drew ?_ | refine blk_alloc ?_ _)); exact BK303.out) hb)
                have n1_ := Aside0.mk (blk_below (g := gb304) (o := .cells #[.int .i64 a1_0, .int .i64 a1_1, .int .i64 a1_2, .int .i64 a1_3] 25 (0, 0)) (by (with_reducible repeat (first | refine blk_drewN ?_ _ | refine blk_drew ?_ | refine blk_alloc ?_ _)); exact BK304.out) hb)
                have n2_ := Aside0.mk (below_step (by repeat (first | (with_reducible first | exact HB.out | apply below_alloc | apply pw_below_drewN | apply below_drew1 | refine below_set ?_ GE303.out | refine below_set ?_ GE304.out) | exact HB.out)) hb)
                clear BK303
                clear BK304
                clear HB
                have BK303 := n0_
                have BK304 := n1_
                have HB := n2_
                clear n0_ n1_ n2_
                (try clear hb)
                (try clear hb2)
                (try clear hk)
                (try clear hi)
                refine hK.out _ _ ⟨(blk_cell BK304.out 0).trans rfl, (blk_cell BK304.out 1).trans rfl, (blk_cell BK304.out 2).trans rfl, (blk_cell BK304.out 3).trans rfl, (blk_cell BK303.out 0).trans rfl, (blk_cell BK303.out 1).trans rfl⟩ (fun hHeld => ?_)
                clear hK K
                refine norm_ (a' := ?_) ?_ ?_
                rotate_left
                · show Act.put _ (some 27) _ = _
                  simp only [Act.put, List.setIfInBounds_toArray, List.set_cons_zero, List.set_cons_succ, i64_w, i32_w]
                  rfl
                refine pure_ (i := 15) (N := some 28) (v := ?_) (a' := ?_) #[true, true, true, true, true, true, true, true, true, true, true, true, true, true, true, true, true, true, false, false, false, false] rfl rfl (any_of HT_.out (by kernel_rfl)) (fun _ _ _ h => h) (Or.inl ⟨by rfl, ?_⟩) ?_ ?_
                rotate_left
                · intro w'
                  go_simp
                  with_reducible rfl
                rotate_left
                · simp only [Act.put, List.setIfInBounds_toArray, List.set_cons_zero, List.set_cons_succ, i64_w, i32_w]
                  rfl
                refine one_ (i := 18) (N := some 31) #[true, true, true, true, true, true, true, true, true, true, true, true, true, true, true, true, true, true, true, false, false, false] rfl rfl (one_of HT_.out (by kernel_rfl)) (by decide) (fun K hK => ?_)
                refine goes_ Try.func48 (by kernel_rfl) rfl #[.int .i64 a1_3] (by rfl) rfl rfl (by (try simp only [List.map_toArray, List.map_cons, List.map_nil]); first | done | rfl | (simp only [List.length_drop, List.length_take]; rfl)) ?_
                with_reducible refine (code_two.calls a1_3 t310 _ A14.out).mono ?_
                rintro e w27 ⟨rfl, hb⟩
                refine ⟨_, rfl, ?_⟩
                have n0_ := Aside0.mk (blk_below (g := gb303) (o := .cells #[.int .i64 a0_0, .bool a0_1] 23 (0, 0)) (by (with_reducible repeat (first | refine blk_drewN ?_ _ | refine blk_drew ?_ | refine blk_alloc ?_ _)); exact BK303.out) hb)
                have n1_ := Aside0.mk (blk_below (g := gb304) (o := .cells #[.int .i64 a1_0, .int .i64 a1_1, .int .i64 a1_2, .int .i64 a1_3] 25 (0, 0)) (by (with_reducible repeat (first | refine blk_drewN ?_ _ | refine blk_drew ?_ | refine blk_alloc ?_ _)); exact BK304.out) hb)
                have n2_ := Aside0.mk (below_step (by repeat (first | (with_reducible first | exact HB.out | apply below_alloc | apply pw_below_drewN | apply below_drew1 | refine below_set ?_ GE303.out | refine below_set ?_ GE304.out) | exact HB.out)) hb)
                clear BK303
                clear BK304
                clear HB
                have BK303 := n0_
                have BK304 := n1_
                have HB := n2_
                clear n0_ n1_ n2_
                (try clear hb)
                (try clear hb2)
                (try clear hk)
                (try clear hi)
                refine hK.out _ _ ⟨(blk_cell BK304.out 0).trans rfl, (blk_cell BK304.out 1).trans rfl, (blk_cell BK304.out 2).trans rfl, (blk_cell BK304.out 3).trans rfl, (blk_cell BK303.out 0).trans rfl, (blk_cell BK303.out 1).trans rfl⟩ (fun hHeld => ?_)
                clear hK K
                refine norm_ (a' := ?_) ?_ ?_
                rotate_left
                · show Act.put _ (some 31) _ = _
                  simp only [Act.put, List.setIfInBounds_toArray, List.set_cons_zero, List.set_cons_succ, i64_w, i32_w]
                  rfl
                refine pure_ (i := 19) (N := some 32) (v := ?_) (a' := ?_) #[true, true, true, true, true, true, true, true, true, true, true, true, true, true, true, true, true, true, true, true, false, false] rfl rfl (any_of HT_.out (by kernel_rfl)) (fun _ _ _ h => h) (Or.inl ⟨by rfl, ?_⟩) ?_ ?_
                rotate_left
                · intro w'
                  go_simp
                  with_reducible rfl
                rotate_left
                · simp only [Act.put, List.setIfInBounds_toArray, List.set_cons_zero, List.set_cons_succ, i64_w, i32_w]
                  rfl
                refine pure_ (i := 20) (N := some 4) (v := ?_) (a' := ?_) #[true, true, true, true, true, true, true, true, true, true, true, true, true, true, true, true, true, true, true, true, true, false] rfl rfl (any_of HT_.out (by kernel_rfl)) (fun _ _ _ h => h) (Or.inl ⟨by rfl, ?_⟩) ?_ ?_
                rotate_left
                · intro w'
                  go_simp
                  with_reducible rfl
                rotate_left
                · simp only [Act.put, List.setIfInBounds_toArray, List.set_cons_zero, List.set_cons_succ, i64_w, i32_w]
                  rfl
                refine pure_ (i := 21) (N := some 5) (v := ?_) (a' := ?_) #[true, true, true, true, true, true, true, true, true, true, true, true, true, true, true, true, true, true, true, true, true, true] rfl rfl (any_of HT_.out (by kernel_rfl)) (fun _ _ _ h => h) (Or.inl ⟨by rfl, ?_⟩) ?_ ?_
                rotate_left
                · intro w'
                  go_simp
                  with_reducible rfl
                rotate_left
                · simp only [Act.put, List.setIfInBounds_toArray, List.set_cons_zero, List.set_cons_succ, i64_w, i32_w]
                  rfl
                refine done_ (done_of HT_.out (by kernel_rfl)) ?_
                try go_wp2
                go_ret2
                exact ⟨by first | rfl | (simp [errW_none, errW_some] <;> rfl) | (simp [*, errW_none, errW_some] <;> rfl), by repeat (first | (with_reducible first | exact HB.out | apply below_alloc | apply pw_below_drewN | apply below_drew1 | refine below_set ?_ GE303.out | refine below_set ?_ GE304.out) | exact HB.out)⟩
              · rw [if_neg c15] at H
                exact absurd H (by simp)
            · rw [if_neg c13] at H
              exact absurd H (by simp)
          · rw [if_neg c11] at H
            exact absurd H (by simp)
        · rw [if_neg c9] at H
          exact absurd H (by simp)
      · rw [if_neg c8] at H
        exact absurd H (by simp)
    · rw [if_neg c6] at H
      exact absurd H (by simp)
  · rw [if_neg c4] at H
    have c4b0 : (t305 == 0) = false := beq_eq_false_iff_ne.mpr c4
    have c4b1 : (t305 != 0) = true := bne_iff_ne.mpr c4
    simp only [Option.some.injEq, Prod.mk.injEq] at H
    obtain ⟨rfl, rfl⟩ := H
    go_enter Try.func20, Try.ntmps20
    go_wp2_with (first | ((with_reducible refine gate_dst (N := 2) rfl ?_); refine box_event ?hg (N := 2) ?hd (cs := #[.int .i64 a0_0, .bool a0_1]) (t := 23) ?hr ?_; (case hd => rfl); (case hg => rfl); (case hr => first | (go_simp; done) | (go_simp; rfl)); intro gb303 hg w28 hbox hb; have n0_ := Aside0.mk (below_step (by repeat (first | (with_reducible first | exact HB.out | apply below_alloc | apply pw_below_drewN | apply below_drew1) | exact HB.out)) hb); have n1_ := Aside0.mk (hbox); have n2_ := Aside0.mk ((by rw [hg]; exact (below_size (by repeat (first | (with_reducible first | exact HB.out | apply below_alloc | apply pw_below_drewN | apply below_drew1) | exact HB.out))) : w.heap.size ≤ gb303)); have n3_ := Aside0.mk ((by rw [hg]; exact (below_size (by repeat (first | (with_reducible first | exact HB.out | apply below_alloc | apply pw_below_drewN | apply below_drew1) | exact HB.out))) : w.heap.size ≤ gb303)); clear HB; have HB := n0_; have BK303 := n1_; have GW303 := n2_; have GE303 := n3_; clear n0_ n1_ n2_ n3_; clear hb hbox hg) | ((with_reducible refine gate_dst (N := 3) rfl ?_); refine box_event ?hg (N := 3) ?hd (cs := #[.int .i64 a1_0, .int .i64 a1_1, .int .i64 a1_2, .int .i64 a1_3]) (t := 25) ?hr ?_; (case hd => rfl); (case hg => rfl); (case hr => first | (go_simp; done) | (go_simp; rfl)); intro gb304 hg w29 hbox hb; have n0_ := Aside0.mk (blk_below (g := gb303) (o := .cells #[.int .i64 a0_0, .bool a0_1] 23 (0, 0)) (by (with_reducible repeat (first | refine blk_drewN ?_ _ | refine blk_drew ?_ | refine blk_alloc ?_ _)); exact BK303.out) hb); have n1_ := Aside0.mk (below_step (by repeat (first | (with_reducible first | exact HB.out | apply below_alloc | apply pw_below_drewN | apply below_drew1 | refine below_set ?_ GE303.out) | exact HB.out)) hb); have n2_ := Aside0.mk (hbox); have n3_ := Aside0.mk ((by rw [hg]; exact (below_size (by repeat (first | (with_reducible first | exact HB.out | apply below_alloc | apply pw_below_drewN | apply below_drew1 | refine below_set ?_ GE303.out) | exact HB.out))) : w.heap.size ≤ gb304)); have n4_ := Aside0.mk ((by rw [hg]; exact (below_size (by repeat (first | (with_reducible first | exact HB.out | apply below_alloc | apply pw_below_drewN | apply below_drew1 | refine below_set ?_ GE303.out) | exact HB.out))) : w.heap.size ≤ gb304)); have n5_ := Aside0.mk ((by rw [hg]; exact Nat.ne_of_lt (blk_lt (g := gb303) (o := .cells #[.int .i64 a0_0, .bool a0_1] 23 (0, 0)) (by (with_reducible repeat (first | refine blk_drewN ?_ _ | refine blk_drew ?_ | refine blk_alloc ?_ _)); exact BK303.out)) : gb303 ≠ gb304)); have n6_ := Aside0.mk ((by rw [hg]; exact Nat.ne_of_gt (blk_lt (g := gb303) (o := .cells #[.int .i64 a0_0, .bool a0_1] 23 (0, 0)) (by (with_reducible repeat (first | refine blk_drewN ?_ _ | refine blk_drew ?_ | refine blk_alloc ?_ _)); exact BK303.out)) : gb304 ≠ gb303)); clear BK303; clear HB; have BK303 := n0_; have HB := n1_; have BK304 := n2_; have GW304 := n3_; have GE304 := n4_; have NB303_304 := n5_; have NB304_303 := n6_; clear n0_ n1_ n2_ n3_ n4_ n5_ n6_; clear hb hbox hg; have hnb30 := NB303_304.out; have hnc30 := NB304_303.out; have hcz31_0 : w29.cell? ⟨gb303, 0, none⟩ = some (.int .i64 a0_0) := (blk_cell BK303.out 0).trans rfl; have hcz31_1 : w29.cell? ⟨gb303, 1, none⟩ = some (.bool a0_1) := (blk_cell BK303.out 1).trans rfl; have hfz31_0 := blk_frozen BK303.out 0; have hfz31_1 := blk_frozen BK303.out 1; have hcz32_0 : w29.cell? ⟨gb304, 0, none⟩ = some (.int .i64 a1_0) := (blk_cell BK304.out 0).trans rfl; have hcz32_1 : w29.cell? ⟨gb304, 1, none⟩ = some (.int .i64 a1_1) := (blk_cell BK304.out 1).trans rfl; have hcz32_2 : w29.cell? ⟨gb304, 2, none⟩ = some (.int .i64 a1_2) := (blk_cell BK304.out 2).trans rfl; have hcz32_3 : w29.cell? ⟨gb304, 3, none⟩ = some (.int .i64 a1_3) := (blk_cell BK304.out 3).trans rfl; have hfz32_0 := blk_frozen BK304.out 0; have hfz32_1 := blk_frozen BK304.out 1; have hfz32_2 := blk_frozen BK304.out 2; have hfz32_3 := blk_frozen BK304.out 3) | ((with_reducible refine gate_callee (f := 43) rfl ?_); refine goesL_ (some 9) rfl rfl Try.func43 (by kernel_rfl) rfl #[.agg #[.int .i64 a0_0, .bool a0_1], .agg #[.int .i64 a1_0, .int .i64 a1_1, .int .i64 a1_2, .int .i64 a1_3]] rfl (by (try simp only [List.map_toArray, List.map_cons, List.map_nil]); first | done | rfl | (simp only [List.length_drop, List.length_take]; rfl)) ?_; (with_reducible refine (code_checked.calls k a0_0 a0_1 a1_0 a1_1 a1_2 a1_3 t305 _ A3.out).mono ?_); rintro e w33 ⟨rfl, hb⟩; refine ⟨_, rfl, ?_⟩; have n0_ := Aside0.mk (blk_below (g := gb303) (o := .cells #[.int .i64 a0_0, .bool a0_1] 23 (0, 0)) (by (with_reducible repeat (first | refine blk_drewN ?_ _ | refine blk_drew ?_ | refine blk_alloc ?_ _)); exact BK303.out) hb); have n1_ := Aside0.mk (blk_below (g := gb304) (o := .cells #[.int .i64 a1_0, .int .i64 a1_1, .int .i64 a1_2, .int .i64 a1_3] 25 (0, 0)) (by (with_reducible repeat (first | refine blk_drewN ?_ _ | refine blk_drew ?_ | refine blk_alloc ?_ _)); exact BK304.out) hb); have n2_ := Aside0.mk (below_step (by repeat (first | (with_reducible first | exact HB.out | apply below_alloc | apply pw_below_drewN | apply below_drew1 | refine below_set ?_ GE303.out | refine below_set ?_ GE304.out) | exact HB.out)) hb); clear BK303; clear BK304; clear HB; have BK303 := n0_; have BK304 := n1_; have HB := n2_; clear n0_ n1_ n2_; (try clear hb); (try clear hb2); (try clear hk); (try clear hi)))
    go_ret2
    exact ⟨by first | rfl | (simp [errW_none, errW_some] <;> rfl) | (simp [*, errW_none, errW_some] <;> rfl), by repeat (first | (with_reducible first | exact HB.out | apply below_alloc | apply pw_below_drewN | apply below_drew1 | refine below_set ?_ GE303.out | refine below_set ?_ GE304.out) | exact HB.out)⟩

end Go.Proofs.Ytndbhfbgigefnaa.PA
