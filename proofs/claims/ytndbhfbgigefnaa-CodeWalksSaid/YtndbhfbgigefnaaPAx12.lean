-- PRINTED by print.py (a twelfth state) out of the translation. Not trusted: Lean checks it.
import Derived.Test.YtndbhfbgigefnaaPAx0
import Derived.Test.YtndbhfbgigefnaaPAx1
import Derived.Test.YtndbhfbgigefnaaPAx8
import Derived.Test.YtndbhfbgigefnaaPAx11
import Derived.Test.YtndbhfbgigefnaaBetween
namespace Go.Proofs.Ytndbhfbgigefnaa.PA
open Go.RowKit Go.Proofs.YtndbhfbgigefnaaW.PrintWords Go.Proofs.YtndbhfbgigefnaaW.PrintLast Go.Proofs.YtndbhfbgigefnaaW.PrintMore
attribute [local go_sem] max2_int min2_int max_two min_two max_three min_three max_four min_four   -- for this text's walks alone
set_option linter.unusedVariables false
set_option linter.unusedSimpArgs false

attribute [local go_sem high] eqA25
/-! ### dioramalaw20_CodeWalks: function 5 -/
mutual
def dioramalaw20_CodeWalks.j0 : Nat → Int → Bool → Int → Bool → Int → Int → Int → Int → Int → Int → Int → Int → Int → Int → Int → Int → Int → Int → Option (Bool)
  | 0, _, _, _, _, _, _, _, _, _, _, _, _, _, _, _, _, _, _ => none
  | k + 1, x7, x60, x260000, x260001, x261000, x261001, x261002, x261003, x261004, x261005, x261006, x261007, x262000, x262001, x270000, x270001, x270002, x270003 => if x60 = true then ((dioramalaw20_awake.f k).bind fun t270 => (some t270)) else ((code_Add.f k x260000 x260001 x270000 x270001 x270002 x270003 x262001).bind fun bt271 => ((code_Add.f k x260000 x260001 x261000 x261001 x261002 x261003 (wrap64 (x262000 + x262001))).bind fun bt277 => (if bt271.2.2.2.2 = 0 then (if bt277.2.2.2.2 = 0 then (dioramalaw20_CodeWalks.j1 k x7 (!(bt271.1 == bt277.1) || (!(bt271.2.1 == bt277.2.1) || (!(bt271.2.2.1 == bt277.2.2.1) || (!(bt271.2.2.2.1 == bt277.2.2.2.1))))) x260000 x260001 x261000 x261001 x261002 x261003 x261004 x261005 x261006 x261007) else (dioramalaw20_CodeWalks.j1 k x7 true x260000 x260001 x261000 x261001 x261002 x261003 x261004 x261005 x261006 x261007)) else (dioramalaw20_CodeWalks.j1 k x7 true x260000 x260001 x261000 x261001 x261002 x261003 x261004 x261005 x261006 x261007))))
def dioramalaw20_CodeWalks.j1 : Nat → Int → Bool → Int → Bool → Int → Int → Int → Int → Int → Int → Int → Int → Option (Bool)
  | 0, _, _, _, _, _, _, _, _, _, _, _, _ => none
  | k + 1, x7, x92, x260000, x260001, x261000, x261001, x261002, x261003, x261004, x261005, x261006, x261007 => if x92 = true then (some false) else ((code_Add.f k x260000 x260001 x261000 x261001 x261002 x261003 x7).bind fun bt283 => (if bt283.2.2.2.2 = 0 then (dioramalaw20_CodeWalks.j2 k x7 (!(bt283.1 == x261000) || (!(bt283.2.1 == x261001) || (!(bt283.2.2.1 == x261002) || (!(bt283.2.2.2.1 == x261003))))) x260000 x260001 x261000 x261001 x261002 x261003 x261004 x261005 x261006 x261007) else (dioramalaw20_CodeWalks.j2 k x7 true x260000 x260001 x261000 x261001 x261002 x261003 x261004 x261005 x261006 x261007)))
def dioramalaw20_CodeWalks.j2 : Nat → Int → Bool → Int → Bool → Int → Int → Int → Int → Int → Int → Int → Int → Option (Bool)
  | 0, _, _, _, _, _, _, _, _, _, _, _, _ => none
  | k + 1, x7, x108, x260000, x260001, x261000, x261001, x261002, x261003, x261004, x261005, x261006, x261007 => if x108 = true then (some false) else ((code_Between.f k x260000 x260001 x261000 x261001 x261002 x261003 x261004 x261005 x261006 x261007).bind fun bt289 => (if bt289.2 = 0 then ((code_Add.f k x260000 x260001 x261000 x261001 x261002 x261003 bt289.1).bind fun bt291 => (if bt289.1 ≥ 0 then (if bt289.1 < x7 then (if bt291.2.2.2.2 = 0 then (if (bt291.1 == x261004 && (bt291.2.1 == x261005 && (bt291.2.2.1 == x261006 && (bt291.2.2.2.1 == x261007)))) = true then ((dioramalaw20_awake.f k).bind fun t297 => (some t297)) else (some false)) else (some false)) else (some false)) else (some false))) else ((dioramalaw20_awake.f k).bind fun t298 => (some t298))))
end
def dioramalaw20_CodeWalks.f (k : Nat) (a0_0 : Int) (a0_1 : Bool) (a1_0 : Int) (a1_1 : Int) (a1_2 : Int) (a1_3 : Int) (a1_4 : Int) (a1_5 : Int) (a1_6 : Int) (a1_7 : Int) (a2_0 : Int) (a2_1 : Int) : Option (Bool) := (code_Day.f a0_0 a0_1).bind fun bt262 => ((code_Add.f k a0_0 a0_1 a1_0 a1_1 a1_2 a1_3 a2_0).bind fun bt264 => (if bt262.2 = 0 then (if bt264.2.2.2.2 = 0 then (if a2_0 < (-549755813888) then (dioramalaw20_CodeWalks.j0 k bt262.1 true a0_0 a0_1 a1_0 a1_1 a1_2 a1_3 a1_4 a1_5 a1_6 a1_7 a2_0 a2_1 bt264.1 bt264.2.1 bt264.2.2.1 bt264.2.2.2.1) else (if a2_0 > 549755813888 then (dioramalaw20_CodeWalks.j0 k bt262.1 true a0_0 a0_1 a1_0 a1_1 a1_2 a1_3 a1_4 a1_5 a1_6 a1_7 a2_0 a2_1 bt264.1 bt264.2.1 bt264.2.2.1 bt264.2.2.2.1) else (if a2_1 < (-549755813888) then (dioramalaw20_CodeWalks.j0 k bt262.1 true a0_0 a0_1 a1_0 a1_1 a1_2 a1_3 a1_4 a1_5 a1_6 a1_7 a2_0 a2_1 bt264.1 bt264.2.1 bt264.2.2.1 bt264.2.2.2.1) else (dioramalaw20_CodeWalks.j0 k bt262.1 (decide (a2_1 > 549755813888)) a0_0 a0_1 a1_0 a1_1 a1_2 a1_3 a1_4 a1_5 a1_6 a1_7 a2_0 a2_1 bt264.1 bt264.2.1 bt264.2.2.1 bt264.2.2.2.1)))) else (dioramalaw20_CodeWalks.j0 k bt262.1 true a0_0 a0_1 a1_0 a1_1 a1_2 a1_3 a1_4 a1_5 a1_6 a1_7 a2_0 a2_1 bt264.1 bt264.2.1 bt264.2.2.1 bt264.2.2.2.1)) else (dioramalaw20_CodeWalks.j0 k bt262.1 true a0_0 a0_1 a1_0 a1_1 a1_2 a1_3 a1_4 a1_5 a1_6 a1_7 a2_0 a2_1 bt264.1 bt264.2.1 bt264.2.2.1 bt264.2.2.2.1)))
theorem dioramalaw20_CodeWalks.mono_l : ∀ k, (∀ y0 y1 y2 y3 y4 y5 y6 y7 y8 y9 y10 y11 y12 y13 y14 y15 y16 y17, LeO (dioramalaw20_CodeWalks.j0 k y0 y1 y2 y3 y4 y5 y6 y7 y8 y9 y10 y11 y12 y13 y14 y15 y16 y17) (dioramalaw20_CodeWalks.j0 (k + 1) y0 y1 y2 y3 y4 y5 y6 y7 y8 y9 y10 y11 y12 y13 y14 y15 y16 y17)) ∧ (∀ y0 y1 y2 y3 y4 y5 y6 y7 y8 y9 y10 y11, LeO (dioramalaw20_CodeWalks.j1 k y0 y1 y2 y3 y4 y5 y6 y7 y8 y9 y10 y11) (dioramalaw20_CodeWalks.j1 (k + 1) y0 y1 y2 y3 y4 y5 y6 y7 y8 y9 y10 y11)) ∧ (∀ y0 y1 y2 y3 y4 y5 y6 y7 y8 y9 y10 y11, LeO (dioramalaw20_CodeWalks.j2 k y0 y1 y2 y3 y4 y5 y6 y7 y8 y9 y10 y11) (dioramalaw20_CodeWalks.j2 (k + 1) y0 y1 y2 y3 y4 y5 y6 y7 y8 y9 y10 y11))
  | 0 => ⟨fun _ _ _ _ _ _ _ _ _ _ _ _ _ _ _ _ _ _ r h => by simp [dioramalaw20_CodeWalks.j0] at h, fun _ _ _ _ _ _ _ _ _ _ _ _ r h => by simp [dioramalaw20_CodeWalks.j1] at h, fun _ _ _ _ _ _ _ _ _ _ _ _ r h => by simp [dioramalaw20_CodeWalks.j2] at h⟩
  | k + 1 => by
    obtain ⟨ih0, ih1, ih2⟩ := dioramalaw20_CodeWalks.mono_l k
    refine ⟨?_, ?_, ?_⟩
    · intro y0 y1 y2 y3 y4 y5 y6 y7 y8 y9 y10 y11 y12 y13 y14 y15 y16 y17
      unfold dioramalaw20_CodeWalks.j0
      repeat' first
      | (with_reducible exact ih0 _ _ _ _ _ _ _ _ _ _ _ _ _ _ _ _ _ _)
      | (with_reducible exact ih1 _ _ _ _ _ _ _ _ _ _ _ _)
      | (with_reducible exact ih2 _ _ _ _ _ _ _ _ _ _ _ _)
      | (with_reducible exact code_Add.mono _ _ _ _ _ _ _ _)
      | (with_reducible exact code_Between.mono _ _ _ _ _ _ _ _ _ _ _)
      | (with_reducible exact dioramalaw20_awake.mono _)
      | (with_reducible exact LeO.refl _)
      | (with_reducible exact LeO.none _)
      | (with_reducible refine LeO.ite ?_ ?_)
      | (with_reducible refine LeO.bind ?_ (fun _ => ?_))
      | exact ih0 _ _ _ _ _ _ _ _ _ _ _ _ _ _ _ _ _ _
      | exact ih1 _ _ _ _ _ _ _ _ _ _ _ _
      | exact ih2 _ _ _ _ _ _ _ _ _ _ _ _
      | exact code_Add.mono _ _ _ _ _ _ _ _
      | exact code_Between.mono _ _ _ _ _ _ _ _ _ _ _
      | exact dioramalaw20_awake.mono _
      | exact LeO.none _
      | refine LeO.ite ?_ ?_
      | refine LeO.bind ?_ (fun _ => ?_)
    · intro y0 y1 y2 y3 y4 y5 y6 y7 y8 y9 y10 y11
      unfold dioramalaw20_CodeWalks.j1
      repeat' first
      | (with_reducible exact ih0 _ _ _ _ _ _ _ _ _ _ _ _ _ _ _ _ _ _)
      | (with_reducible exact ih1 _ _ _ _ _ _ _ _ _ _ _ _)
      | (with_reducible exact ih2 _ _ _ _ _ _ _ _ _ _ _ _)
      | (with_reducible exact code_Add.mono _ _ _ _ _ _ _ _)
      | (with_reducible exact code_Between.mono _ _ _ _ _ _ _ _ _ _ _)
      | (with_reducible exact dioramalaw20_awake.mono _)
      | (with_reducible exact LeO.refl _)
      | (with_reducible exact LeO.none _)
      | (with_reducible refine LeO.ite ?_ ?_)
      | (with_reducible refine LeO.bind ?_ (fun _ => ?_))
      | exact ih0 _ _ _ _ _ _ _ _ _ _ _ _ _ _ _ _ _ _
      | exact ih1 _ _ _ _ _ _ _ _ _ _ _ _
      | exact ih2 _ _ _ _ _ _ _ _ _ _ _ _
      | exact code_Add.mono _ _ _ _ _ _ _ _
      | exact code_Between.mono _ _ _ _ _ _ _ _ _ _ _
      | exact dioramalaw20_awake.mono _
      | exact LeO.none _
      | refine LeO.ite ?_ ?_
      | refine LeO.bind ?_ (fun _ => ?_)
    · intro y0 y1 y2 y3 y4 y5 y6 y7 y8 y9 y10 y11
      unfold dioramalaw20_CodeWalks.j2
      repeat' first
      | (with_reducible exact ih0 _ _ _ _ _ _ _ _ _ _ _ _ _ _ _ _ _ _)
      | (with_reducible exact ih1 _ _ _ _ _ _ _ _ _ _ _ _)
      | (with_reducible exact ih2 _ _ _ _ _ _ _ _ _ _ _ _)
      | (with_reducible exact code_Add.mono _ _ _ _ _ _ _ _)
      | (with_reducible exact code_Between.mono _ _ _ _ _ _ _ _ _ _ _)
      | (with_reducible exact dioramalaw20_awake.mono _)
      | (with_reducible exact LeO.refl _)
      | (with_reducible exact LeO.none _)
      | (with_reducible refine LeO.ite ?_ ?_)
      | (with_reducible refine LeO.bind ?_ (fun _ => ?_))
      | exact ih0 _ _ _ _ _ _ _ _ _ _ _ _ _ _ _ _ _ _
      | exact ih1 _ _ _ _ _ _ _ _ _ _ _ _
      | exact ih2 _ _ _ _ _ _ _ _ _ _ _ _
      | exact code_Add.mono _ _ _ _ _ _ _ _
      | exact code_Between.mono _ _ _ _ _ _ _ _ _ _ _
      | exact dioramalaw20_awake.mono _
      | exact LeO.none _
      | refine LeO.ite ?_ ?_
      | refine LeO.bind ?_ (fun _ => ?_)
theorem dioramalaw20_CodeWalks.mono : ∀ a0 a1 a2 a3 a4 a5 a6 a7 a8 a9 a10 a11 k, LeO (dioramalaw20_CodeWalks.f k a0 a1 a2 a3 a4 a5 a6 a7 a8 a9 a10 a11) (dioramalaw20_CodeWalks.f (k + 1) a0 a1 a2 a3 a4 a5 a6 a7 a8 a9 a10 a11) := by
  intro a0 a1 a2 a3 a4 a5 a6 a7 a8 a9 a10 a11 k
  obtain ⟨ih0, ih1, ih2⟩ := dioramalaw20_CodeWalks.mono_l k
  unfold dioramalaw20_CodeWalks.f
  repeat' first
      | (with_reducible exact ih0 _ _ _ _ _ _ _ _ _ _ _ _ _ _ _ _ _ _)
      | (with_reducible exact ih1 _ _ _ _ _ _ _ _ _ _ _ _)
      | (with_reducible exact ih2 _ _ _ _ _ _ _ _ _ _ _ _)
      | (with_reducible exact code_Add.mono _ _ _ _ _ _ _ _)
      | (with_reducible exact code_Between.mono _ _ _ _ _ _ _ _ _ _ _)
      | (with_reducible exact dioramalaw20_awake.mono _)
      | (with_reducible exact LeO.refl _)
      | (with_reducible exact LeO.none _)
      | (with_reducible refine LeO.ite ?_ ?_)
      | (with_reducible refine LeO.bind ?_ (fun _ => ?_))
      | exact ih0 _ _ _ _ _ _ _ _ _ _ _ _ _ _ _ _ _ _
      | exact ih1 _ _ _ _ _ _ _ _ _ _ _ _
      | exact ih2 _ _ _ _ _ _ _ _ _ _ _ _
      | exact code_Add.mono _ _ _ _ _ _ _ _
      | exact code_Between.mono _ _ _ _ _ _ _ _ _ _ _
      | exact dioramalaw20_awake.mono _
      | exact LeO.none _
      | refine LeO.ite ?_ ?_
      | refine LeO.bind ?_ (fun _ => ?_)
set_option maxHeartbeats 8000000 in
set_option maxRecDepth 100000 in
theorem dioramalaw20_CodeWalks.calls (k : Nat) (a0_0 : Int) (a0_1 : Bool) (a1_0 : Int) (a1_1 : Int) (a1_2 : Int) (a1_3 : Int) (a1_4 : Int) (a1_5 : Int) (a1_6 : Int) (a1_7 : Int) (a2_0 : Int) (a2_1 : Int) (r : Bool) (w : World) (h : dioramalaw20_CodeWalks.f k a0_0 a0_1 a1_0 a1_1 a1_2 a1_3 a1_4 a1_5 a1_6 a1_7 a2_0 a2_1 = some r) (hrt : r = true) :
    Calls Try.prog 5 #[.agg #[.int .i64 a0_0, .bool a0_1], .agg #[.int .i64 a1_0, .int .i64 a1_1, .int .i64 a1_2, .int .i64 a1_3, .int .i64 a1_4, .int .i64 a1_5, .int .i64 a1_6, .int .i64 a1_7], .agg #[.int .i64 a2_0, .int .i64 a2_1]] w fun e w' => e = .returned (.bool r) ∧ Below w.heap.size w w' := by
  have hu23 := Try.underlying23
  have hu31 := Try.underlying31
  have hu36 := Try.underlying36
  have hu25 := Try.underlying25
  have HB := Aside0.mk (Below.refl w.heap.size w)
  have H : ((code_Day.f a0_0 a0_1).bind fun bt262 => ((code_Add.f k a0_0 a0_1 a1_0 a1_1 a1_2 a1_3 a2_0).bind fun bt264 => (if bt262.2 = 0 then (if bt264.2.2.2.2 = 0 then (if a2_0 < (-549755813888) then (dioramalaw20_CodeWalks.j0 k bt262.1 true a0_0 a0_1 a1_0 a1_1 a1_2 a1_3 a1_4 a1_5 a1_6 a1_7 a2_0 a2_1 bt264.1 bt264.2.1 bt264.2.2.1 bt264.2.2.2.1) else (if a2_0 > 549755813888 then (dioramalaw20_CodeWalks.j0 k bt262.1 true a0_0 a0_1 a1_0 a1_1 a1_2 a1_3 a1_4 a1_5 a1_6 a1_7 a2_0 a2_1 bt264.1 bt264.2.1 bt264.2.2.1 bt264.2.2.2.1) else (if a2_1 < (-549755813888) then (dioramalaw20_CodeWalks.j0 k bt262.1 true a0_0 a0_1 a1_0 a1_1 a1_2 a1_3 a1_4 a1_5 a1_6 a1_7 a2_0 a2_1 bt264.1 bt264.2.1 bt264.2.2.1 bt264.2.2.2.1) else (dioramalaw20_CodeWalks.j0 k bt262.1 (decide (a2_1 > 549755813888)) a0_0 a0_1 a1_0 a1_1 a1_2 a1_3 a1_4 a1_5 a1_6 a1_7 a2_0 a2_1 bt264.1 bt264.2.1 bt264.2.2.1 bt264.2.2.2.1)))) else (dioramalaw20_CodeWalks.j0 k bt262.1 true a0_0 a0_1 a1_0 a1_1 a1_2 a1_3 a1_4 a1_5 a1_6 a1_7 a2_0 a2_1 bt264.1 bt264.2.1 bt264.2.2.1 bt264.2.2.2.1)) else (dioramalaw20_CodeWalks.j0 k bt262.1 true a0_0 a0_1 a1_0 a1_1 a1_2 a1_3 a1_4 a1_5 a1_6 a1_7 a2_0 a2_1 bt264.1 bt264.2.1 bt264.2.2.1 bt264.2.2.2.1)))) = some r := h
  clear h
  replace H := Option.bind_eq_some_iff.mp H
  obtain ⟨⟨t262, t263⟩, A40, H⟩ := H
  replace H : ((code_Add.f k a0_0 a0_1 a1_0 a1_1 a1_2 a1_3 a2_0).bind fun bt264 => (if t263 = 0 then (if bt264.2.2.2.2 = 0 then (if a2_0 < (-549755813888) then (dioramalaw20_CodeWalks.j0 k t262 true a0_0 a0_1 a1_0 a1_1 a1_2 a1_3 a1_4 a1_5 a1_6 a1_7 a2_0 a2_1 bt264.1 bt264.2.1 bt264.2.2.1 bt264.2.2.2.1) else (if a2_0 > 549755813888 then (dioramalaw20_CodeWalks.j0 k t262 true a0_0 a0_1 a1_0 a1_1 a1_2 a1_3 a1_4 a1_5 a1_6 a1_7 a2_0 a2_1 bt264.1 bt264.2.1 bt264.2.2.1 bt264.2.2.2.1) else (if a2_1 < (-549755813888) then (dioramalaw20_CodeWalks.j0 k t262 true a0_0 a0_1 a1_0 a1_1 a1_2 a1_3 a1_4 a1_5 a1_6 a1_7 a2_0 a2_1 bt264.1 bt264.2.1 bt264.2.2.1 bt264.2.2.2.1) else (dioramalaw20_CodeWalks.j0 k t262 (decide (a2_1 > 549755813888)) a0_0 a0_1 a1_0 a1_1 a1_2 a1_3 a1_4 a1_5 a1_6 a1_7 a2_0 a2_1 bt264.1 bt264.2.1 bt264.2.2.1 bt264.2.2.2.1)))) else (dioramalaw20_CodeWalks.j0 k t262 true a0_0 a0_1 a1_0 a1_1 a1_2 a1_3 a1_4 a1_5 a1_6 a1_7 a2_0 a2_1 bt264.1 bt264.2.1 bt264.2.2.1 bt264.2.2.2.1)) else (dioramalaw20_CodeWalks.j0 k t262 true a0_0 a0_1 a1_0 a1_1 a1_2 a1_3 a1_4 a1_5 a1_6 a1_7 a2_0 a2_1 bt264.1 bt264.2.1 bt264.2.2.1 bt264.2.2.2.1))) = some r := H
  have A4 := Aside0.mk A40
  clear A40
  replace H := Option.bind_eq_some_iff.mp H
  obtain ⟨⟨t264, t265, t266, t267, t268⟩, A50, H⟩ := H
  replace H : (if t263 = 0 then (if t268 = 0 then (if a2_0 < (-549755813888) then (dioramalaw20_CodeWalks.j0 k t262 true a0_0 a0_1 a1_0 a1_1 a1_2 a1_3 a1_4 a1_5 a1_6 a1_7 a2_0 a2_1 t264 t265 t266 t267) else (if a2_0 > 549755813888 then (dioramalaw20_CodeWalks.j0 k t262 true a0_0 a0_1 a1_0 a1_1 a1_2 a1_3 a1_4 a1_5 a1_6 a1_7 a2_0 a2_1 t264 t265 t266 t267) else (if a2_1 < (-549755813888) then (dioramalaw20_CodeWalks.j0 k t262 true a0_0 a0_1 a1_0 a1_1 a1_2 a1_3 a1_4 a1_5 a1_6 a1_7 a2_0 a2_1 t264 t265 t266 t267) else (dioramalaw20_CodeWalks.j0 k t262 (decide (a2_1 > 549755813888)) a0_0 a0_1 a1_0 a1_1 a1_2 a1_3 a1_4 a1_5 a1_6 a1_7 a2_0 a2_1 t264 t265 t266 t267)))) else (dioramalaw20_CodeWalks.j0 k t262 true a0_0 a0_1 a1_0 a1_1 a1_2 a1_3 a1_4 a1_5 a1_6 a1_7 a2_0 a2_1 t264 t265 t266 t267)) else (dioramalaw20_CodeWalks.j0 k t262 true a0_0 a0_1 a1_0 a1_1 a1_2 a1_3 a1_4 a1_5 a1_6 a1_7 a2_0 a2_1 t264 t265 t266 t267)) = some r := H
  have A5 := Aside0.mk A50
  clear A50
  have HC6 := Aside0.mk H
  clear H
  go_enter Try.func5, Try.ntmps5
  go_upto_region 3 with (first | ((with_reducible refine gate_dst (N := 3) rfl ?_); refine box_event ?hg (N := 3) ?hd (cs := #[.int .i64 a0_0, .bool a0_1]) (t := 23) ?hr ?_; (case hd => rfl); (case hg => rfl); (case hr => first | (go_simp; done) | (go_simp; rfl)); intro gb259 hg w7 hbox hb; have n0_ := Aside0.mk (below_step (by repeat (first | (with_reducible first | exact HB.out | apply below_alloc | apply pw_below_drewN | apply below_drew1) | exact HB.out)) hb); have n1_ := Aside0.mk (hbox); have n2_ := Aside0.mk ((by rw [hg]; exact (below_size (by repeat (first | (with_reducible first | exact HB.out | apply below_alloc | apply pw_below_drewN | apply below_drew1) | exact HB.out))) : w.heap.size ≤ gb259)); have n3_ := Aside0.mk ((by rw [hg]; exact (below_size (by repeat (first | (with_reducible first | exact HB.out | apply below_alloc | apply pw_below_drewN | apply below_drew1) | exact HB.out))) : w.heap.size ≤ gb259)); clear HB; have HB := n0_; have BK259 := n1_; have GW259 := n2_; have GE259 := n3_; clear n0_ n1_ n2_ n3_; clear hb hbox hg) | ((with_reducible refine gate_dst (N := 4) rfl ?_); refine box_event ?hg (N := 4) ?hd (cs := #[.int .i64 a1_0, .int .i64 a1_1, .int .i64 a1_2, .int .i64 a1_3, .int .i64 a1_4, .int .i64 a1_5, .int .i64 a1_6, .int .i64 a1_7]) (t := 31) ?hr ?_; (case hd => rfl); (case hg => rfl); (case hr => first | (go_simp; done) | (go_simp; rfl)); intro gb260 hg w8 hbox hb; have n0_ := Aside0.mk (blk_below (g := gb259) (o := .cells #[.int .i64 a0_0, .bool a0_1] 23 (0, 0)) (by (with_reducible repeat (first | refine blk_drewN ?_ _ | refine blk_drew ?_ | refine blk_alloc ?_ _)); exact BK259.out) hb); have n1_ := Aside0.mk (below_step (by repeat (first | (with_reducible first | exact HB.out | apply below_alloc | apply pw_below_drewN | apply below_drew1 | refine below_set ?_ GE259.out) | exact HB.out)) hb); have n2_ := Aside0.mk (hbox); have n3_ := Aside0.mk ((by rw [hg]; exact (below_size (by repeat (first | (with_reducible first | exact HB.out | apply below_alloc | apply pw_below_drewN | apply below_drew1 | refine below_set ?_ GE259.out) | exact HB.out))) : w.heap.size ≤ gb260)); have n4_ := Aside0.mk ((by rw [hg]; exact (below_size (by repeat (first | (with_reducible first | exact HB.out | apply below_alloc | apply pw_below_drewN | apply below_drew1 | refine below_set ?_ GE259.out) | exact HB.out))) : w.heap.size ≤ gb260)); have n5_ := Aside0.mk ((by rw [hg]; exact Nat.ne_of_lt (blk_lt (g := gb259) (o := .cells #[.int .i64 a0_0, .bool a0_1] 23 (0, 0)) (by (with_reducible repeat (first | refine blk_drewN ?_ _ | refine blk_drew ?_ | refine blk_alloc ?_ _)); exact BK259.out)) : gb259 ≠ gb260)); have n6_ := Aside0.mk ((by rw [hg]; exact Nat.ne_of_gt (blk_lt (g := gb259) (o := .cells #[.int .i64 a0_0, .bool a0_1] 23 (0, 0)) (by (with_reducible repeat (first | refine blk_drewN ?_ _ | refine blk_drew ?_ | refine blk_alloc ?_ _)); exact BK259.out)) : gb260 ≠ gb259)); clear BK259; clear HB; have BK259 := n0_; have HB := n1_; have BK260 := n2_; have GW260 := n3_; have GE260 := n4_; have NB259_260 := n5_; have NB260_259 := n6_; clear n0_ n1_ n2_ n3_ n4_ n5_ n6_; clear hb hbox hg) | ((with_reducible refine gate_dst (N := 5) rfl ?_); refine box_event ?hg (N := 5) ?hd (cs := #[.int .i64 a2_0, .int .i64 a2_1]) (t := 36) ?hr ?_; (case hd => rfl); (case hg => rfl); (case hr => first | (go_simp; done) | (go_simp; rfl)); intro gb261 hg w9 hbox hb; have n0_ := Aside0.mk (blk_below (g := gb259) (o := .cells #[.int .i64 a0_0, .bool a0_1] 23 (0, 0)) (by (with_reducible repeat (first | refine blk_drewN ?_ _ | refine blk_drew ?_ | refine blk_alloc ?_ _)); exact BK259.out) hb); have n1_ := Aside0.mk (blk_below (g := gb260) (o := .cells #[.int .i64 a1_0, .int .i64 a1_1, .int .i64 a1_2, .int .i64 a1_3, .int .i64 a1_4, .int .i64 a1_5, .int .i64 a1_6, .int .i64 a1_7] 31 (0, 0)) (by (with_reducible repeat (first | refine blk_drewN ?_ _ | refine blk_drew ?_ | refine blk_alloc ?_ _)); exact BK260.out) hb); have n2_ := Aside0.mk (below_step (by repeat (first | (with_reducible first | exact HB.out | apply below_alloc | apply pw_below_drewN | apply below_drew1 | refine below_set ?_ GE259.out | refine below_set ?_ GE260.out) | exact HB.out)) hb); have n3_ := Aside0.mk (hbox); have n4_ := Aside0.mk ((by rw [hg]; exact (below_size (by repeat (first | (with_reducible first | exact HB.out | apply below_alloc | apply pw_below_drewN | apply below_drew1 | refine below_set ?_ GE259.out | refine below_set ?_ GE260.out) | exact HB.out))) : w.heap.size ≤ gb261)); have n5_ := Aside0.mk ((by rw [hg]; exact (below_size (by repeat (first | (with_reducible first | exact HB.out | apply below_alloc | apply pw_below_drewN | apply below_drew1 | refine below_set ?_ GE259.out | refine below_set ?_ GE260.out) | exact HB.out))) : w.heap.size ≤ gb261)); have n6_ := Aside0.mk ((by rw [hg]; exact Nat.ne_of_lt (blk_lt (g := gb259) (o := .cells #[.int .i64 a0_0, .bool a0_1] 23 (0, 0)) (by (with_reducible repeat (first | refine blk_drewN ?_ _ | refine blk_drew ?_ | refine blk_alloc ?_ _)); exact BK259.out)) : gb259 ≠ gb261)); have n7_ := Aside0.mk ((by rw [hg]; exact Nat.ne_of_gt (blk_lt (g := gb259) (o := .cells #[.int .i64 a0_0, .bool a0_1] 23 (0, 0)) (by (with_reducible repeat (first | refine blk_drewN ?_ _ | refine blk_drew ?_ | refine blk_alloc ?_ _)); exact BK259.out)) : gb261 ≠ gb259)); have n8_ := Aside0.mk ((by rw [hg]; exact Nat.ne_of_lt (blk_lt (g := gb260) (o := .cells #[.int .i64 a1_0, .int .i64 a1_1, .int .i64 a1_2, .int .i64 a1_3, .int .i64 a1_4, .int .i64 a1_5, .int .i64 a1_6, .int .i64 a1_7] 31 (0, 0)) (by (with_reducible repeat (first | refine blk_drewN ?_ _ | refine blk_drew ?_ | refine blk_alloc ?_ _)); exact BK260.out)) : gb260 ≠ gb261)); have n9_ := Aside0.mk ((by rw [hg]; exact Nat.ne_of_gt (blk_lt (g := gb260) (o := .cells #[.int .i64 a1_0, .int .i64 a1_1, .int .i64 a1_2, .int .i64 a1_3, .int .i64 a1_4, .int .i64 a1_5, .int .i64 a1_6, .int .i64 a1_7] 31 (0, 0)) (by (with_reducible repeat (first | refine blk_drewN ?_ _ | refine blk_drew ?_ | refine blk_alloc ?_ _)); exact BK260.out)) : gb261 ≠ gb260)); clear BK259; clear BK260; clear HB; have BK259 := n0_; have BK260 := n1_; have HB := n2_; have BK261 := n3_; have GW261 := n4_; have GE261 := n5_; have NB259_261 := n6_; have NB261_259 := n7_; have NB260_261 := n8_; have NB261_260 := n9_; clear n0_ n1_ n2_ n3_ n4_ n5_ n6_ n7_ n8_ n9_; clear hb hbox hg; have hnb10 := NB259_260.out; have hnc10 := NB260_259.out; have hnb11 := NB259_261.out; have hnc11 := NB261_259.out; have hcz12_0 : w9.cell? ⟨gb259, 0, none⟩ = some (.int .i64 a0_0) := (blk_cell BK259.out 0).trans rfl; have hcz12_1 : w9.cell? ⟨gb259, 1, none⟩ = some (.bool a0_1) := (blk_cell BK259.out 1).trans rfl; have hfz12_0 := blk_frozen BK259.out 0; have hfz12_1 := blk_frozen BK259.out 1) | ((with_reducible refine gate_callee (f := 19) rfl ?_); refine goesL_ (some 23) rfl rfl Try.func19 (by kernel_rfl) rfl #[.agg #[.int .i64 a0_0, .bool a0_1]] rfl (by (try simp only [List.map_toArray, List.map_cons, List.map_nil]); first | done | rfl | (simp only [List.length_drop, List.length_take]; rfl)) ?_; (with_reducible refine (code_Day.calls a0_0 a0_1 t262 t263 _ A4.out).mono ?_); rintro e w13 ⟨rfl, hb⟩; refine ⟨_, rfl, ?_⟩; have n0_ := Aside0.mk (blk_below (g := gb259) (o := .cells #[.int .i64 a0_0, .bool a0_1] 23 (0, 0)) (by (with_reducible repeat (first | refine blk_drewN ?_ _ | refine blk_drew ?_ | refine blk_alloc ?_ _)); exact BK259.out) hb); have n1_ := Aside0.mk (blk_below (g := gb260) (o := .cells #[.int .i64 a1_0, .int .i64 a1_1, .int .i64 a1_2, .int .i64 a1_3, .int .i64 a1_4, .int .i64 a1_5, .int .i64 a1_6, .int .i64 a1_7] 31 (0, 0)) (by (with_reducible repeat (first | refine blk_drewN ?_ _ | refine blk_drew ?_ | refine blk_alloc ?_ _)); exact BK260.out) hb); have n2_ := Aside0.mk (blk_below (g := gb261) (o := .cells #[.int .i64 a2_0, .int .i64 a2_1] 36 (0, 0)) (by (with_reducible repeat (first | refine blk_drewN ?_ _ | refine blk_drew ?_ | refine blk_alloc ?_ _)); exact BK261.out) hb); have n3_ := Aside0.mk (below_step (by repeat (first | (with_reducible first | exact HB.out | apply below_alloc | apply pw_below_drewN | apply below_drew1 | refine below_set ?_ GE259.out | refine below_set ?_ GE260.out | refine below_set ?_ GE261.out) | exact HB.out)) hb); clear BK259; clear BK260; clear BK261; clear HB; have BK259 := n0_; have BK260 := n1_; have BK261 := n2_; have HB := n3_; clear n0_ n1_ n2_ n3_; (try clear hb); (try clear hb2); (try clear hk); (try clear hi); have hcz14_0 : w13.cell? ⟨gb259, 0, none⟩ = some (.int .i64 a0_0) := (blk_cell BK259.out 0).trans rfl; have hcz14_1 : w13.cell? ⟨gb259, 1, none⟩ = some (.bool a0_1) := (blk_cell BK259.out 1).trans rfl; have hfz14_0 := blk_frozen BK259.out 0; have hfz14_1 := blk_frozen BK259.out 1; have hnb15 := NB260_261.out; have hnc15 := NB261_260.out; have hcz16_0 : w13.cell? ⟨gb260, 0, none⟩ = some (.int .i64 a1_0) := (blk_cell BK260.out 0).trans rfl; have hcz16_1 : w13.cell? ⟨gb260, 1, none⟩ = some (.int .i64 a1_1) := (blk_cell BK260.out 1).trans rfl; have hcz16_2 : w13.cell? ⟨gb260, 2, none⟩ = some (.int .i64 a1_2) := (blk_cell BK260.out 2).trans rfl; have hcz16_3 : w13.cell? ⟨gb260, 3, none⟩ = some (.int .i64 a1_3) := (blk_cell BK260.out 3).trans rfl; have hcz16_4 : w13.cell? ⟨gb260, 4, none⟩ = some (.int .i64 a1_4) := (blk_cell BK260.out 4).trans rfl; have hcz16_5 : w13.cell? ⟨gb260, 5, none⟩ = some (.int .i64 a1_5) := (blk_cell BK260.out 5).trans rfl; have hcz16_6 : w13.cell? ⟨gb260, 6, none⟩ = some (.int .i64 a1_6) := (blk_cell BK260.out 6).trans rfl; have hcz16_7 : w13.cell? ⟨gb260, 7, none⟩ = some (.int .i64 a1_7) := (blk_cell BK260.out 7).trans rfl; have hfz16_0 := blk_frozen BK260.out 0; have hfz16_1 := blk_frozen BK260.out 1; have hfz16_2 := blk_frozen BK260.out 2; have hfz16_3 := blk_frozen BK260.out 3; have hfz16_4 := blk_frozen BK260.out 4; have hfz16_5 := blk_frozen BK260.out 5; have hfz16_6 := blk_frozen BK260.out 6; have hfz16_7 := blk_frozen BK260.out 7; have hcz17_0 : w13.cell? ⟨gb261, 0, none⟩ = some (.int .i64 a2_0) := (blk_cell BK261.out 0).trans rfl; have hcz17_1 : w13.cell? ⟨gb261, 1, none⟩ = some (.int .i64 a2_1) := (blk_cell BK261.out 1).trans rfl; have hfz17_0 := blk_frozen BK261.out 0; have hfz17_1 := blk_frozen BK261.out 1) | ((with_reducible refine gate_callee (f := 15) rfl ?_); refine goesL_ (some 32) rfl rfl Try.func15 (by kernel_rfl) rfl #[.agg #[.int .i64 a0_0, .bool a0_1], .agg #[.int .i64 a1_0, .int .i64 a1_1, .int .i64 a1_2, .int .i64 a1_3], .int .i64 a2_0] rfl (by (try simp only [List.map_toArray, List.map_cons, List.map_nil]); first | done | rfl | (simp only [List.length_drop, List.length_take]; rfl)) ?_; (with_reducible refine (code_Add.calls k a0_0 a0_1 a1_0 a1_1 a1_2 a1_3 a2_0 t264 t265 t266 t267 t268 _ A5.out).mono ?_); rintro e w18 ⟨rfl, hb⟩; refine ⟨_, rfl, ?_⟩; have n0_ := Aside0.mk (blk_below (g := gb259) (o := .cells #[.int .i64 a0_0, .bool a0_1] 23 (0, 0)) (by (with_reducible repeat (first | refine blk_drewN ?_ _ | refine blk_drew ?_ | refine blk_alloc ?_ _)); exact BK259.out) hb); have n1_ := Aside0.mk (blk_below (g := gb260) (o := .cells #[.int .i64 a1_0, .int .i64 a1_1, .int .i64 a1_2, .int .i64 a1_3, .int .i64 a1_4, .int .i64 a1_5, .int .i64 a1_6, .int .i64 a1_7] 31 (0, 0)) (by (with_reducible repeat (first | refine blk_drewN ?_ _ | refine blk_drew ?_ | refine blk_alloc ?_ _)); exact BK260.out) hb); have n2_ := Aside0.mk (blk_below (g := gb261) (o := .cells #[.int .i64 a2_0, .int .i64 a2_1] 36 (0, 0)) (by (with_reducible repeat (first | refine blk_drewN ?_ _ | refine blk_drew ?_ | refine blk_alloc ?_ _)); exact BK261.out) hb); have n3_ := Aside0.mk (below_step (by repeat (first | (with_reducible first | exact HB.out | apply below_alloc | apply pw_below_drewN | apply below_drew1 | refine below_set ?_ GE259.out | refine below_set ?_ GE260.out | refine below_set ?_ GE261.out) | exact HB.out)) hb); clear BK259; clear BK260; clear BK261; clear HB; have BK259 := n0_; have BK260 := n1_; have BK261 := n2_; have HB := n3_; clear n0_ n1_ n2_ n3_; (try clear hb); (try clear hb2); (try clear hk); (try clear hi)) | ((with_reducible refine gate_dst (N := 9) rfl ?_); refine box_event ?hg (N := 9) ?hd (cs := #[.int .i64 0, .int .i64 0, .int .i64 0, .int .i64 0]) (t := 25) ?hr ?_; (case hd => rfl); (case hg => rfl); (case hr => first | (go_simp; done) | (go_simp; rfl)); intro gb269 hg w19 hbox hb; have n0_ := Aside0.mk (blk_below (g := gb259) (o := .cells #[.int .i64 a0_0, .bool a0_1] 23 (0, 0)) (by (with_reducible repeat (first | refine blk_drewN ?_ _ | refine blk_drew ?_ | refine blk_alloc ?_ _)); exact BK259.out) hb); have n1_ := Aside0.mk (blk_below (g := gb260) (o := .cells #[.int .i64 a1_0, .int .i64 a1_1, .int .i64 a1_2, .int .i64 a1_3, .int .i64 a1_4, .int .i64 a1_5, .int .i64 a1_6, .int .i64 a1_7] 31 (0, 0)) (by (with_reducible repeat (first | refine blk_drewN ?_ _ | refine blk_drew ?_ | refine blk_alloc ?_ _)); exact BK260.out) hb); have n2_ := Aside0.mk (blk_below (g := gb261) (o := .cells #[.int .i64 a2_0, .int .i64 a2_1] 36 (0, 0)) (by (with_reducible repeat (first | refine blk_drewN ?_ _ | refine blk_drew ?_ | refine blk_alloc ?_ _)); exact BK261.out) hb); have n3_ := Aside0.mk (below_step (by repeat (first | (with_reducible first | exact HB.out | apply below_alloc | apply pw_below_drewN | apply below_drew1 | refine below_set ?_ GE259.out | refine below_set ?_ GE260.out | refine below_set ?_ GE261.out) | exact HB.out)) hb); have n4_ := Aside0.mk (hbox); have n5_ := Aside0.mk ((by rw [hg]; exact (below_size (by repeat (first | (with_reducible first | exact HB.out | apply below_alloc | apply pw_below_drewN | apply below_drew1 | refine below_set ?_ GE259.out | refine below_set ?_ GE260.out | refine below_set ?_ GE261.out) | exact HB.out))) : w.heap.size ≤ gb269)); have n6_ := Aside0.mk ((by rw [hg]; exact (below_size (by repeat (first | (with_reducible first | exact HB.out | apply below_alloc | apply pw_below_drewN | apply below_drew1 | refine below_set ?_ GE259.out | refine below_set ?_ GE260.out | refine below_set ?_ GE261.out) | exact HB.out))) : w.heap.size ≤ gb269)); have n7_ := Aside0.mk ((by rw [hg]; exact Nat.ne_of_lt (blk_lt (g := gb259) (o := .cells #[.int .i64 a0_0, .bool a0_1] 23 (0, 0)) (by (with_reducible repeat (first | refine blk_drewN ?_ _ | refine blk_drew ?_ | refine blk_alloc ?_ _)); exact BK259.out)) : gb259 ≠ gb269)); have n8_ := Aside0.mk ((by rw [hg]; exact Nat.ne_of_gt (blk_lt (g := gb259) (o := .cells #[.int .i64 a0_0, .bool a0_1] 23 (0, 0)) (by (with_reducible repeat (first | refine blk_drewN ?_ _ | refine blk_drew ?_ | refine blk_alloc ?_ _)); exact BK259.out)) : gb269 ≠ gb259)); have n9_ := Aside0.mk ((by rw [hg]; exact Nat.ne_of_lt (blk_lt (g := gb260) (o := .cells #[.int .i64 a1_0, .int .i64 a1_1, .int .i64 a1_2, .int .i64 a1_3, .int .i64 a1_4, .int .i64 a1_5, .int .i64 a1_6, .int .i64 a1_7] 31 (0, 0)) (by (with_reducible repeat (first | refine blk_drewN ?_ _ | refine blk_drew ?_ | refine blk_alloc ?_ _)); exact BK260.out)) : gb260 ≠ gb269)); have n10_ := Aside0.mk ((by rw [hg]; exact Nat.ne_of_gt (blk_lt (g := gb260) (o := .cells #[.int .i64 a1_0, .int .i64 a1_1, .int .i64 a1_2, .int .i64 a1_3, .int .i64 a1_4, .int .i64 a1_5, .int .i64 a1_6, .int .i64 a1_7] 31 (0, 0)) (by (with_reducible repeat (first | refine blk_drewN ?_ _ | refine blk_drew ?_ | refine blk_alloc ?_ _)); exact BK260.out)) : gb269 ≠ gb260)); have n11_ := Aside0.mk ((by rw [hg]; exact Nat.ne_of_lt (blk_lt (g := gb261) (o := .cells #[.int .i64 a2_0, .int .i64 a2_1] 36 (0, 0)) (by (with_reducible repeat (first | refine blk_drewN ?_ _ | refine blk_drew ?_ | refine blk_alloc ?_ _)); exact BK261.out)) : gb261 ≠ gb269)); have n12_ := Aside0.mk ((by rw [hg]; exact Nat.ne_of_gt (blk_lt (g := gb261) (o := .cells #[.int .i64 a2_0, .int .i64 a2_1] 36 (0, 0)) (by (with_reducible repeat (first | refine blk_drewN ?_ _ | refine blk_drew ?_ | refine blk_alloc ?_ _)); exact BK261.out)) : gb269 ≠ gb261)); clear BK259; clear BK260; clear BK261; clear HB; have BK259 := n0_; have BK260 := n1_; have BK261 := n2_; have HB := n3_; have BK269 := n4_; have GW269 := n5_; have GE269 := n6_; have NB259_269 := n7_; have NB269_259 := n8_; have NB260_269 := n9_; have NB269_260 := n10_; have NB261_269 := n11_; have NB269_261 := n12_; clear n0_ n1_ n2_ n3_ n4_ n5_ n6_ n7_ n8_ n9_ n10_ n11_ n12_; clear hb hbox hg; have hnb20 := NB269_259.out; have hnc20 := NB259_269.out; have hnb21 := NB269_260.out; have hnc21 := NB260_269.out; have hnb22 := NB269_261.out; have hnc22 := NB261_269.out; have hcz23_0 : w19.cell? ⟨gb269, 0, none⟩ = some (.int .i64 0) := (blk_cell BK269.out 0).trans rfl; have hcz23_1 : w19.cell? ⟨gb269, 1, none⟩ = some (.int .i64 0) := (blk_cell BK269.out 1).trans rfl; have hcz23_2 : w19.cell? ⟨gb269, 2, none⟩ = some (.int .i64 0) := (blk_cell BK269.out 2).trans rfl; have hcz23_3 : w19.cell? ⟨gb269, 3, none⟩ = some (.int .i64 0) := (blk_cell BK269.out 3).trans rfl; have hfz23_0 := blk_frozen BK269.out 0; have hfz23_1 := blk_frozen BK269.out 1; have hfz23_2 := blk_frozen BK269.out 2; have hfz23_3 := blk_frozen BK269.out 3))
  (try simp only [Act.put, List.setIfInBounds_toArray, List.set_cons_zero, List.set_cons_succ])
  go_cut [60] (fun v60 wc => ∃ (kq : Nat) (x60_5 : Bool), v60 = .bool x60_5 ∧ Aside0 (dioramalaw20_CodeWalks.j0 kq t262 x60_5 a0_0 a0_1 a1_0 a1_1 a1_2 a1_3 a1_4 a1_5 a1_6 a1_7 a2_0 a2_1 t264 t265 t266 t267 = some r) ∧ Aside0 (kq ≤ k) ∧ Aside0 (wc.heap[gb259]? = some (.cells #[.int .i64 a0_0, .bool a0_1] 23 (0, 0))) ∧ Aside0 (wc.heap[gb260]? = some (.cells #[.int .i64 a1_0, .int .i64 a1_1, .int .i64 a1_2, .int .i64 a1_3, .int .i64 a1_4, .int .i64 a1_5, .int .i64 a1_6, .int .i64 a1_7] 31 (0, 0))) ∧ Aside0 (wc.heap[gb261]? = some (.cells #[.int .i64 a2_0, .int .i64 a2_1] 36 (0, 0))) ∧ Aside0 (wc.heap[gb269]? = some (.cells #[.int .i64 t264, .int .i64 t265, .int .i64 t266, .int .i64 t267] 25 (0, 0))) ∧ Aside0 (Below w.heap.size w wc))
  case first =>
    have H := HC6.out
    clear HC6
    by_cases c24 : t263 = 0
    · rw [if_pos c24] at H
      have c24b0 : (t263 == 0) = true := beq_iff_eq.mpr c24
      have c24b1 : (t263 != 0) = false := bne_eq_false_iff_eq.mpr c24
      clear c24
      (first | rw [c24b0] | (simp only [i64_w, i32_w]; rw [c24b0]) | skip)
      by_cases c25 : t268 = 0
      · rw [if_pos c25] at H
        have c25b0 : (t268 == 0) = true := beq_iff_eq.mpr c25
        have c25b1 : (t268 != 0) = false := bne_eq_false_iff_eq.mpr c25
        clear c25
        by_cases c26 : a2_0 < (-549755813888)
        · rw [if_pos c26] at H
          have c26b0 : decide (a2_0 < (-549755813888)) = true := decide_eq_true c26
          clear c26
          have H' := Aside0.mk H
          clear H
          have hnb27 := NB261_259.out
          have hnc27 := NB259_261.out
          have hnb28 := NB261_260.out
          have hnc28 := NB260_261.out
          have hnb29 := NB261_269.out
          have hnc29 := NB269_261.out
          have hcz30_0 : w19.cell? ⟨gb261, 0, none⟩ = some (.int .i64 a2_0) := (blk_cell BK261.out 0).trans rfl
          have hcz30_1 : w19.cell? ⟨gb261, 1, none⟩ = some (.int .i64 a2_1) := (blk_cell BK261.out 1).trans rfl
          have hfz30_0 := blk_frozen BK261.out 0
          have hfz30_1 := blk_frozen BK261.out 1
          go_wp2
          go_meet
          case rel => exact ⟨_, (true), (by first | rfl | (simp; done) | (simp [*]; done)), H', ⟨by first | omega | exact Nat.le_refl _⟩, ⟨by (with_reducible repeat (first | refine blk_drewN ?_ _ | refine blk_drew ?_ | refine blk_alloc ?_ _)); refine blk_far ?_ NB259_269.out _; (with_reducible repeat (first | refine blk_drewN ?_ _ | refine blk_drew ?_ | refine blk_alloc ?_ _)); refine blk_far ?_ NB259_269.out _; (with_reducible repeat (first | refine blk_drewN ?_ _ | refine blk_drew ?_ | refine blk_alloc ?_ _)); refine blk_far ?_ NB259_269.out _; (with_reducible repeat (first | refine blk_drewN ?_ _ | refine blk_drew ?_ | refine blk_alloc ?_ _)); refine blk_far ?_ NB259_269.out _; (with_reducible repeat (first | refine blk_drewN ?_ _ | refine blk_drew ?_ | refine blk_alloc ?_ _)); exact BK259.out⟩, ⟨by (with_reducible repeat (first | refine blk_drewN ?_ _ | refine blk_drew ?_ | refine blk_alloc ?_ _)); refine blk_far ?_ NB260_269.out _; (with_reducible repeat (first | refine blk_drewN ?_ _ | refine blk_drew ?_ | refine blk_alloc ?_ _)); refine blk_far ?_ NB260_269.out _; (with_reducible repeat (first | refine blk_drewN ?_ _ | refine blk_drew ?_ | refine blk_alloc ?_ _)); refine blk_far ?_ NB260_269.out _; (with_reducible repeat (first | refine blk_drewN ?_ _ | refine blk_drew ?_ | refine blk_alloc ?_ _)); refine blk_far ?_ NB260_269.out _; (with_reducible repeat (first | refine blk_drewN ?_ _ | refine blk_drew ?_ | refine blk_alloc ?_ _)); exact BK260.out⟩, ⟨by (with_reducible repeat (first | refine blk_drewN ?_ _ | refine blk_drew ?_ | refine blk_alloc ?_ _)); refine blk_far ?_ NB261_269.out _; (with_reducible repeat (first | refine blk_drewN ?_ _ | refine blk_drew ?_ | refine blk_alloc ?_ _)); refine blk_far ?_ NB261_269.out _; (with_reducible repeat (first | refine blk_drewN ?_ _ | refine blk_drew ?_ | refine blk_alloc ?_ _)); refine blk_far ?_ NB261_269.out _; (with_reducible repeat (first | refine blk_drewN ?_ _ | refine blk_drew ?_ | refine blk_alloc ?_ _)); refine blk_far ?_ NB261_269.out _; (with_reducible repeat (first | refine blk_drewN ?_ _ | refine blk_drew ?_ | refine blk_alloc ?_ _)); exact BK261.out⟩, ⟨by (with_reducible repeat (first | refine blk_drewN ?_ _ | refine blk_drew ?_ | refine blk_alloc ?_ _)); refine blk_put (cs := #[.int .i64 t264, .int .i64 t265, .int .i64 t266, .int .i64 0]) ?_ 3 _ rfl; (with_reducible repeat (first | refine blk_drewN ?_ _ | refine blk_drew ?_ | refine blk_alloc ?_ _)); refine blk_put (cs := #[.int .i64 t264, .int .i64 t265, .int .i64 0, .int .i64 0]) ?_ 2 _ rfl; (with_reducible repeat (first | refine blk_drewN ?_ _ | refine blk_drew ?_ | refine blk_alloc ?_ _)); refine blk_put (cs := #[.int .i64 t264, .int .i64 0, .int .i64 0, .int .i64 0]) ?_ 1 _ rfl; (with_reducible repeat (first | refine blk_drewN ?_ _ | refine blk_drew ?_ | refine blk_alloc ?_ _)); refine blk_put (cs := #[.int .i64 0, .int .i64 0, .int .i64 0, .int .i64 0]) ?_ 0 _ rfl; (with_reducible repeat (first | refine blk_drewN ?_ _ | refine blk_drew ?_ | refine blk_alloc ?_ _)); exact BK269.out⟩, ⟨by repeat (first | (with_reducible first | exact HB.out | apply below_alloc | apply pw_below_drewN | apply below_drew1 | refine below_set ?_ GE259.out | refine below_set ?_ GE260.out | refine below_set ?_ GE261.out | refine below_set ?_ GE269.out) | exact HB.out)⟩⟩
        · rw [if_neg c26] at H
          have c26b0 : decide (a2_0 < (-549755813888)) = false := decide_eq_false c26
          clear c26
          by_cases c31 : a2_0 > 549755813888
          · rw [if_pos c31] at H
            have c31b0 : decide (549755813888 < a2_0) = true := decide_eq_true c31
            clear c31
            have H' := Aside0.mk H
            clear H
            have hnb32 := NB261_259.out
            have hnc32 := NB259_261.out
            have hnb33 := NB261_260.out
            have hnc33 := NB260_261.out
            have hnb34 := NB261_269.out
            have hnc34 := NB269_261.out
            have hcz35_0 : w19.cell? ⟨gb261, 0, none⟩ = some (.int .i64 a2_0) := (blk_cell BK261.out 0).trans rfl
            have hcz35_1 : w19.cell? ⟨gb261, 1, none⟩ = some (.int .i64 a2_1) := (blk_cell BK261.out 1).trans rfl
            have hfz35_0 := blk_frozen BK261.out 0
            have hfz35_1 := blk_frozen BK261.out 1
            go_wp2
            go_meet
            case rel => exact ⟨_, (true), (by first | rfl | (simp; done) | (simp [*]; done)), H', ⟨by first | omega | exact Nat.le_refl _⟩, ⟨by (with_reducible repeat (first | refine blk_drewN ?_ _ | refine blk_drew ?_ | refine blk_alloc ?_ _)); refine blk_far ?_ NB259_269.out _; (with_reducible repeat (first | refine blk_drewN ?_ _ | refine blk_drew ?_ | refine blk_alloc ?_ _)); refine blk_far ?_ NB259_269.out _; (with_reducible repeat (first | refine blk_drewN ?_ _ | refine blk_drew ?_ | refine blk_alloc ?_ _)); refine blk_far ?_ NB259_269.out _; (with_reducible repeat (first | refine blk_drewN ?_ _ | refine blk_drew ?_ | refine blk_alloc ?_ _)); refine blk_far ?_ NB259_269.out _; (with_reducible repeat (first | refine blk_drewN ?_ _ | refine blk_drew ?_ | refine blk_alloc ?_ _)); exact BK259.out⟩, ⟨by (with_reducible repeat (first | refine blk_drewN ?_ _ | refine blk_drew ?_ | refine blk_alloc ?_ _)); refine blk_far ?_ NB260_269.out _; (with_reducible repeat (first | refine blk_drewN ?_ _ | refine blk_drew ?_ | refine blk_alloc ?_ _)); refine blk_far ?_ NB260_269.out _; (with_reducible repeat (first | refine blk_drewN ?_ _ | refine blk_drew ?_ | refine blk_alloc ?_ _)); refine blk_far ?_ NB260_269.out _; (with_reducible repeat (first | refine blk_drewN ?_ _ | refine blk_drew ?_ | refine blk_alloc ?_ _)); refine blk_far ?_ NB260_269.out _; (with_reducible repeat (first | refine blk_drewN ?_ _ | refine blk_drew ?_ | refine blk_alloc ?_ _)); exact BK260.out⟩, ⟨by (with_reducible repeat (first | refine blk_drewN ?_ _ | refine blk_drew ?_ | refine blk_alloc ?_ _)); refine blk_far ?_ NB261_269.out _; (with_reducible repeat (first | refine blk_drewN ?_ _ | refine blk_drew ?_ | refine blk_alloc ?_ _)); refine blk_far ?_ NB261_269.out _; (with_reducible repeat (first | refine blk_drewN ?_ _ | refine blk_drew ?_ | refine blk_alloc ?_ _)); refine blk_far ?_ NB261_269.out _; (with_reducible repeat (first | refine blk_drewN ?_ _ | refine blk_drew ?_ | refine blk_alloc ?_ _)); refine blk_far ?_ NB261_269.out _; (with_reducible repeat (first | refine blk_drewN ?_ _ | refine blk_drew ?_ | refine blk_alloc ?_ _)); exact BK261.out⟩, ⟨by (with_reducible repeat (first | refine blk_drewN ?_ _ | refine blk_drew ?_ | refine blk_alloc ?_ _)); refine blk_put (cs := #[.int .i64 t264, .int .i64 t265, .int .i64 t266, .int .i64 0]) ?_ 3 _ rfl; (with_reducible repeat (first | refine blk_drewN ?_ _ | refine blk_drew ?_ | refine blk_alloc ?_ _)); refine blk_put (cs := #[.int .i64 t264, .int .i64 t265, .int .i64 0, .int .i64 0]) ?_ 2 _ rfl; (with_reducible repeat (first | refine blk_drewN ?_ _ | refine blk_drew ?_ | refine blk_alloc ?_ _)); refine blk_put (cs := #[.int .i64 t264, .int .i64 0, .int .i64 0, .int .i64 0]) ?_ 1 _ rfl; (with_reducible repeat (first | refine blk_drewN ?_ _ | refine blk_drew ?_ | refine blk_alloc ?_ _)); refine blk_put (cs := #[.int .i64 0, .int .i64 0, .int .i64 0, .int .i64 0]) ?_ 0 _ rfl; (with_reducible repeat (first | refine blk_drewN ?_ _ | refine blk_drew ?_ | refine blk_alloc ?_ _)); exact BK269.out⟩, ⟨by repeat (first | (with_reducible first | exact HB.out | apply below_alloc | apply pw_below_drewN | apply below_drew1 | refine below_set ?_ GE259.out | refine below_set ?_ GE260.out | refine below_set ?_ GE261.out | refine below_set ?_ GE269.out) | exact HB.out)⟩⟩
          · rw [if_neg c31] at H
            have c31b0 : decide (549755813888 < a2_0) = false := decide_eq_false c31
            clear c31
            by_cases c36 : a2_1 < (-549755813888)
            · rw [if_pos c36] at H
              have c36b0 : decide (a2_1 < (-549755813888)) = true := decide_eq_true c36
              clear c36
              have H' := Aside0.mk H
              clear H
              have hnb37 := NB261_259.out
              have hnc37 := NB259_261.out
              have hnb38 := NB261_260.out
              have hnc38 := NB260_261.out
              have hnb39 := NB261_269.out
              have hnc39 := NB269_261.out
              have hcz40_0 : w19.cell? ⟨gb261, 0, none⟩ = some (.int .i64 a2_0) := (blk_cell BK261.out 0).trans rfl
              have hcz40_1 : w19.cell? ⟨gb261, 1, none⟩ = some (.int .i64 a2_1) := (blk_cell BK261.out 1).trans rfl
              have hfz40_0 := blk_frozen BK261.out 0
              have hfz40_1 := blk_frozen BK261.out 1
              go_wp2
              go_meet
              case rel => exact ⟨_, (true), (by first | rfl | (simp; done) | (simp [*]; done)), H', ⟨by first | omega | exact Nat.le_refl _⟩, ⟨by (with_reducible repeat (first | refine blk_drewN ?_ _ | refine blk_drew ?_ | refine blk_alloc ?_ _)); refine blk_far ?_ NB259_269.out _; (with_reducible repeat (first | refine blk_drewN ?_ _ | refine blk_drew ?_ | refine blk_alloc ?_ _)); refine blk_far ?_ NB259_269.out _; (with_reducible repeat (first | refine blk_drewN ?_ _ | refine blk_drew ?_ | refine blk_alloc ?_ _)); refine blk_far ?_ NB259_269.out _; (with_reducible repeat (first | refine blk_drewN ?_ _ | refine blk_drew ?_ | refine blk_alloc ?_ _)); refine blk_far ?_ NB259_269.out _; (with_reducible repeat (first | refine blk_drewN ?_ _ | refine blk_drew ?_ | refine blk_alloc ?_ _)); exact BK259.out⟩, ⟨by (with_reducible repeat (first | refine blk_drewN ?_ _ | refine blk_drew ?_ | refine blk_alloc ?_ _)); refine blk_far ?_ NB260_269.out _; (with_reducible repeat (first | refine blk_drewN ?_ _ | refine blk_drew ?_ | refine blk_alloc ?_ _)); refine blk_far ?_ NB260_269.out _; (with_reducible repeat (first | refine blk_drewN ?_ _ | refine blk_drew ?_ | refine blk_alloc ?_ _)); refine blk_far ?_ NB260_269.out _; (with_reducible repeat (first | refine blk_drewN ?_ _ | refine blk_drew ?_ | refine blk_alloc ?_ _)); refine blk_far ?_ NB260_269.out _; (with_reducible repeat (first | refine blk_drewN ?_ _ | refine blk_drew ?_ | refine blk_alloc ?_ _)); exact BK260.out⟩, ⟨by (with_reducible repeat (first | refine blk_drewN ?_ _ | refine blk_drew ?_ | refine blk_alloc ?_ _)); refine blk_far ?_ NB261_269.out _; (with_reducible repeat (first | refine blk_drewN ?_ _ | refine blk_drew ?_ | refine blk_alloc ?_ _)); refine blk_far ?_ NB261_269.out _; (with_reducible repeat (first | refine blk_drewN ?_ _ | refine blk_drew ?_ | refine blk_alloc ?_ _)); refine blk_far ?_ NB261_269.out _; (with_reducible repeat (first | refine blk_drewN ?_ _ | refine blk_drew ?_ | refine blk_alloc ?_ _)); refine blk_far ?_ NB261_269.out _; (with_reducible repeat (first | refine blk_drewN ?_ _ | refine blk_drew ?_ | refine blk_alloc ?_ _)); exact BK261.out⟩, ⟨by (with_reducible repeat (first | refine blk_drewN ?_ _ | refine blk_drew ?_ | refine blk_alloc ?_ _)); refine blk_put (cs := #[.int .i64 t264, .int .i64 t265, .int .i64 t266, .int .i64 0]) ?_ 3 _ rfl; (with_reducible repeat (first | refine blk_drewN ?_ _ | refine blk_drew ?_ | refine blk_alloc ?_ _)); refine blk_put (cs := #[.int .i64 t264, .int .i64 t265, .int .i64 0, .int .i64 0]) ?_ 2 _ rfl; (with_reducible repeat (first | refine blk_drewN ?_ _ | refine blk_drew ?_ | refine blk_alloc ?_ _)); refine blk_put (cs := #[.int .i64 t264, .int .i64 0, .int .i64 0, .int .i64 0]) ?_ 1 _ rfl; (with_reducible repeat (first | refine blk_drewN ?_ _ | refine blk_drew ?_ | refine blk_alloc ?_ _)); refine blk_put (cs := #[.int .i64 0, .int .i64 0, .int .i64 0, .int .i64 0]) ?_ 0 _ rfl; (with_reducible repeat (first | refine blk_drewN ?_ _ | refine blk_drew ?_ | refine blk_alloc ?_ _)); exact BK269.out⟩, ⟨by repeat (first | (with_reducible first | exact HB.out | apply below_alloc | apply pw_below_drewN | apply below_drew1 | refine below_set ?_ GE259.out | refine below_set ?_ GE260.out | refine below_set ?_ GE261.out | refine below_set ?_ GE269.out) | exact HB.out)⟩⟩
            · rw [if_neg c36] at H
              have c36b0 : decide (a2_1 < (-549755813888)) = false := decide_eq_false c36
              clear c36
              have H' := Aside0.mk H
              clear H
              have hnb41 := NB261_259.out
              have hnc41 := NB259_261.out
              have hnb42 := NB261_260.out
              have hnc42 := NB260_261.out
              have hnb43 := NB261_269.out
              have hnc43 := NB269_261.out
              have hcz44_0 : w19.cell? ⟨gb261, 0, none⟩ = some (.int .i64 a2_0) := (blk_cell BK261.out 0).trans rfl
              have hcz44_1 : w19.cell? ⟨gb261, 1, none⟩ = some (.int .i64 a2_1) := (blk_cell BK261.out 1).trans rfl
              have hfz44_0 := blk_frozen BK261.out 0
              have hfz44_1 := blk_frozen BK261.out 1
              go_wp2
              go_meet
              case rel => exact ⟨_, (decide (a2_1 > 549755813888)), (by first | rfl | (simp; done) | (simp [*]; done)), H', ⟨by first | omega | exact Nat.le_refl _⟩, ⟨by (with_reducible repeat (first | refine blk_drewN ?_ _ | refine blk_drew ?_ | refine blk_alloc ?_ _)); refine blk_far ?_ NB259_269.out _; (with_reducible repeat (first | refine blk_drewN ?_ _ | refine blk_drew ?_ | refine blk_alloc ?_ _)); refine blk_far ?_ NB259_269.out _; (with_reducible repeat (first | refine blk_drewN ?_ _ | refine blk_drew ?_ | refine blk_alloc ?_ _)); refine blk_far ?_ NB259_269.out _; (with_reducible repeat (first | refine blk_drewN ?_ _ | refine blk_drew ?_ | refine blk_alloc ?_ _)); refine blk_far ?_ NB259_269.out _; (with_reducible repeat (first | refine blk_drewN ?_ _ | refine blk_drew ?_ | refine blk_alloc ?_ _)); exact BK259.out⟩, ⟨by (with_reducible repeat (first | refine blk_drewN ?_ _ | refine blk_drew ?_ | refine blk_alloc ?_ _)); refine blk_far ?_ NB260_269.out _; (with_reducible repeat (first | refine blk_drewN ?_ _ | refine blk_drew ?_ | refine blk_alloc ?_ _)); refine blk_far ?_ NB260_269.out _; (with_reducible repeat (first | refine blk_drewN ?_ _ | refine blk_drew ?_ | refine blk_alloc ?_ _)); refine blk_far ?_ NB260_269.out _; (with_reducible repeat (first | refine blk_drewN ?_ _ | refine blk_drew ?_ | refine blk_alloc ?_ _)); refine blk_far ?_ NB260_269.out _; (with_reducible repeat (first | refine blk_drewN ?_ _ | refine blk_drew ?_ | refine blk_alloc ?_ _)); exact BK260.out⟩, ⟨by (with_reducible repeat (first | refine blk_drewN ?_ _ | refine blk_drew ?_ | refine blk_alloc ?_ _)); refine blk_far ?_ NB261_269.out _; (with_reducible repeat (first | refine blk_drewN ?_ _ | refine blk_drew ?_ | refine blk_alloc ?_ _)); refine blk_far ?_ NB261_269.out _; (with_reducible repeat (first | refine blk_drewN ?_ _ | refine blk_drew ?_ | refine blk_alloc ?_ _)); refine blk_far ?_ NB261_269.out _; (with_reducible repeat (first | refine blk_drewN ?_ _ | refine blk_drew ?_ | refine blk_alloc ?_ _)); refine blk_far ?_ NB261_269.out _; (with_reducible repeat (first | refine blk_drewN ?_ _ | refine blk_drew ?_ | refine blk_alloc ?_ _)); exact BK261.out⟩, ⟨by (with_reducible repeat (first | refine blk_drewN ?_ _ | refine blk_drew ?_ | refine blk_alloc ?_ _)); refine blk_put (cs := #[.int .i64 t264, .int .i64 t265, .int .i64 t266, .int .i64 0]) ?_ 3 _ rfl; (with_reducible repeat (first | refine blk_drewN ?_ _ | refine blk_drew ?_ | refine blk_alloc ?_ _)); refine blk_put (cs := #[.int .i64 t264, .int .i64 t265, .int .i64 0, .int .i64 0]) ?_ 2 _ rfl; (with_reducible repeat (first | refine blk_drewN ?_ _ | refine blk_drew ?_ | refine blk_alloc ?_ _)); refine blk_put (cs := #[.int .i64 t264, .int .i64 0, .int .i64 0, .int .i64 0]) ?_ 1 _ rfl; (with_reducible repeat (first | refine blk_drewN ?_ _ | refine blk_drew ?_ | refine blk_alloc ?_ _)); refine blk_put (cs := #[.int .i64 0, .int .i64 0, .int .i64 0, .int .i64 0]) ?_ 0 _ rfl; (with_reducible repeat (first | refine blk_drewN ?_ _ | refine blk_drew ?_ | refine blk_alloc ?_ _)); exact BK269.out⟩, ⟨by repeat (first | (with_reducible first | exact HB.out | apply below_alloc | apply pw_below_drewN | apply below_drew1 | refine below_set ?_ GE259.out | refine below_set ?_ GE260.out | refine below_set ?_ GE261.out | refine below_set ?_ GE269.out) | exact HB.out)⟩⟩
      · rw [if_neg c25] at H
        have c25b0 : (t268 == 0) = false := beq_eq_false_iff_ne.mpr c25
        have c25b1 : (t268 != 0) = true := bne_iff_ne.mpr c25
        have H' := Aside0.mk H
        clear H
        go_wp2
        go_meet
        case rel => exact ⟨_, (true), (by first | rfl | (simp; done) | (simp [*]; done)), H', ⟨by first | omega | exact Nat.le_refl _⟩, ⟨by (with_reducible repeat (first | refine blk_drewN ?_ _ | refine blk_drew ?_ | refine blk_alloc ?_ _)); refine blk_far ?_ NB259_269.out _; (with_reducible repeat (first | refine blk_drewN ?_ _ | refine blk_drew ?_ | refine blk_alloc ?_ _)); refine blk_far ?_ NB259_269.out _; (with_reducible repeat (first | refine blk_drewN ?_ _ | refine blk_drew ?_ | refine blk_alloc ?_ _)); refine blk_far ?_ NB259_269.out _; (with_reducible repeat (first | refine blk_drewN ?_ _ | refine blk_drew ?_ | refine blk_alloc ?_ _)); refine blk_far ?_ NB259_269.out _; (with_reducible repeat (first | refine blk_drewN ?_ _ | refine blk_drew ?_ | refine blk_alloc ?_ _)); exact BK259.out⟩, ⟨by (with_reducible repeat (first | refine blk_drewN ?_ _ | refine blk_drew ?_ | refine blk_alloc ?_ _)); refine blk_far ?_ NB260_269.out _; (with_reducible repeat (first | refine blk_drewN ?_ _ | refine blk_drew ?_ | refine blk_alloc ?_ _)); refine blk_far ?_ NB260_269.out _; (with_reducible repeat (first | refine blk_drewN ?_ _ | refine blk_drew ?_ | refine blk_alloc ?_ _)); refine blk_far ?_ NB260_269.out _; (with_reducible repeat (first | refine blk_drewN ?_ _ | refine blk_drew ?_ | refine blk_alloc ?_ _)); refine blk_far ?_ NB260_269.out _; (with_reducible repeat (first | refine blk_drewN ?_ _ | refine blk_drew ?_ | refine blk_alloc ?_ _)); exact BK260.out⟩, ⟨by (with_reducible repeat (first | refine blk_drewN ?_ _ | refine blk_drew ?_ | refine blk_alloc ?_ _)); refine blk_far ?_ NB261_269.out _; (with_reducible repeat (first | refine blk_drewN ?_ _ | refine blk_drew ?_ | refine blk_alloc ?_ _)); refine blk_far ?_ NB261_269.out _; (with_reducible repeat (first | refine blk_drewN ?_ _ | refine blk_drew ?_ | refine blk_alloc ?_ _)); refine blk_far ?_ NB261_269.out _; (with_reducible repeat (first | refine blk_drewN ?_ _ | refine blk_drew ?_ | refine blk_alloc ?_ _)); refine blk_far ?_ NB261_269.out _; (with_reducible repeat (first | refine blk_drewN ?_ _ | refine blk_drew ?_ | refine blk_alloc ?_ _)); exact BK261.out⟩, ⟨by (with_reducible repeat (first | refine blk_drewN ?_ _ | refine blk_drew ?_ | refine blk_alloc ?_ _)); refine blk_put (cs := #[.int .i64 t264, .int .i64 t265, .int .i64 t266, .int .i64 0]) ?_ 3 _ rfl; (with_reducible repeat (first | refine blk_drewN ?_ _ | refine blk_drew ?_ | refine blk_alloc ?_ _)); refine blk_put (cs := #[.int .i64 t264, .int .i64 t265, .int .i64 0, .int .i64 0]) ?_ 2 _ rfl; (with_reducible repeat (first | refine blk_drewN ?_ _ | refine blk_drew ?_ | refine blk_alloc ?_ _)); refine blk_put (cs := #[.int .i64 t264, .int .i64 0, .int .i64 0, .int .i64 0]) ?_ 1 _ rfl; (with_reducible repeat (first | refine blk_drewN ?_ _ | refine blk_drew ?_ | refine blk_alloc ?_ _)); refine blk_put (cs := #[.int .i64 0, .int .i64 0, .int .i64 0, .int .i64 0]) ?_ 0 _ rfl; (with_reducible repeat (first | refine blk_drewN ?_ _ | refine blk_drew ?_ | refine blk_alloc ?_ _)); exact BK269.out⟩, ⟨by repeat (first | (with_reducible first | exact HB.out | apply below_alloc | apply pw_below_drewN | apply below_drew1 | refine below_set ?_ GE259.out | refine below_set ?_ GE260.out | refine below_set ?_ GE261.out | refine below_set ?_ GE269.out) | exact HB.out)⟩⟩
    · rw [if_neg c24] at H
      have c24b0 : (t263 == 0) = false := beq_eq_false_iff_ne.mpr c24
      have c24b1 : (t263 != 0) = true := bne_iff_ne.mpr c24
      (first | rw [c24b0] | (simp only [i64_w, i32_w]; rw [c24b0]) | skip)
      have H' := Aside0.mk H
      clear H
      go_wp2
      go_meet
      case rel => exact ⟨_, (true), (by first | rfl | (simp; done) | (simp [*]; done)), H', ⟨by first | omega | exact Nat.le_refl _⟩, ⟨by (with_reducible repeat (first | refine blk_drewN ?_ _ | refine blk_drew ?_ | refine blk_alloc ?_ _)); refine blk_far ?_ NB259_269.out _; (with_reducible repeat (first | refine blk_drewN ?_ _ | refine blk_drew ?_ | refine blk_alloc ?_ _)); refine blk_far ?_ NB259_269.out _; (with_reducible repeat (first | refine blk_drewN ?_ _ | refine blk_drew ?_ | refine blk_alloc ?_ _)); refine blk_far ?_ NB259_269.out _; (with_reducible repeat (first | refine blk_drewN ?_ _ | refine blk_drew ?_ | refine blk_alloc ?_ _)); refine blk_far ?_ NB259_269.out _; (with_reducible repeat (first | refine blk_drewN ?_ _ | refine blk_drew ?_ | refine blk_alloc ?_ _)); exact BK259.out⟩, ⟨by (with_reducible repeat (first | refine blk_drewN ?_ _ | refine blk_drew ?_ | refine blk_alloc ?_ _)); refine blk_far ?_ NB260_269.out _; (with_reducible repeat (first | refine blk_drewN ?_ _ | refine blk_drew ?_ | refine blk_alloc ?_ _)); refine blk_far ?_ NB260_269.out _; (with_reducible repeat (first | refine blk_drewN ?_ _ | refine blk_drew ?_ | refine blk_alloc ?_ _)); refine blk_far ?_ NB260_269.out _; (with_reducible repeat (first | refine blk_drewN ?_ _ | refine blk_drew ?_ | refine blk_alloc ?_ _)); refine blk_far ?_ NB260_269.out _; (with_reducible repeat (first | refine blk_drewN ?_ _ | refine blk_drew ?_ | refine blk_alloc ?_ _)); exact BK260.out⟩, ⟨by (with_reducible repeat (first | refine blk_drewN ?_ _ | refine blk_drew ?_ | refine blk_alloc ?_ _)); refine blk_far ?_ NB261_269.out _; (with_reducible repeat (first | refine blk_drewN ?_ _ | refine blk_drew ?_ | refine blk_alloc ?_ _)); refine blk_far ?_ NB261_269.out _; (with_reducible repeat (first | refine blk_drewN ?_ _ | refine blk_drew ?_ | refine blk_alloc ?_ _)); refine blk_far ?_ NB261_269.out _; (with_reducible repeat (first | refine blk_drewN ?_ _ | refine blk_drew ?_ | refine blk_alloc ?_ _)); refine blk_far ?_ NB261_269.out _; (with_reducible repeat (first | refine blk_drewN ?_ _ | refine blk_drew ?_ | refine blk_alloc ?_ _)); exact BK261.out⟩, ⟨by (with_reducible repeat (first | refine blk_drewN ?_ _ | refine blk_drew ?_ | refine blk_alloc ?_ _)); refine blk_put (cs := #[.int .i64 t264, .int .i64 t265, .int .i64 t266, .int .i64 0]) ?_ 3 _ rfl; (with_reducible repeat (first | refine blk_drewN ?_ _ | refine blk_drew ?_ | refine blk_alloc ?_ _)); refine blk_put (cs := #[.int .i64 t264, .int .i64 t265, .int .i64 0, .int .i64 0]) ?_ 2 _ rfl; (with_reducible repeat (first | refine blk_drewN ?_ _ | refine blk_drew ?_ | refine blk_alloc ?_ _)); refine blk_put (cs := #[.int .i64 t264, .int .i64 0, .int .i64 0, .int .i64 0]) ?_ 1 _ rfl; (with_reducible repeat (first | refine blk_drewN ?_ _ | refine blk_drew ?_ | refine blk_alloc ?_ _)); refine blk_put (cs := #[.int .i64 0, .int .i64 0, .int .i64 0, .int .i64 0]) ?_ 0 _ rfl; (with_reducible repeat (first | refine blk_drewN ?_ _ | refine blk_drew ?_ | refine blk_alloc ?_ _)); exact BK269.out⟩, ⟨by repeat (first | (with_reducible first | exact HB.out | apply below_alloc | apply pw_below_drewN | apply below_drew1 | refine below_set ?_ GE259.out | refine below_set ?_ GE260.out | refine below_set ?_ GE261.out | refine below_set ?_ GE269.out) | exact HB.out)⟩⟩
  case rest =>
    clear HC6
    try clear c1
    try clear c2
    try clear p2
    try clear c3
    try clear c4
    try clear c5
    try clear c10
    try clear c11
    try clear c15
    try clear c19
    try clear c20
    try clear c21
    try clear c22
    try clear c24
    try clear c24b0
    try clear c24b1
    try clear c25
    try clear c25b0
    try clear c25b1
    try clear c26
    try clear c26b0
    try clear c27
    try clear c28
    try clear c29
    try clear c31
    try clear c31b0
    try clear c32
    try clear c33
    try clear c34
    try clear c36
    try clear c36b0
    try clear c37
    try clear c38
    try clear c39
    try clear c41
    try clear c42
    try clear c43
    try clear hcz12_0
    try clear hcz12_1
    try clear hcz14_0
    try clear hcz14_1
    try clear hcz16_0
    try clear hcz16_1
    try clear hcz16_2
    try clear hcz16_3
    try clear hcz16_4
    try clear hcz16_5
    try clear hcz16_6
    try clear hcz16_7
    try clear hcz17_0
    try clear hcz17_1
    try clear hcz23_0
    try clear hcz23_1
    try clear hcz23_2
    try clear hcz23_3
    try clear hcz30_0
    try clear hcz30_1
    try clear hcz35_0
    try clear hcz35_1
    try clear hcz40_0
    try clear hcz40_1
    try clear hcz44_0
    try clear hcz44_1
    try clear hfz12_0
    try clear hfz12_1
    try clear hfz14_0
    try clear hfz14_1
    try clear hfz16_0
    try clear hfz16_1
    try clear hfz16_2
    try clear hfz16_3
    try clear hfz16_4
    try clear hfz16_5
    try clear hfz16_6
    try clear hfz16_7
    try clear hfz17_0
    try clear hfz17_1
    try clear hfz23_0
    try clear hfz23_1
    try clear hfz23_2
    try clear hfz23_3
    try clear hfz30_0
    try clear hfz30_1
    try clear hfz35_0
    try clear hfz35_1
    try clear hfz40_0
    try clear hfz40_1
    try clear hfz44_0
    try clear hfz44_1
    obtain ⟨kq, x60_5, rfl, HA, HJ5, BK259, BK260, BK261, BK269, HB⟩ := hcut
    cases kq with
    | zero => exact absurd HA.out (by simp [dioramalaw20_CodeWalks.j0])
    | succ kj5 =>
      have H := HA.out
      clear HA
      simp only [dioramalaw20_CodeWalks.j0] at H
      by_cases c45 : x60_5 = true
      · subst c45
        have H1 : ((dioramalaw20_awake.f kj5).bind fun t270 => (some t270)) = some r := by rw [if_pos rfl] at H; exact H
        clear H
        have H := H1
        clear H1
        replace H := Option.bind_eq_some_iff.mp H
        obtain ⟨t270, A460, H⟩ := H
        replace H : (some t270) = some r := H
        have A46 := Aside0.mk A460
        clear A460
        obtain rfl := Option.some.inj H
        go_wp2_with (first | ((with_reducible refine gate_callee (f := 14) rfl ?_); refine goesL_ (some 61) rfl rfl Try.func14 (by kernel_rfl) rfl #[] rfl (by (try simp only [List.map_toArray, List.map_cons, List.map_nil]); first | done | rfl | (simp only [List.length_drop, List.length_take]; rfl)) ?_; (with_reducible refine (dioramalaw20_awake.calls kj5  t270 _ A46.out).mono ?_); rintro e w47 ⟨rfl, hb⟩; refine ⟨_, rfl, ?_⟩; have n0_ := Aside0.mk (blk_below (g := gb259) (o := .cells #[.int .i64 a0_0, .bool a0_1] 23 (0, 0)) (by (with_reducible repeat (first | refine blk_drewN ?_ _ | refine blk_drew ?_ | refine blk_alloc ?_ _)); exact BK259.out) hb); have n1_ := Aside0.mk (blk_below (g := gb260) (o := .cells #[.int .i64 a1_0, .int .i64 a1_1, .int .i64 a1_2, .int .i64 a1_3, .int .i64 a1_4, .int .i64 a1_5, .int .i64 a1_6, .int .i64 a1_7] 31 (0, 0)) (by (with_reducible repeat (first | refine blk_drewN ?_ _ | refine blk_drew ?_ | refine blk_alloc ?_ _)); exact BK260.out) hb); have n2_ := Aside0.mk (blk_below (g := gb261) (o := .cells #[.int .i64 a2_0, .int .i64 a2_1] 36 (0, 0)) (by (with_reducible repeat (first | refine blk_drewN ?_ _ | refine blk_drew ?_ | refine blk_alloc ?_ _)); exact BK261.out) hb); have n3_ := Aside0.mk (blk_below (g := gb269) (o := .cells #[.int .i64 t264, .int .i64 t265, .int .i64 t266, .int .i64 t267] 25 (0, 0)) (by (with_reducible repeat (first | refine blk_drewN ?_ _ | refine blk_drew ?_ | refine blk_alloc ?_ _)); exact BK269.out) hb); have n4_ := Aside0.mk (below_step (by repeat (first | (with_reducible first | exact HB.out | apply below_alloc | apply pw_below_drewN | apply below_drew1 | refine below_set ?_ GE259.out | refine below_set ?_ GE260.out | refine below_set ?_ GE261.out | refine below_set ?_ GE269.out) | exact HB.out)) hb); clear BK259; clear BK260; clear BK261; clear BK269; clear HB; have BK259 := n0_; have BK260 := n1_; have BK261 := n2_; have BK269 := n3_; have HB := n4_; clear n0_ n1_ n2_ n3_ n4_; (try clear hb); (try clear hb2); (try clear hk); (try clear hi)))
        go_ret
        exact ⟨by first | rfl | (simp [errW_none, errW_some] <;> rfl) | (simp [*, errW_none, errW_some] <;> rfl), by repeat (first | (with_reducible first | exact HB.out | apply below_alloc | apply pw_below_drewN | apply below_drew1 | refine below_set ?_ GE259.out | refine below_set ?_ GE260.out | refine below_set ?_ GE261.out | refine below_set ?_ GE269.out) | exact HB.out)⟩
      · replace c45 := Bool.eq_false_iff.mpr c45
        subst c45
        have H1 : ((code_Add.f kj5 a0_0 a0_1 t264 t265 t266 t267 a2_1).bind fun bt271 => ((code_Add.f kj5 a0_0 a0_1 a1_0 a1_1 a1_2 a1_3 (wrap64 (a2_0 + a2_1))).bind fun bt277 => (if bt271.2.2.2.2 = 0 then (if bt277.2.2.2.2 = 0 then (dioramalaw20_CodeWalks.j1 kj5 t262 (!(bt271.1 == bt277.1) || (!(bt271.2.1 == bt277.2.1) || (!(bt271.2.2.1 == bt277.2.2.1) || (!(bt271.2.2.2.1 == bt277.2.2.2.1))))) a0_0 a0_1 a1_0 a1_1 a1_2 a1_3 a1_4 a1_5 a1_6 a1_7) else (dioramalaw20_CodeWalks.j1 kj5 t262 true a0_0 a0_1 a1_0 a1_1 a1_2 a1_3 a1_4 a1_5 a1_6 a1_7)) else (dioramalaw20_CodeWalks.j1 kj5 t262 true a0_0 a0_1 a1_0 a1_1 a1_2 a1_3 a1_4 a1_5 a1_6 a1_7)))) = some r := by rw [if_neg (show ¬ (false = true) by decide)] at H; exact H
        clear H
        have H := H1
        clear H1
        replace H := Option.bind_eq_some_iff.mp H
        obtain ⟨⟨t271, t272, t273, t274, t275⟩, A480, H⟩ := H
        replace H : ((code_Add.f kj5 a0_0 a0_1 a1_0 a1_1 a1_2 a1_3 (wrap64 (a2_0 + a2_1))).bind fun bt277 => (if t275 = 0 then (if bt277.2.2.2.2 = 0 then (dioramalaw20_CodeWalks.j1 kj5 t262 (!(t271 == bt277.1) || (!(t272 == bt277.2.1) || (!(t273 == bt277.2.2.1) || (!(t274 == bt277.2.2.2.1))))) a0_0 a0_1 a1_0 a1_1 a1_2 a1_3 a1_4 a1_5 a1_6 a1_7) else (dioramalaw20_CodeWalks.j1 kj5 t262 true a0_0 a0_1 a1_0 a1_1 a1_2 a1_3 a1_4 a1_5 a1_6 a1_7)) else (dioramalaw20_CodeWalks.j1 kj5 t262 true a0_0 a0_1 a1_0 a1_1 a1_2 a1_3 a1_4 a1_5 a1_6 a1_7))) = some r := H
        have A48 := Aside0.mk A480
        clear A480
        replace H := Option.bind_eq_some_iff.mp H
        obtain ⟨⟨t277, t278, t279, t280, t281⟩, A490, H⟩ := H
        replace H : (if t275 = 0 then (if t281 = 0 then (dioramalaw20_CodeWalks.j1 kj5 t262 (!(t271 == t277) || (!(t272 == t278) || (!(t273 == t279) || (!(t274 == t280))))) a0_0 a0_1 a1_0 a1_1 a1_2 a1_3 a1_4 a1_5 a1_6 a1_7) else (dioramalaw20_CodeWalks.j1 kj5 t262 true a0_0 a0_1 a1_0 a1_1 a1_2 a1_3 a1_4 a1_5 a1_6 a1_7)) else (dioramalaw20_CodeWalks.j1 kj5 t262 true a0_0 a0_1 a1_0 a1_1 a1_2 a1_3 a1_4 a1_5 a1_6 a1_7)) = some r := H
        have A49 := Aside0.mk A490
        clear A490
        have HC50 := Aside0.mk H
        clear H
        have hnb51 := NB259_260.out
        have hnc51 := NB260_259.out
        have hnb52 := NB259_261.out
        have hnc52 := NB261_259.out
        have hnb53 := NB259_269.out
        have hnc53 := NB269_259.out
        have hcz54_0 : wc.cell? ⟨gb259, 0, none⟩ = some (.int .i64 a0_0) := (blk_cell BK259.out 0).trans rfl
        have hcz54_1 : wc.cell? ⟨gb259, 1, none⟩ = some (.bool a0_1) := (blk_cell BK259.out 1).trans rfl
        have hfz54_0 := blk_frozen BK259.out 0
        have hfz54_1 := blk_frozen BK259.out 1
        have hnb55 := NB269_260.out
        have hnc55 := NB260_269.out
        have hnb56 := NB269_261.out
        have hnc56 := NB261_269.out
        have hcz57_0 : wc.cell? ⟨gb269, 0, none⟩ = some (.int .i64 t264) := (blk_cell BK269.out 0).trans rfl
        have hcz57_1 : wc.cell? ⟨gb269, 1, none⟩ = some (.int .i64 t265) := (blk_cell BK269.out 1).trans rfl
        have hcz57_2 : wc.cell? ⟨gb269, 2, none⟩ = some (.int .i64 t266) := (blk_cell BK269.out 2).trans rfl
        have hcz57_3 : wc.cell? ⟨gb269, 3, none⟩ = some (.int .i64 t267) := (blk_cell BK269.out 3).trans rfl
        have hfz57_0 := blk_frozen BK269.out 0
        have hfz57_1 := blk_frozen BK269.out 1
        have hfz57_2 := blk_frozen BK269.out 2
        have hfz57_3 := blk_frozen BK269.out 3
        have hnb58 := NB261_260.out
        have hnc58 := NB260_261.out
        have hcz59_0 : wc.cell? ⟨gb261, 0, none⟩ = some (.int .i64 a2_0) := (blk_cell BK261.out 0).trans rfl
        have hcz59_1 : wc.cell? ⟨gb261, 1, none⟩ = some (.int .i64 a2_1) := (blk_cell BK261.out 1).trans rfl
        have hfz59_0 := blk_frozen BK261.out 0
        have hfz59_1 := blk_frozen BK261.out 1
        go_upto_region 7 with (first | ((with_reducible refine gate_callee (f := 15) rfl ?_); refine goesL_ (some 67) rfl rfl Try.func15 (by kernel_rfl) rfl #[.agg #[.int .i64 a0_0, .bool a0_1], .agg #[.int .i64 t264, .int .i64 t265, .int .i64 t266, .int .i64 t267], .int .i64 a2_1] rfl (by (try simp only [List.map_toArray, List.map_cons, List.map_nil]); first | done | rfl | (simp only [List.length_drop, List.length_take]; rfl)) ?_; (with_reducible refine (code_Add.calls kj5 a0_0 a0_1 t264 t265 t266 t267 a2_1 t271 t272 t273 t274 t275 _ A48.out).mono ?_); rintro e w60 ⟨rfl, hb⟩; refine ⟨_, rfl, ?_⟩; have n0_ := Aside0.mk (blk_below (g := gb259) (o := .cells #[.int .i64 a0_0, .bool a0_1] 23 (0, 0)) (by (with_reducible repeat (first | refine blk_drewN ?_ _ | refine blk_drew ?_ | refine blk_alloc ?_ _)); exact BK259.out) hb); have n1_ := Aside0.mk (blk_below (g := gb260) (o := .cells #[.int .i64 a1_0, .int .i64 a1_1, .int .i64 a1_2, .int .i64 a1_3, .int .i64 a1_4, .int .i64 a1_5, .int .i64 a1_6, .int .i64 a1_7] 31 (0, 0)) (by (with_reducible repeat (first | refine blk_drewN ?_ _ | refine blk_drew ?_ | refine blk_alloc ?_ _)); exact BK260.out) hb); have n2_ := Aside0.mk (blk_below (g := gb261) (o := .cells #[.int .i64 a2_0, .int .i64 a2_1] 36 (0, 0)) (by (with_reducible repeat (first | refine blk_drewN ?_ _ | refine blk_drew ?_ | refine blk_alloc ?_ _)); exact BK261.out) hb); have n3_ := Aside0.mk (blk_below (g := gb269) (o := .cells #[.int .i64 t264, .int .i64 t265, .int .i64 t266, .int .i64 t267] 25 (0, 0)) (by (with_reducible repeat (first | refine blk_drewN ?_ _ | refine blk_drew ?_ | refine blk_alloc ?_ _)); exact BK269.out) hb); have n4_ := Aside0.mk (below_step (by repeat (first | (with_reducible first | exact HB.out | apply below_alloc | apply pw_below_drewN | apply below_drew1 | refine below_set ?_ GE259.out | refine below_set ?_ GE260.out | refine below_set ?_ GE261.out | refine below_set ?_ GE269.out) | exact HB.out)) hb); clear BK259; clear BK260; clear BK261; clear BK269; clear HB; have BK259 := n0_; have BK260 := n1_; have BK261 := n2_; have BK269 := n3_; have HB := n4_; clear n0_ n1_ n2_ n3_ n4_; (try clear hb); (try clear hb2); (try clear hk); (try clear hi)) | ((with_reducible refine gate_dst (N := 11) rfl ?_); refine box_event ?hg (N := 11) ?hd (cs := #[.int .i64 0, .int .i64 0, .int .i64 0, .int .i64 0]) (t := 25) ?hr ?_; (case hd => rfl); (case hg => rfl); (case hr => first | (go_simp; done) | (go_simp; rfl)); intro gb276 hg w61 hbox hb; have n0_ := Aside0.mk (blk_below (g := gb259) (o := .cells #[.int .i64 a0_0, .bool a0_1] 23 (0, 0)) (by (with_reducible repeat (first | refine blk_drewN ?_ _ | refine blk_drew ?_ | refine blk_alloc ?_ _)); exact BK259.out) hb); have n1_ := Aside0.mk (blk_below (g := gb260) (o := .cells #[.int .i64 a1_0, .int .i64 a1_1, .int .i64 a1_2, .int .i64 a1_3, .int .i64 a1_4, .int .i64 a1_5, .int .i64 a1_6, .int .i64 a1_7] 31 (0, 0)) (by (with_reducible repeat (first | refine blk_drewN ?_ _ | refine blk_drew ?_ | refine blk_alloc ?_ _)); exact BK260.out) hb); have n2_ := Aside0.mk (blk_below (g := gb261) (o := .cells #[.int .i64 a2_0, .int .i64 a2_1] 36 (0, 0)) (by (with_reducible repeat (first | refine blk_drewN ?_ _ | refine blk_drew ?_ | refine blk_alloc ?_ _)); exact BK261.out) hb); have n3_ := Aside0.mk (blk_below (g := gb269) (o := .cells #[.int .i64 t264, .int .i64 t265, .int .i64 t266, .int .i64 t267] 25 (0, 0)) (by (with_reducible repeat (first | refine blk_drewN ?_ _ | refine blk_drew ?_ | refine blk_alloc ?_ _)); exact BK269.out) hb); have n4_ := Aside0.mk (below_step (by repeat (first | (with_reducible first | exact HB.out | apply below_alloc | apply pw_below_drewN | apply below_drew1 | refine below_set ?_ GE259.out | refine below_set ?_ GE260.out | refine below_set ?_ GE261.out | refine below_set ?_ GE269.out) | exact HB.out)) hb); have n5_ := Aside0.mk (hbox); have n6_ := Aside0.mk ((by rw [hg]; exact (below_size (by repeat (first | (with_reducible first | exact HB.out | apply below_alloc | apply pw_below_drewN | apply below_drew1 | refine below_set ?_ GE259.out | refine below_set ?_ GE260.out | refine below_set ?_ GE261.out | refine below_set ?_ GE269.out) | exact HB.out))) : w.heap.size ≤ gb276)); have n7_ := Aside0.mk ((by rw [hg]; exact (below_size (by repeat (first | (with_reducible first | exact HB.out | apply below_alloc | apply pw_below_drewN | apply below_drew1 | refine below_set ?_ GE259.out | refine below_set ?_ GE260.out | refine below_set ?_ GE261.out | refine below_set ?_ GE269.out) | exact HB.out))) : w.heap.size ≤ gb276)); have n8_ := Aside0.mk ((by rw [hg]; exact Nat.ne_of_lt (blk_lt (g := gb259) (o := .cells #[.int .i64 a0_0, .bool a0_1] 23 (0, 0)) (by (with_reducible repeat (first | refine blk_drewN ?_ _ | refine blk_drew ?_ | refine blk_alloc ?_ _)); exact BK259.out)) : gb259 ≠ gb276)); have n9_ := Aside0.mk ((by rw [hg]; exact Nat.ne_of_gt (blk_lt (g := gb259) (o := .cells #[.int .i64 a0_0, .bool a0_1] 23 (0, 0)) (by (with_reducible repeat (first | refine blk_drewN ?_ _ | refine blk_drew ?_ | refine blk_alloc ?_ _)); exact BK259.out)) : gb276 ≠ gb259)); have n10_ := Aside0.mk ((by rw [hg]; exact Nat.ne_of_lt (blk_lt (g := gb260) (o := .cells #[.int .i64 a1_0, .int .i64 a1_1, .int .i64 a1_2, .int .i64 a1_3, .int .i64 a1_4, .int .i64 a1_5, .int .i64 a1_6, .int .i64 a1_7] 31 (0, 0)) (by (with_reducible repeat (first | refine blk_drewN ?_ _ | refine blk_drew ?_ | refine blk_alloc ?_ _)); exact BK260.out)) : gb260 ≠ gb276)); have n11_ := Aside0.mk ((by rw [hg]; exact Nat.ne_of_gt (blk_lt (g := gb260) (o := .cells #[.int .i64 a1_0, .int .i64 a1_1, .int .i64 a1_2, .int .i64 a1_3, .int .i64 a1_4, .int .i64 a1_5, .int .i64 a1_6, .int .i64 a1_7] 31 (0, 0)) (by (with_reducible repeat (first | refine blk_drewN ?_ _ | refine blk_drew ?_ | refine blk_alloc ?_ _)); exact BK260.out)) : gb276 ≠ gb260)); have n12_ := Aside0.mk ((by rw [hg]; exact Nat.ne_of_lt (blk_lt (g := gb261) (o := .cells #[.int .i64 a2_0, .int .i64 a2_1] 36 (0, 0)) (by (with_reducible repeat (first | refine blk_drewN ?_ _ | refine blk_drew ?_ | refine blk_alloc ?_ _)); exact BK261.out)) : gb261 ≠ gb276)); have n13_ := Aside0.mk ((by rw [hg]; exact Nat.ne_of_gt (blk_lt (g := gb261) (o := .cells #[.int .i64 a2_0, .int .i64 a2_1] 36 (0, 0)) (by (with_reducible repeat (first | refine blk_drewN ?_ _ | refine blk_drew ?_ | refine blk_alloc ?_ _)); exact BK261.out)) : gb276 ≠ gb261)); have n14_ := Aside0.mk ((by rw [hg]; exact Nat.ne_of_lt (blk_lt (g := gb269) (o := .cells #[.int .i64 t264, .int .i64 t265, .int .i64 t266, .int .i64 t267] 25 (0, 0)) (by (with_reducible repeat (first | refine blk_drewN ?_ _ | refine blk_drew ?_ | refine blk_alloc ?_ _)); exact BK269.out)) : gb269 ≠ gb276)); have n15_ := Aside0.mk ((by rw [hg]; exact Nat.ne_of_gt (blk_lt (g := gb269) (o := .cells #[.int .i64 t264, .int .i64 t265, .int .i64 t266, .int .i64 t267] 25 (0, 0)) (by (with_reducible repeat (first | refine blk_drewN ?_ _ | refine blk_drew ?_ | refine blk_alloc ?_ _)); exact BK269.out)) : gb276 ≠ gb269)); clear BK259; clear BK260; clear BK261; clear BK269; clear HB; have BK259 := n0_; have BK260 := n1_; have BK261 := n2_; have BK269 := n3_; have HB := n4_; have BK276 := n5_; have GW276 := n6_; have GE276 := n7_; have NB259_276 := n8_; have NB276_259 := n9_; have NB260_276 := n10_; have NB276_260 := n11_; have NB261_276 := n12_; have NB276_261 := n13_; have NB269_276 := n14_; have NB276_269 := n15_; clear n0_ n1_ n2_ n3_ n4_ n5_ n6_ n7_ n8_ n9_ n10_ n11_ n12_ n13_ n14_ n15_; clear hb hbox hg; have hnb62 := NB276_259.out; have hnc62 := NB259_276.out; have hnb63 := NB276_260.out; have hnc63 := NB260_276.out; have hnb64 := NB276_261.out; have hnc64 := NB261_276.out; have hnb65 := NB276_269.out; have hnc65 := NB269_276.out; have hcz66_0 : w61.cell? ⟨gb276, 0, none⟩ = some (.int .i64 0) := (blk_cell BK276.out 0).trans rfl; have hcz66_1 : w61.cell? ⟨gb276, 1, none⟩ = some (.int .i64 0) := (blk_cell BK276.out 1).trans rfl; have hcz66_2 : w61.cell? ⟨gb276, 2, none⟩ = some (.int .i64 0) := (blk_cell BK276.out 2).trans rfl; have hcz66_3 : w61.cell? ⟨gb276, 3, none⟩ = some (.int .i64 0) := (blk_cell BK276.out 3).trans rfl; have hfz66_0 := blk_frozen BK276.out 0; have hfz66_1 := blk_frozen BK276.out 1; have hfz66_2 := blk_frozen BK276.out 2; have hfz66_3 := blk_frozen BK276.out 3; have hcz67_0 : w61.cell? ⟨gb259, 0, none⟩ = some (.int .i64 a0_0) := (blk_cell BK259.out 0).trans rfl; have hcz67_1 : w61.cell? ⟨gb259, 1, none⟩ = some (.bool a0_1) := (blk_cell BK259.out 1).trans rfl; have hfz67_0 := blk_frozen BK259.out 0; have hfz67_1 := blk_frozen BK259.out 1; have hcz68_0 : w61.cell? ⟨gb260, 0, none⟩ = some (.int .i64 a1_0) := (blk_cell BK260.out 0).trans rfl; have hcz68_1 : w61.cell? ⟨gb260, 1, none⟩ = some (.int .i64 a1_1) := (blk_cell BK260.out 1).trans rfl; have hcz68_2 : w61.cell? ⟨gb260, 2, none⟩ = some (.int .i64 a1_2) := (blk_cell BK260.out 2).trans rfl; have hcz68_3 : w61.cell? ⟨gb260, 3, none⟩ = some (.int .i64 a1_3) := (blk_cell BK260.out 3).trans rfl; have hcz68_4 : w61.cell? ⟨gb260, 4, none⟩ = some (.int .i64 a1_4) := (blk_cell BK260.out 4).trans rfl; have hcz68_5 : w61.cell? ⟨gb260, 5, none⟩ = some (.int .i64 a1_5) := (blk_cell BK260.out 5).trans rfl; have hcz68_6 : w61.cell? ⟨gb260, 6, none⟩ = some (.int .i64 a1_6) := (blk_cell BK260.out 6).trans rfl; have hcz68_7 : w61.cell? ⟨gb260, 7, none⟩ = some (.int .i64 a1_7) := (blk_cell BK260.out 7).trans rfl; have hfz68_0 := blk_frozen BK260.out 0; have hfz68_1 := blk_frozen BK260.out 1; have hfz68_2 := blk_frozen BK260.out 2; have hfz68_3 := blk_frozen BK260.out 3; have hfz68_4 := blk_frozen BK260.out 4; have hfz68_5 := blk_frozen BK260.out 5; have hfz68_6 := blk_frozen BK260.out 6; have hfz68_7 := blk_frozen BK260.out 7; have hcz69_0 : w61.cell? ⟨gb261, 0, none⟩ = some (.int .i64 a2_0) := (blk_cell BK261.out 0).trans rfl; have hcz69_1 : w61.cell? ⟨gb261, 1, none⟩ = some (.int .i64 a2_1) := (blk_cell BK261.out 1).trans rfl; have hfz69_0 := blk_frozen BK261.out 0; have hfz69_1 := blk_frozen BK261.out 1) | ((with_reducible refine gate_callee (f := 15) rfl ?_); refine goesL_ (some 79) rfl rfl Try.func15 (by kernel_rfl) rfl #[.agg #[.int .i64 a0_0, .bool a0_1], .agg #[.int .i64 a1_0, .int .i64 a1_1, .int .i64 a1_2, .int .i64 a1_3], .int .i64 (wrap64 (a2_0 + a2_1))] rfl (by (try simp only [List.map_toArray, List.map_cons, List.map_nil]); first | done | rfl | (simp only [List.length_drop, List.length_take]; rfl)) ?_; (with_reducible refine (code_Add.calls kj5 a0_0 a0_1 a1_0 a1_1 a1_2 a1_3 (wrap64 (a2_0 + a2_1)) t277 t278 t279 t280 t281 _ A49.out).mono ?_); rintro e w70 ⟨rfl, hb⟩; refine ⟨_, rfl, ?_⟩; have n0_ := Aside0.mk (blk_below (g := gb259) (o := .cells #[.int .i64 a0_0, .bool a0_1] 23 (0, 0)) (by (with_reducible repeat (first | refine blk_drewN ?_ _ | refine blk_drew ?_ | refine blk_alloc ?_ _)); refine blk_far ?_ NB259_276.out _; (with_reducible repeat (first | refine blk_drewN ?_ _ | refine blk_drew ?_ | refine blk_alloc ?_ _)); refine blk_far ?_ NB259_276.out _; (with_reducible repeat (first | refine blk_drewN ?_ _ | refine blk_drew ?_ | refine blk_alloc ?_ _)); refine blk_far ?_ NB259_276.out _; (with_reducible repeat (first | refine blk_drewN ?_ _ | refine blk_drew ?_ | refine blk_alloc ?_ _)); refine blk_far ?_ NB259_276.out _; (with_reducible repeat (first | refine blk_drewN ?_ _ | refine blk_drew ?_ | refine blk_alloc ?_ _)); exact BK259.out) hb); have n1_ := Aside0.mk (blk_below (g := gb260) (o := .cells #[.int .i64 a1_0, .int .i64 a1_1, .int .i64 a1_2, .int .i64 a1_3, .int .i64 a1_4, .int .i64 a1_5, .int .i64 a1_6, .int .i64 a1_7] 31 (0, 0)) (by (with_reducible repeat (first | refine blk_drewN ?_ _ | refine blk_drew ?_ | refine blk_alloc ?_ _)); refine blk_far ?_ NB260_276.out _; (with_reducible repeat (first | refine blk_drewN ?_ _ | refine blk_drew ?_ | refine blk_alloc ?_ _)); refine blk_far ?_ NB260_276.out _; (with_reducible repeat (first | refine blk_drewN ?_ _ | refine blk_drew ?_ | refine blk_alloc ?_ _)); refine blk_far ?_ NB260_276.out _; (with_reducible repeat (first | refine blk_drewN ?_ _ | refine blk_drew ?_ | refine blk_alloc ?_ _)); refine blk_far ?_ NB260_276.out _; (with_reducible repeat (first | refine blk_drewN ?_ _ | refine blk_drew ?_ | refine blk_alloc ?_ _)); exact BK260.out) hb); have n2_ := Aside0.mk (blk_below (g := gb261) (o := .cells #[.int .i64 a2_0, .int .i64 a2_1] 36 (0, 0)) (by (with_reducible repeat (first | refine blk_drewN ?_ _ | refine blk_drew ?_ | refine blk_alloc ?_ _)); refine blk_far ?_ NB261_276.out _; (with_reducible repeat (first | refine blk_drewN ?_ _ | refine blk_drew ?_ | refine blk_alloc ?_ _)); refine blk_far ?_ NB261_276.out _; (with_reducible repeat (first | refine blk_drewN ?_ _ | refine blk_drew ?_ | refine blk_alloc ?_ _)); refine blk_far ?_ NB261_276.out _; (with_reducible repeat (first | refine blk_drewN ?_ _ | refine blk_drew ?_ | refine blk_alloc ?_ _)); refine blk_far ?_ NB261_276.out _; (with_reducible repeat (first | refine blk_drewN ?_ _ | refine blk_drew ?_ | refine blk_alloc ?_ _)); exact BK261.out) hb); have n3_ := Aside0.mk (blk_below (g := gb269) (o := .cells #[.int .i64 t264, .int .i64 t265, .int .i64 t266, .int .i64 t267] 25 (0, 0)) (by (with_reducible repeat (first | refine blk_drewN ?_ _ | refine blk_drew ?_ | refine blk_alloc ?_ _)); refine blk_far ?_ NB269_276.out _; (with_reducible repeat (first | refine blk_drewN ?_ _ | refine blk_drew ?_ | refine blk_alloc ?_ _)); refine blk_far ?_ NB269_276.out _; (with_reducible repeat (first | refine blk_drewN ?_ _ | refine blk_drew ?_ | refine blk_alloc ?_ _)); refine blk_far ?_ NB269_276.out _; (with_reducible repeat (first | refine blk_drewN ?_ _ | refine blk_drew ?_ | refine blk_alloc ?_ _)); refine blk_far ?_ NB269_276.out _; (with_reducible repeat (first | refine blk_drewN ?_ _ | refine blk_drew ?_ | refine blk_alloc ?_ _)); exact BK269.out) hb); have n4_ := Aside0.mk (blk_below (g := gb276) (o := .cells #[.int .i64 t271, .int .i64 t272, .int .i64 t273, .int .i64 t274] 25 (0, 0)) (by (with_reducible repeat (first | refine blk_drewN ?_ _ | refine blk_drew ?_ | refine blk_alloc ?_ _)); refine blk_put (cs := #[.int .i64 t271, .int .i64 t272, .int .i64 t273, .int .i64 0]) ?_ 3 _ rfl; (with_reducible repeat (first | refine blk_drewN ?_ _ | refine blk_drew ?_ | refine blk_alloc ?_ _)); refine blk_put (cs := #[.int .i64 t271, .int .i64 t272, .int .i64 0, .int .i64 0]) ?_ 2 _ rfl; (with_reducible repeat (first | refine blk_drewN ?_ _ | refine blk_drew ?_ | refine blk_alloc ?_ _)); refine blk_put (cs := #[.int .i64 t271, .int .i64 0, .int .i64 0, .int .i64 0]) ?_ 1 _ rfl; (with_reducible repeat (first | refine blk_drewN ?_ _ | refine blk_drew ?_ | refine blk_alloc ?_ _)); refine blk_put (cs := #[.int .i64 0, .int .i64 0, .int .i64 0, .int .i64 0]) ?_ 0 _ rfl; (with_reducible repeat (first | refine blk_drewN ?_ _ | refine blk_drew ?_ | refine blk_alloc ?_ _)); exact BK276.out) hb); have n5_ := Aside0.mk (below_step (by repeat (first | (with_reducible first | exact HB.out | apply below_alloc | apply pw_below_drewN | apply below_drew1 | refine below_set ?_ GE259.out | refine below_set ?_ GE260.out | refine below_set ?_ GE261.out | refine below_set ?_ GE269.out | refine below_set ?_ GE276.out) | exact HB.out)) hb); clear BK259; clear BK260; clear BK261; clear BK269; clear BK276; clear HB; have BK259 := n0_; have BK260 := n1_; have BK261 := n2_; have BK269 := n3_; have BK276 := n4_; have HB := n5_; clear n0_ n1_ n2_ n3_ n4_ n5_; (try clear hb); (try clear hb2); (try clear hk); (try clear hi)) | ((with_reducible refine gate_dst (N := 13) rfl ?_); refine box_event ?hg (N := 13) ?hd (cs := #[.int .i64 0, .int .i64 0, .int .i64 0, .int .i64 0]) (t := 25) ?hr ?_; (case hd => rfl); (case hg => rfl); (case hr => first | (go_simp; done) | (go_simp; rfl)); intro gb282 hg w71 hbox hb; have n0_ := Aside0.mk (blk_below (g := gb259) (o := .cells #[.int .i64 a0_0, .bool a0_1] 23 (0, 0)) (by (with_reducible repeat (first | refine blk_drewN ?_ _ | refine blk_drew ?_ | refine blk_alloc ?_ _)); exact BK259.out) hb); have n1_ := Aside0.mk (blk_below (g := gb260) (o := .cells #[.int .i64 a1_0, .int .i64 a1_1, .int .i64 a1_2, .int .i64 a1_3, .int .i64 a1_4, .int .i64 a1_5, .int .i64 a1_6, .int .i64 a1_7] 31 (0, 0)) (by (with_reducible repeat (first | refine blk_drewN ?_ _ | refine blk_drew ?_ | refine blk_alloc ?_ _)); exact BK260.out) hb); have n2_ := Aside0.mk (blk_below (g := gb261) (o := .cells #[.int .i64 a2_0, .int .i64 a2_1] 36 (0, 0)) (by (with_reducible repeat (first | refine blk_drewN ?_ _ | refine blk_drew ?_ | refine blk_alloc ?_ _)); exact BK261.out) hb); have n3_ := Aside0.mk (blk_below (g := gb269) (o := .cells #[.int .i64 t264, .int .i64 t265, .int .i64 t266, .int .i64 t267] 25 (0, 0)) (by (with_reducible repeat (first | refine blk_drewN ?_ _ | refine blk_drew ?_ | refine blk_alloc ?_ _)); exact BK269.out) hb); have n4_ := Aside0.mk (blk_below (g := gb276) (o := .cells #[.int .i64 t271, .int .i64 t272, .int .i64 t273, .int .i64 t274] 25 (0, 0)) (by (with_reducible repeat (first | refine blk_drewN ?_ _ | refine blk_drew ?_ | refine blk_alloc ?_ _)); exact BK276.out) hb); have n5_ := Aside0.mk (below_step (by repeat (first | (with_reducible first | exact HB.out | apply below_alloc | apply pw_below_drewN | apply below_drew1 | refine below_set ?_ GE259.out | refine below_set ?_ GE260.out | refine below_set ?_ GE261.out | refine below_set ?_ GE269.out | refine below_set ?_ GE276.out) | exact HB.out)) hb); have n6_ := Aside0.mk (hbox); have n7_ := Aside0.mk ((by rw [hg]; exact (below_size (by repeat (first | (with_reducible first | exact HB.out | apply below_alloc | apply pw_below_drewN | apply below_drew1 | refine below_set ?_ GE259.out | refine below_set ?_ GE260.out | refine below_set ?_ GE261.out | refine below_set ?_ GE269.out | refine below_set ?_ GE276.out) | exact HB.out))) : w.heap.size ≤ gb282)); have n8_ := Aside0.mk ((by rw [hg]; exact (below_size (by repeat (first | (with_reducible first | exact HB.out | apply below_alloc | apply pw_below_drewN | apply below_drew1 | refine below_set ?_ GE259.out | refine below_set ?_ GE260.out | refine below_set ?_ GE261.out | refine below_set ?_ GE269.out | refine below_set ?_ GE276.out) | exact HB.out))) : w.heap.size ≤ gb282)); have n9_ := Aside0.mk ((by rw [hg]; exact Nat.ne_of_lt (blk_lt (g := gb259) (o := .cells #[.int .i64 a0_0, .bool a0_1] 23 (0, 0)) (by (with_reducible repeat (first | refine blk_drewN ?_ _ | refine blk_drew ?_ | refine blk_alloc ?_ _)); exact BK259.out)) : gb259 ≠ gb282)); have n10_ := Aside0.mk ((by rw [hg]; exact Nat.ne_of_gt (blk_lt (g := gb259) (o := .cells #[.int .i64 a0_0, .bool a0_1] 23 (0, 0)) (by (with_reducible repeat (first | refine blk_drewN ?_ _ | refine blk_drew ?_ | refine blk_alloc ?_ _)); exact BK259.out)) : gb282 ≠ gb259)); have n11_ := Aside0.mk ((by rw [hg]; exact Nat.ne_of_lt (blk_lt (g := gb260) (o := .cells #[.int .i64 a1_0, .int .i64 a1_1, .int .i64 a1_2, .int .i64 a1_3, .int .i64 a1_4, .int .i64 a1_5, .int .i64 a1_6, .int .i64 a1_7] 31 (0, 0)) (by (with_reducible repeat (first | refine blk_drewN ?_ _ | refine blk_drew ?_ | refine blk_alloc ?_ _)); exact BK260.out)) : gb260 ≠ gb282)); have n12_ := Aside0.mk ((by rw [hg]; exact Nat.ne_of_gt (blk_lt (g := gb260) (o := .cells #[.int .i64 a1_0, .int .i64 a1_1, .int .i64 a1_2, .int .i64 a1_3, .int .i64 a1_4, .int .i64 a1_5, .int .i64 a1_6, .int .i64 a1_7] 31 (0, 0)) (by (with_reducible repeat (first | refine blk_drewN ?_ _ | refine blk_drew ?_ | refine blk_alloc ?_ _)); exact BK260.out)) : gb282 ≠ gb260)); have n13_ := Aside0.mk ((by rw [hg]; exact Nat.ne_of_lt (blk_lt (g := gb261) (o := .cells #[.int .i64 a2_0, .int .i64 a2_1] 36 (0, 0)) (by (with_reducible repeat (first | refine blk_drewN ?_ _ | refine blk_drew ?_ | refine blk_alloc ?_ _)); exact BK261.out)) : gb261 ≠ gb282)); have n14_ := Aside0.mk ((by rw [hg]; exact Nat.ne_of_gt (blk_lt (g := gb261) (o := .cells #[.int .i64 a2_0, .int .i64 a2_1] 36 (0, 0)) (by (with_reducible repeat (first | refine blk_drewN ?_ _ | refine blk_drew ?_ | refine blk_alloc ?_ _)); exact BK261.out)) : gb282 ≠ gb261)); have n15_ := Aside0.mk ((by rw [hg]; exact Nat.ne_of_lt (blk_lt (g := gb269) (o := .cells #[.int .i64 t264, .int .i64 t265, .int .i64 t266, .int .i64 t267] 25 (0, 0)) (by (with_reducible repeat (first | refine blk_drewN ?_ _ | refine blk_drew ?_ | refine blk_alloc ?_ _)); exact BK269.out)) : gb269 ≠ gb282)); have n16_ := Aside0.mk ((by rw [hg]; exact Nat.ne_of_gt (blk_lt (g := gb269) (o := .cells #[.int .i64 t264, .int .i64 t265, .int .i64 t266, .int .i64 t267] 25 (0, 0)) (by (with_reducible repeat (first | refine blk_drewN ?_ _ | refine blk_drew ?_ | refine blk_alloc ?_ _)); exact BK269.out)) : gb282 ≠ gb269)); have n17_ := Aside0.mk ((by rw [hg]; exact Nat.ne_of_lt (blk_lt (g := gb276) (o := .cells #[.int .i64 t271, .int .i64 t272, .int .i64 t273, .int .i64 t274] 25 (0, 0)) (by (with_reducible repeat (first | refine blk_drewN ?_ _ | refine blk_drew ?_ | refine blk_alloc ?_ _)); exact BK276.out)) : gb276 ≠ gb282)); have n18_ := Aside0.mk ((by rw [hg]; exact Nat.ne_of_gt (blk_lt (g := gb276) (o := .cells #[.int .i64 t271, .int .i64 t272, .int .i64 t273, .int .i64 t274] 25 (0, 0)) (by (with_reducible repeat (first | refine blk_drewN ?_ _ | refine blk_drew ?_ | refine blk_alloc ?_ _)); exact BK276.out)) : gb282 ≠ gb276)); clear BK259; clear BK260; clear BK261; clear BK269; clear BK276; clear HB; have BK259 := n0_; have BK260 := n1_; have BK261 := n2_; have BK269 := n3_; have BK276 := n4_; have HB := n5_; have BK282 := n6_; have GW282 := n7_; have GE282 := n8_; have NB259_282 := n9_; have NB282_259 := n10_; have NB260_282 := n11_; have NB282_260 := n12_; have NB261_282 := n13_; have NB282_261 := n14_; have NB269_282 := n15_; have NB282_269 := n16_; have NB276_282 := n17_; have NB282_276 := n18_; clear n0_ n1_ n2_ n3_ n4_ n5_ n6_ n7_ n8_ n9_ n10_ n11_ n12_ n13_ n14_ n15_ n16_ n17_ n18_; clear hb hbox hg; have hnb72 := NB282_259.out; have hnc72 := NB259_282.out; have hnb73 := NB282_260.out; have hnc73 := NB260_282.out; have hnb74 := NB282_261.out; have hnc74 := NB261_282.out; have hnb75 := NB282_269.out; have hnc75 := NB269_282.out; have hnb76 := NB282_276.out; have hnc76 := NB276_282.out; have hcz77_0 : w71.cell? ⟨gb282, 0, none⟩ = some (.int .i64 0) := (blk_cell BK282.out 0).trans rfl; have hcz77_1 : w71.cell? ⟨gb282, 1, none⟩ = some (.int .i64 0) := (blk_cell BK282.out 1).trans rfl; have hcz77_2 : w71.cell? ⟨gb282, 2, none⟩ = some (.int .i64 0) := (blk_cell BK282.out 2).trans rfl; have hcz77_3 : w71.cell? ⟨gb282, 3, none⟩ = some (.int .i64 0) := (blk_cell BK282.out 3).trans rfl; have hfz77_0 := blk_frozen BK282.out 0; have hfz77_1 := blk_frozen BK282.out 1; have hfz77_2 := blk_frozen BK282.out 2; have hfz77_3 := blk_frozen BK282.out 3))
        (try simp only [Act.put, List.setIfInBounds_toArray, List.set_cons_zero, List.set_cons_succ])
        go_cut [92] (fun v92 wc => ∃ (kq : Nat) (x92_49 : Bool), v92 = .bool x92_49 ∧ Aside0 (dioramalaw20_CodeWalks.j1 kq t262 x92_49 a0_0 a0_1 a1_0 a1_1 a1_2 a1_3 a1_4 a1_5 a1_6 a1_7 = some r) ∧ Aside0 (kq ≤ kj5) ∧ Aside0 (wc.heap[gb259]? = some (.cells #[.int .i64 a0_0, .bool a0_1] 23 (0, 0))) ∧ Aside0 (wc.heap[gb260]? = some (.cells #[.int .i64 a1_0, .int .i64 a1_1, .int .i64 a1_2, .int .i64 a1_3, .int .i64 a1_4, .int .i64 a1_5, .int .i64 a1_6, .int .i64 a1_7] 31 (0, 0))) ∧ Aside0 (wc.heap[gb261]? = some (.cells #[.int .i64 a2_0, .int .i64 a2_1] 36 (0, 0))) ∧ Aside0 (wc.heap[gb269]? = some (.cells #[.int .i64 t264, .int .i64 t265, .int .i64 t266, .int .i64 t267] 25 (0, 0))) ∧ Aside0 (wc.heap[gb276]? = some (.cells #[.int .i64 t271, .int .i64 t272, .int .i64 t273, .int .i64 t274] 25 (0, 0))) ∧ Aside0 (wc.heap[gb282]? = some (.cells #[.int .i64 t277, .int .i64 t278, .int .i64 t279, .int .i64 t280] 25 (0, 0))) ∧ Aside0 (Below w.heap.size w wc))
        case first =>
          have H := HC50.out
          clear HC50
          by_cases c78 : t275 = 0
          · rw [if_pos c78] at H
            have c78b0 : (t275 == 0) = true := beq_iff_eq.mpr c78
            have c78b1 : (t275 != 0) = false := bne_eq_false_iff_eq.mpr c78
            clear c78
            (first | rw [c78b0] | (simp only [i64_w, i32_w]; rw [c78b0]) | skip)
            by_cases c79 : t281 = 0
            · rw [if_pos c79] at H
              have c79b0 : (t281 == 0) = true := beq_iff_eq.mpr c79
              have c79b1 : (t281 != 0) = false := bne_eq_false_iff_eq.mpr c79
              clear c79
              have H' := Aside0.mk H
              clear H
              have hnb80 := NB276_259.out
              have hnc80 := NB259_276.out
              have hnb81 := NB276_260.out
              have hnc81 := NB260_276.out
              have hnb82 := NB276_261.out
              have hnc82 := NB261_276.out
              have hnb83 := NB276_269.out
              have hnc83 := NB269_276.out
              have hnb84 := NB276_282.out
              have hnc84 := NB282_276.out
              have hcz85_0 : w71.cell? ⟨gb276, 0, none⟩ = some (.int .i64 t271) := (blk_cell BK276.out 0).trans rfl
              have hcz85_1 : w71.cell? ⟨gb276, 1, none⟩ = some (.int .i64 t272) := (blk_cell BK276.out 1).trans rfl
              have hcz85_2 : w71.cell? ⟨gb276, 2, none⟩ = some (.int .i64 t273) := (blk_cell BK276.out 2).trans rfl
              have hcz85_3 : w71.cell? ⟨gb276, 3, none⟩ = some (.int .i64 t274) := (blk_cell BK276.out 3).trans rfl
              have hfz85_0 := blk_frozen BK276.out 0
              have hfz85_1 := blk_frozen BK276.out 1
              have hfz85_2 := blk_frozen BK276.out 2
              have hfz85_3 := blk_frozen BK276.out 3
              have hnb86 := NB282_259.out
              have hnc86 := NB259_282.out
              have hnb87 := NB282_260.out
              have hnc87 := NB260_282.out
              have hnb88 := NB282_261.out
              have hnc88 := NB261_282.out
              have hnb89 := NB282_269.out
              have hnc89 := NB269_282.out
              have hcz90_0 : w71.cell? ⟨gb282, 0, none⟩ = some (.int .i64 0) := (blk_cell BK282.out 0).trans rfl
              have hcz90_1 : w71.cell? ⟨gb282, 1, none⟩ = some (.int .i64 0) := (blk_cell BK282.out 1).trans rfl
              have hcz90_2 : w71.cell? ⟨gb282, 2, none⟩ = some (.int .i64 0) := (blk_cell BK282.out 2).trans rfl
              have hcz90_3 : w71.cell? ⟨gb282, 3, none⟩ = some (.int .i64 0) := (blk_cell BK282.out 3).trans rfl
              have hfz90_0 := blk_frozen BK282.out 0
              have hfz90_1 := blk_frozen BK282.out 1
              have hfz90_2 := blk_frozen BK282.out 2
              have hfz90_3 := blk_frozen BK282.out 3
              go_wp2
              go_meet
              case rel => exact ⟨_, ((!(t271 == t277) || (!(t272 == t278) || (!(t273 == t279) || (!(t274 == t280)))))), (by first | rfl | (simp; done) | (simp [*]; done)), H', ⟨by have := HJ5.out; first | omega | exact Nat.le_refl _⟩, ⟨by (with_reducible repeat (first | refine blk_drewN ?_ _ | refine blk_drew ?_ | refine blk_alloc ?_ _)); refine blk_far ?_ NB259_282.out _; (with_reducible repeat (first | refine blk_drewN ?_ _ | refine blk_drew ?_ | refine blk_alloc ?_ _)); refine blk_far ?_ NB259_282.out _; (with_reducible repeat (first | refine blk_drewN ?_ _ | refine blk_drew ?_ | refine blk_alloc ?_ _)); refine blk_far ?_ NB259_282.out _; (with_reducible repeat (first | refine blk_drewN ?_ _ | refine blk_drew ?_ | refine blk_alloc ?_ _)); refine blk_far ?_ NB259_282.out _; (with_reducible repeat (first | refine blk_drewN ?_ _ | refine blk_drew ?_ | refine blk_alloc ?_ _)); exact BK259.out⟩, ⟨by (with_reducible repeat (first | refine blk_drewN ?_ _ | refine blk_drew ?_ | refine blk_alloc ?_ _)); refine blk_far ?_ NB260_282.out _; (with_reducible repeat (first | refine blk_drewN ?_ _ | refine blk_drew ?_ | refine blk_alloc ?_ _)); refine blk_far ?_ NB260_282.out _; (with_reducible repeat (first | refine blk_drewN ?_ _ | refine blk_drew ?_ | refine blk_alloc ?_ _)); refine blk_far ?_ NB260_282.out _; (with_reducible repeat (first | refine blk_drewN ?_ _ | refine blk_drew ?_ | refine blk_alloc ?_ _)); refine blk_far ?_ NB260_282.out _; (with_reducible repeat (first | refine blk_drewN ?_ _ | refine blk_drew ?_ | refine blk_alloc ?_ _)); exact BK260.out⟩, ⟨by (with_reducible repeat (first | refine blk_drewN ?_ _ | refine blk_drew ?_ | refine blk_alloc ?_ _)); refine blk_far ?_ NB261_282.out _; (with_reducible repeat (first | refine blk_drewN ?_ _ | refine blk_drew ?_ | refine blk_alloc ?_ _)); refine blk_far ?_ NB261_282.out _; (with_reducible repeat (first | refine blk_drewN ?_ _ | refine blk_drew ?_ | refine blk_alloc ?_ _)); refine blk_far ?_ NB261_282.out _; (with_reducible repeat (first | refine blk_drewN ?_ _ | refine blk_drew ?_ | refine blk_alloc ?_ _)); refine blk_far ?_ NB261_282.out _; (with_reducible repeat (first | refine blk_drewN ?_ _ | refine blk_drew ?_ | refine blk_alloc ?_ _)); exact BK261.out⟩, ⟨by (with_reducible repeat (first | refine blk_drewN ?_ _ | refine blk_drew ?_ | refine blk_alloc ?_ _)); refine blk_far ?_ NB269_282.out _; (with_reducible repeat (first | refine blk_drewN ?_ _ | refine blk_drew ?_ | refine blk_alloc ?_ _)); refine blk_far ?_ NB269_282.out _; (with_reducible repeat (first | refine blk_drewN ?_ _ | refine blk_drew ?_ | refine blk_alloc ?_ _)); refine blk_far ?_ NB269_282.out _; (with_reducible repeat (first | refine blk_drewN ?_ _ | refine blk_drew ?_ | refine blk_alloc ?_ _)); refine blk_far ?_ NB269_282.out _; (with_reducible repeat (first | refine blk_drewN ?_ _ | refine blk_drew ?_ | refine blk_alloc ?_ _)); exact BK269.out⟩, ⟨by (with_reducible repeat (first | refine blk_drewN ?_ _ | refine blk_drew ?_ | refine blk_alloc ?_ _)); refine blk_far ?_ NB276_282.out _; (with_reducible repeat (first | refine blk_drewN ?_ _ | refine blk_drew ?_ | refine blk_alloc ?_ _)); refine blk_far ?_ NB276_282.out _; (with_reducible repeat (first | refine blk_drewN ?_ _ | refine blk_drew ?_ | refine blk_alloc ?_ _)); refine blk_far ?_ NB276_282.out _; (with_reducible repeat (first | refine blk_drewN ?_ _ | refine blk_drew ?_ | refine blk_alloc ?_ _)); refine blk_far ?_ NB276_282.out _; (with_reducible repeat (first | refine blk_drewN ?_ _ | refine blk_drew ?_ | refine blk_alloc ?_ _)); exact BK276.out⟩, ⟨by (with_reducible repeat (first | refine blk_drewN ?_ _ | refine blk_drew ?_ | refine blk_alloc ?_ _)); refine blk_put (cs := #[.int .i64 t277, .int .i64 t278, .int .i64 t279, .int .i64 0]) ?_ 3 _ rfl; (with_reducible repeat (first | refine blk_drewN ?_ _ | refine blk_drew ?_ | refine blk_alloc ?_ _)); refine blk_put (cs := #[.int .i64 t277, .int .i64 t278, .int .i64 0, .int .i64 0]) ?_ 2 _ rfl; (with_reducible repeat (first | refine blk_drewN ?_ _ | refine blk_drew ?_ | refine blk_alloc ?_ _)); refine blk_put (cs := #[.int .i64 t277, .int .i64 0, .int .i64 0, .int .i64 0]) ?_ 1 _ rfl; (with_reducible repeat (first | refine blk_drewN ?_ _ | refine blk_drew ?_ | refine blk_alloc ?_ _)); refine blk_put (cs := #[.int .i64 0, .int .i64 0, .int .i64 0, .int .i64 0]) ?_ 0 _ rfl; (with_reducible repeat (first | refine blk_drewN ?_ _ | refine blk_drew ?_ | refine blk_alloc ?_ _)); exact BK282.out⟩, ⟨by repeat (first | (with_reducible first | exact HB.out | apply below_alloc | apply pw_below_drewN | apply below_drew1 | refine below_set ?_ GE259.out | refine below_set ?_ GE260.out | refine below_set ?_ GE261.out | refine below_set ?_ GE269.out | refine below_set ?_ GE276.out | refine below_set ?_ GE282.out) | exact HB.out)⟩⟩
            · rw [if_neg c79] at H
              have c79b0 : (t281 == 0) = false := beq_eq_false_iff_ne.mpr c79
              have c79b1 : (t281 != 0) = true := bne_iff_ne.mpr c79
              have H' := Aside0.mk H
              clear H
              go_wp2
              go_meet
              case rel => exact ⟨_, (true), (by first | rfl | (simp; done) | (simp [*]; done)), H', ⟨by have := HJ5.out; first | omega | exact Nat.le_refl _⟩, ⟨by (with_reducible repeat (first | refine blk_drewN ?_ _ | refine blk_drew ?_ | refine blk_alloc ?_ _)); refine blk_far ?_ NB259_282.out _; (with_reducible repeat (first | refine blk_drewN ?_ _ | refine blk_drew ?_ | refine blk_alloc ?_ _)); refine blk_far ?_ NB259_282.out _; (with_reducible repeat (first | refine blk_drewN ?_ _ | refine blk_drew ?_ | refine blk_alloc ?_ _)); refine blk_far ?_ NB259_282.out _; (with_reducible repeat (first | refine blk_drewN ?_ _ | refine blk_drew ?_ | refine blk_alloc ?_ _)); refine blk_far ?_ NB259_282.out _; (with_reducible repeat (first | refine blk_drewN ?_ _ | refine blk_drew ?_ | refine blk_alloc ?_ _)); exact BK259.out⟩, ⟨by (with_reducible repeat (first | refine blk_drewN ?_ _ | refine blk_drew ?_ | refine blk_alloc ?_ _)); refine blk_far ?_ NB260_282.out _; (with_reducible repeat (first | refine blk_drewN ?_ _ | refine blk_drew ?_ | refine blk_alloc ?_ _)); refine blk_far ?_ NB260_282.out _; (with_reducible repeat (first | refine blk_drewN ?_ _ | refine blk_drew ?_ | refine blk_alloc ?_ _)); refine blk_far ?_ NB260_282.out _; (with_reducible repeat (first | refine blk_drewN ?_ _ | refine blk_drew ?_ | refine blk_alloc ?_ _)); refine blk_far ?_ NB260_282.out _; (with_reducible repeat (first | refine blk_drewN ?_ _ | refine blk_drew ?_ | refine blk_alloc ?_ _)); exact BK260.out⟩, ⟨by (with_reducible repeat (first | refine blk_drewN ?_ _ | refine blk_drew ?_ | refine blk_alloc ?_ _)); refine blk_far ?_ NB261_282.out _; (with_reducible repeat (first | refine blk_drewN ?_ _ | refine blk_drew ?_ | refine blk_alloc ?_ _)); refine blk_far ?_ NB261_282.out _; (with_reducible repeat (first | refine blk_drewN ?_ _ | refine blk_drew ?_ | refine blk_alloc ?_ _)); refine blk_far ?_ NB261_282.out _; (with_reducible repeat (first | refine blk_drewN ?_ _ | refine blk_drew ?_ | refine blk_alloc ?_ _)); refine blk_far ?_ NB261_282.out _; (with_reducible repeat (first | refine blk_drewN ?_ _ | refine blk_drew ?_ | refine blk_alloc ?_ _)); exact BK261.out⟩, ⟨by (with_reducible repeat (first | refine blk_drewN ?_ _ | refine blk_drew ?_ | refine blk_alloc ?_ _)); refine blk_far ?_ NB269_282.out _; (with_reducible repeat (first | refine blk_drewN ?_ _ | refine blk_drew ?_ | refine blk_alloc ?_ _)); refine blk_far ?_ NB269_282.out _; (with_reducible repeat (first | refine blk_drewN ?_ _ | refine blk_drew ?_ | refine blk_alloc ?_ _)); refine blk_far ?_ NB269_282.out _; (with_reducible repeat (first | refine blk_drewN ?_ _ | refine blk_drew ?_ | refine blk_alloc ?_ _)); refine blk_far ?_ NB269_282.out _; (with_reducible repeat (first | refine blk_drewN ?_ _ | refine blk_drew ?_ | refine blk_alloc ?_ _)); exact BK269.out⟩, ⟨by (with_reducible repeat (first | refine blk_drewN ?_ _ | refine blk_drew ?_ | refine blk_alloc ?_ _)); refine blk_far ?_ NB276_282.out _; (with_reducible repeat (first | refine blk_drewN ?_ _ | refine blk_drew ?_ | refine blk_alloc ?_ _)); refine blk_far ?_ NB276_282.out _; (with_reducible repeat (first | refine blk_drewN ?_ _ | refine blk_drew ?_ | refine blk_alloc ?_ _)); refine blk_far ?_ NB276_282.out _; (with_reducible repeat (first | refine blk_drewN ?_ _ | refine blk_drew ?_ | refine blk_alloc ?_ _)); refine blk_far ?_ NB276_282.out _; (with_reducible repeat (first | refine blk_drewN ?_ _ | refine blk_drew ?_ | refine blk_alloc ?_ _)); exact BK276.out⟩, ⟨by (with_reducible repeat (first | refine blk_drewN ?_ _ | refine blk_drew ?_ | refine blk_alloc ?_ _)); refine blk_put (cs := #[.int .i64 t277, .int .i64 t278, .int .i64 t279, .int .i64 0]) ?_ 3 _ rfl; (with_reducible repeat (first | refine blk_drewN ?_ _ | refine blk_drew ?_ | refine blk_alloc ?_ _)); refine blk_put (cs := #[.int .i64 t277, .int .i64 t278, .int .i64 0, .int .i64 0]) ?_ 2 _ rfl; (with_reducible repeat (first | refine blk_drewN ?_ _ | refine blk_drew ?_ | refine blk_alloc ?_ _)); refine blk_put (cs := #[.int .i64 t277, .int .i64 0, .int .i64 0, .int .i64 0]) ?_ 1 _ rfl; (with_reducible repeat (first | refine blk_drewN ?_ _ | refine blk_drew ?_ | refine blk_alloc ?_ _)); refine blk_put (cs := #[.int .i64 0, .int .i64 0, .int .i64 0, .int .i64 0]) ?_ 0 _ rfl; (with_reducible repeat (first | refine blk_drewN ?_ _ | refine blk_drew ?_ | refine blk_alloc ?_ _)); exact BK282.out⟩, ⟨by repeat (first | (with_reducible first | exact HB.out | apply below_alloc | apply pw_below_drewN | apply below_drew1 | refine below_set ?_ GE259.out | refine below_set ?_ GE260.out | refine below_set ?_ GE261.out | refine below_set ?_ GE269.out | refine below_set ?_ GE276.out | refine below_set ?_ GE282.out) | exact HB.out)⟩⟩
          · rw [if_neg c78] at H
            have c78b0 : (t275 == 0) = false := beq_eq_false_iff_ne.mpr c78
            have c78b1 : (t275 != 0) = true := bne_iff_ne.mpr c78
            (first | rw [c78b0] | (simp only [i64_w, i32_w]; rw [c78b0]) | skip)
            have H' := Aside0.mk H
            clear H
            go_wp2
            go_meet
            case rel => exact ⟨_, (true), (by first | rfl | (simp; done) | (simp [*]; done)), H', ⟨by have := HJ5.out; first | omega | exact Nat.le_refl _⟩, ⟨by (with_reducible repeat (first | refine blk_drewN ?_ _ | refine blk_drew ?_ | refine blk_alloc ?_ _)); refine blk_far ?_ NB259_282.out _; (with_reducible repeat (first | refine blk_drewN ?_ _ | refine blk_drew ?_ | refine blk_alloc ?_ _)); refine blk_far ?_ NB259_282.out _; (with_reducible repeat (first | refine blk_drewN ?_ _ | refine blk_drew ?_ | refine blk_alloc ?_ _)); refine blk_far ?_ NB259_282.out _; (with_reducible repeat (first | refine blk_drewN ?_ _ | refine blk_drew ?_ | refine blk_alloc ?_ _)); refine blk_far ?_ NB259_282.out _; (with_reducible repeat (first | refine blk_drewN ?_ _ | refine blk_drew ?_ | refine blk_alloc ?_ _)); exact BK259.out⟩, ⟨by (with_reducible repeat (first | refine blk_drewN ?_ _ | refine blk_drew ?_ | refine blk_alloc ?_ _)); refine blk_far ?_ NB260_282.out _; (with_reducible repeat (first | refine blk_drewN ?_ _ | refine blk_drew ?_ | refine blk_alloc ?_ _)); refine blk_far ?_ NB260_282.out _; (with_reducible repeat (first | refine blk_drewN ?_ _ | refine blk_drew ?_ | refine blk_alloc ?_ _)); refine blk_far ?_ NB260_282.out _; (with_reducible repeat (first | refine blk_drewN ?_ _ | refine blk_drew ?_ | refine blk_alloc ?_ _)); refine blk_far ?_ NB260_282.out _; (with_reducible repeat (first | refine blk_drewN ?_ _ | refine blk_drew ?_ | refine blk_alloc ?_ _)); exact BK260.out⟩, ⟨by (with_reducible repeat (first | refine blk_drewN ?_ _ | refine blk_drew ?_ | refine blk_alloc ?_ _)); refine blk_far ?_ NB261_282.out _; (with_reducible repeat (first | refine blk_drewN ?_ _ | refine blk_drew ?_ | refine blk_alloc ?_ _)); refine blk_far ?_ NB261_282.out _; (with_reducible repeat (first | refine blk_drewN ?_ _ | refine blk_drew ?_ | refine blk_alloc ?_ _)); refine blk_far ?_ NB261_282.out _; (with_reducible repeat (first | refine blk_drewN ?_ _ | refine blk_drew ?_ | refine blk_alloc ?_ _)); refine blk_far ?_ NB261_282.out _; (with_reducible repeat (first | refine blk_drewN ?_ _ | refine blk_drew ?_ | refine blk_alloc ?_ _)); exact BK261.out⟩, ⟨by (with_reducible repeat (first | refine blk_drewN ?_ _ | refine blk_drew ?_ | refine blk_alloc ?_ _)); refine blk_far ?_ NB269_282.out _; (with_reducible repeat (first | refine blk_drewN ?_ _ | refine blk_drew ?_ | refine blk_alloc ?_ _)); refine blk_far ?_ NB269_282.out _; (with_reducible repeat (first | refine blk_drewN ?_ _ | refine blk_drew ?_ | refine blk_alloc ?_ _)); refine blk_far ?_ NB269_282.out _; (with_reducible repeat (first | refine blk_drewN ?_ _ | refine blk_drew ?_ | refine blk_alloc ?_ _)); refine blk_far ?_ NB269_282.out _; (with_reducible repeat (first | refine blk_drewN ?_ _ | refine blk_drew ?_ | refine blk_alloc ?_ _)); exact BK269.out⟩, ⟨by (with_reducible repeat (first | refine blk_drewN ?_ _ | refine blk_drew ?_ | refine blk_alloc ?_ _)); refine blk_far ?_ NB276_282.out _; (with_reducible repeat (first | refine blk_drewN ?_ _ | refine blk_drew ?_ | refine blk_alloc ?_ _)); refine blk_far ?_ NB276_282.out _; (with_reducible repeat (first | refine blk_drewN ?_ _ | refine blk_drew ?_ | refine blk_alloc ?_ _)); refine blk_far ?_ NB276_282.out _; (with_reducible repeat (first | refine blk_drewN ?_ _ | refine blk_drew ?_ | refine blk_alloc ?_ _)); refine blk_far ?_ NB276_282.out _; (with_reducible repeat (first | refine blk_drewN ?_ _ | refine blk_drew ?_ | refine blk_alloc ?_ _)); exact BK276.out⟩, ⟨by (with_reducible repeat (first | refine blk_drewN ?_ _ | refine blk_drew ?_ | refine blk_alloc ?_ _)); refine blk_put (cs := #[.int .i64 t277, .int .i64 t278, .int .i64 t279, .int .i64 0]) ?_ 3 _ rfl; (with_reducible repeat (first | refine blk_drewN ?_ _ | refine blk_drew ?_ | refine blk_alloc ?_ _)); refine blk_put (cs := #[.int .i64 t277, .int .i64 t278, .int .i64 0, .int .i64 0]) ?_ 2 _ rfl; (with_reducible repeat (first | refine blk_drewN ?_ _ | refine blk_drew ?_ | refine blk_alloc ?_ _)); refine blk_put (cs := #[.int .i64 t277, .int .i64 0, .int .i64 0, .int .i64 0]) ?_ 1 _ rfl; (with_reducible repeat (first | refine blk_drewN ?_ _ | refine blk_drew ?_ | refine blk_alloc ?_ _)); refine blk_put (cs := #[.int .i64 0, .int .i64 0, .int .i64 0, .int .i64 0]) ?_ 0 _ rfl; (with_reducible repeat (first | refine blk_drewN ?_ _ | refine blk_drew ?_ | refine blk_alloc ?_ _)); exact BK282.out⟩, ⟨by repeat (first | (with_reducible first | exact HB.out | apply below_alloc | apply pw_below_drewN | apply below_drew1 | refine below_set ?_ GE259.out | refine below_set ?_ GE260.out | refine below_set ?_ GE261.out | refine below_set ?_ GE269.out | refine below_set ?_ GE276.out | refine below_set ?_ GE282.out) | exact HB.out)⟩⟩
        case rest =>
          clear HC50
          try clear c1
          try clear c2
          try clear p2
          try clear c3
          try clear c4
          try clear c5
          try clear c6
          try clear p6
          try clear c7
          try clear c8
          try clear c10
          try clear c11
          try clear c14
          try clear c15
          try clear c19
          try clear c20
          try clear c21
          try clear c22
          try clear c24
          try clear c24b0
          try clear c24b1
          try clear c25
          try clear c25b0
          try clear c25b1
          try clear c26
          try clear c26b0
          try clear c27
          try clear c28
          try clear c29
          try clear c31
          try clear c31b0
          try clear c32
          try clear c33
          try clear c34
          try clear c36
          try clear c36b0
          try clear c37
          try clear c38
          try clear c39
          try clear c41
          try clear c42
          try clear c43
          try clear c45
          try clear c51
          try clear c52
          try clear c53
          try clear c55
          try clear c56
          try clear c58
          try clear c62
          try clear c63
          try clear c64
          try clear p64
          try clear c65
          try clear c72
          try clear c73
          try clear c74
          try clear c75
          try clear c76
          try clear c78
          try clear c78b0
          try clear c78b1
          try clear c79
          try clear c79b0
          try clear c79b1
          try clear c80
          try clear c81
          try clear c82
          try clear c83
          try clear c84
          try clear c86
          try clear c87
          try clear c88
          try clear c89
          try clear hcz12_0
          try clear hcz12_1
          try clear hcz14_0
          try clear hcz14_1
          try clear hcz16_0
          try clear hcz16_1
          try clear hcz16_2
          try clear hcz16_3
          try clear hcz16_4
          try clear hcz16_5
          try clear hcz16_6
          try clear hcz16_7
          try clear hcz17_0
          try clear hcz17_1
          try clear hcz23_0
          try clear hcz23_1
          try clear hcz23_2
          try clear hcz23_3
          try clear hcz30_0
          try clear hcz30_1
          try clear hcz35_0
          try clear hcz35_1
          try clear hcz40_0
          try clear hcz40_1
          try clear hcz44_0
          try clear hcz44_1
          try clear hcz54_0
          try clear hcz54_1
          try clear hcz57_0
          try clear hcz57_1
          try clear hcz57_2
          try clear hcz57_3
          try clear hcz59_0
          try clear hcz59_1
          try clear hcz66_0
          try clear hcz66_1
          try clear hcz66_2
          try clear hcz66_3
          try clear hcz67_0
          try clear hcz67_1
          try clear hcz68_0
          try clear hcz68_1
          try clear hcz68_2
          try clear hcz68_3
          try clear hcz68_4
          try clear hcz68_5
          try clear hcz68_6
          try clear hcz68_7
          try clear hcz69_0
          try clear hcz69_1
          try clear hcz77_0
          try clear hcz77_1
          try clear hcz77_2
          try clear hcz77_3
          try clear hcz85_0
          try clear hcz85_1
          try clear hcz85_2
          try clear hcz85_3
          try clear hcz90_0
          try clear hcz90_1
          try clear hcz90_2
          try clear hcz90_3
          try clear hfz12_0
          try clear hfz12_1
          try clear hfz14_0
          try clear hfz14_1
          try clear hfz16_0
          try clear hfz16_1
          try clear hfz16_2
          try clear hfz16_3
          try clear hfz16_4
          try clear hfz16_5
          try clear hfz16_6
          try clear hfz16_7
          try clear hfz17_0
          try clear hfz17_1
          try clear hfz23_0
          try clear hfz23_1
          try clear hfz23_2
          try clear hfz23_3
          try clear hfz30_0
          try clear hfz30_1
          try clear hfz35_0
          try clear hfz35_1
          try clear hfz40_0
          try clear hfz40_1
          try clear hfz44_0
          try clear hfz44_1
          try clear hfz54_0
          try clear hfz54_1
          try clear hfz57_0
          try clear hfz57_1
          try clear hfz57_2
          try clear hfz57_3
          try clear hfz59_0
          try clear hfz59_1
          try clear hfz66_0
          try clear hfz66_1
          try clear hfz66_2
          try clear hfz66_3
          try clear hfz67_0
          try clear hfz67_1
          try clear hfz68_0
          try clear hfz68_1
          try clear hfz68_2
          try clear hfz68_3
          try clear hfz68_4
          try clear hfz68_5
          try clear hfz68_6
          try clear hfz68_7
          try clear hfz69_0
          try clear hfz69_1
          try clear hfz77_0
          try clear hfz77_1
          try clear hfz77_2
          try clear hfz77_3
          try clear hfz85_0
          try clear hfz85_1
          try clear hfz85_2
          try clear hfz85_3
          try clear hfz90_0
          try clear hfz90_1
          try clear hfz90_2
          try clear hfz90_3
          try clear p2
          obtain ⟨kq, x92_49, rfl, HA, HJ49, BK259, BK260, BK261, BK269, BK276, BK282, HB⟩ := hcut
          cases kq with
          | zero => exact absurd HA.out (by simp [dioramalaw20_CodeWalks.j1])
          | succ kj49 =>
            have H := HA.out
            clear HA
            simp only [dioramalaw20_CodeWalks.j1] at H
            by_cases c91 : x92_49 = true
            · subst c91
              have H1 : (some false) = some r := by rw [if_pos rfl] at H; exact H
              clear H
              have H := H1
              clear H1
              exact absurd (Option.some.inj H) (by rw [hrt]; exact Bool.noConfusion)
            · replace c91 := Bool.eq_false_iff.mpr c91
              subst c91
              have H1 : ((code_Add.f kj49 a0_0 a0_1 a1_0 a1_1 a1_2 a1_3 t262).bind fun bt283 => (if bt283.2.2.2.2 = 0 then (dioramalaw20_CodeWalks.j2 kj49 t262 (!(bt283.1 == a1_0) || (!(bt283.2.1 == a1_1) || (!(bt283.2.2.1 == a1_2) || (!(bt283.2.2.2.1 == a1_3))))) a0_0 a0_1 a1_0 a1_1 a1_2 a1_3 a1_4 a1_5 a1_6 a1_7) else (dioramalaw20_CodeWalks.j2 kj49 t262 true a0_0 a0_1 a1_0 a1_1 a1_2 a1_3 a1_4 a1_5 a1_6 a1_7))) = some r := by rw [if_neg (show ¬ (false = true) by decide)] at H; exact H
              clear H
              have H := H1
              clear H1
              replace H := Option.bind_eq_some_iff.mp H
              obtain ⟨⟨t283, t284, t285, t286, t287⟩, A920, H⟩ := H
              replace H : (if t287 = 0 then (dioramalaw20_CodeWalks.j2 kj49 t262 (!(t283 == a1_0) || (!(t284 == a1_1) || (!(t285 == a1_2) || (!(t286 == a1_3))))) a0_0 a0_1 a1_0 a1_1 a1_2 a1_3 a1_4 a1_5 a1_6 a1_7) else (dioramalaw20_CodeWalks.j2 kj49 t262 true a0_0 a0_1 a1_0 a1_1 a1_2 a1_3 a1_4 a1_5 a1_6 a1_7)) = some r := H
              have A92 := Aside0.mk A920
              clear A920
              have HC93 := Aside0.mk H
              clear H
              have hnb94 := NB259_260.out
              have hnc94 := NB260_259.out
              have hnb95 := NB259_261.out
              have hnc95 := NB261_259.out
              have hnb96 := NB259_269.out
              have hnc96 := NB269_259.out
              have hnb97 := NB259_276.out
              have hnc97 := NB276_259.out
              have hnb98 := NB259_282.out
              have hnc98 := NB282_259.out
              have hcz99_0 : wc.cell? ⟨gb259, 0, none⟩ = some (.int .i64 a0_0) := (blk_cell BK259.out 0).trans rfl
              have hcz99_1 : wc.cell? ⟨gb259, 1, none⟩ = some (.bool a0_1) := (blk_cell BK259.out 1).trans rfl
              have hfz99_0 := blk_frozen BK259.out 0
              have hfz99_1 := blk_frozen BK259.out 1
              have hnb100 := NB260_261.out
              have hnc100 := NB261_260.out
              have hnb101 := NB260_269.out
              have hnc101 := NB269_260.out
              have hnb102 := NB260_276.out
              have hnc102 := NB276_260.out
              have hnb103 := NB260_282.out
              have hnc103 := NB282_260.out
              have hcz104_0 : wc.cell? ⟨gb260, 0, none⟩ = some (.int .i64 a1_0) := (blk_cell BK260.out 0).trans rfl
              have hcz104_1 : wc.cell? ⟨gb260, 1, none⟩ = some (.int .i64 a1_1) := (blk_cell BK260.out 1).trans rfl
              have hcz104_2 : wc.cell? ⟨gb260, 2, none⟩ = some (.int .i64 a1_2) := (blk_cell BK260.out 2).trans rfl
              have hcz104_3 : wc.cell? ⟨gb260, 3, none⟩ = some (.int .i64 a1_3) := (blk_cell BK260.out 3).trans rfl
              have hcz104_4 : wc.cell? ⟨gb260, 4, none⟩ = some (.int .i64 a1_4) := (blk_cell BK260.out 4).trans rfl
              have hcz104_5 : wc.cell? ⟨gb260, 5, none⟩ = some (.int .i64 a1_5) := (blk_cell BK260.out 5).trans rfl
              have hcz104_6 : wc.cell? ⟨gb260, 6, none⟩ = some (.int .i64 a1_6) := (blk_cell BK260.out 6).trans rfl
              have hcz104_7 : wc.cell? ⟨gb260, 7, none⟩ = some (.int .i64 a1_7) := (blk_cell BK260.out 7).trans rfl
              have hfz104_0 := blk_frozen BK260.out 0
              have hfz104_1 := blk_frozen BK260.out 1
              have hfz104_2 := blk_frozen BK260.out 2
              have hfz104_3 := blk_frozen BK260.out 3
              have hfz104_4 := blk_frozen BK260.out 4
              have hfz104_5 := blk_frozen BK260.out 5
              have hfz104_6 := blk_frozen BK260.out 6
              have hfz104_7 := blk_frozen BK260.out 7
              go_upto_region 10 with (first | ((with_reducible refine gate_callee (f := 15) rfl ?_); refine goesL_ (some 98) rfl rfl Try.func15 (by kernel_rfl) rfl #[.agg #[.int .i64 a0_0, .bool a0_1], .agg #[.int .i64 a1_0, .int .i64 a1_1, .int .i64 a1_2, .int .i64 a1_3], .int .i64 t262] rfl (by (try simp only [List.map_toArray, List.map_cons, List.map_nil]); first | done | rfl | (simp only [List.length_drop, List.length_take]; rfl)) ?_; (with_reducible refine (code_Add.calls kj49 a0_0 a0_1 a1_0 a1_1 a1_2 a1_3 t262 t283 t284 t285 t286 t287 _ A92.out).mono ?_); rintro e w105 ⟨rfl, hb⟩; refine ⟨_, rfl, ?_⟩; have n0_ := Aside0.mk (blk_below (g := gb259) (o := .cells #[.int .i64 a0_0, .bool a0_1] 23 (0, 0)) (by (with_reducible repeat (first | refine blk_drewN ?_ _ | refine blk_drew ?_ | refine blk_alloc ?_ _)); exact BK259.out) hb); have n1_ := Aside0.mk (blk_below (g := gb260) (o := .cells #[.int .i64 a1_0, .int .i64 a1_1, .int .i64 a1_2, .int .i64 a1_3, .int .i64 a1_4, .int .i64 a1_5, .int .i64 a1_6, .int .i64 a1_7] 31 (0, 0)) (by (with_reducible repeat (first | refine blk_drewN ?_ _ | refine blk_drew ?_ | refine blk_alloc ?_ _)); exact BK260.out) hb); have n2_ := Aside0.mk (blk_below (g := gb261) (o := .cells #[.int .i64 a2_0, .int .i64 a2_1] 36 (0, 0)) (by (with_reducible repeat (first | refine blk_drewN ?_ _ | refine blk_drew ?_ | refine blk_alloc ?_ _)); exact BK261.out) hb); have n3_ := Aside0.mk (blk_below (g := gb269) (o := .cells #[.int .i64 t264, .int .i64 t265, .int .i64 t266, .int .i64 t267] 25 (0, 0)) (by (with_reducible repeat (first | refine blk_drewN ?_ _ | refine blk_drew ?_ | refine blk_alloc ?_ _)); exact BK269.out) hb); have n4_ := Aside0.mk (blk_below (g := gb276) (o := .cells #[.int .i64 t271, .int .i64 t272, .int .i64 t273, .int .i64 t274] 25 (0, 0)) (by (with_reducible repeat (first | refine blk_drewN ?_ _ | refine blk_drew ?_ | refine blk_alloc ?_ _)); exact BK276.out) hb); have n5_ := Aside0.mk (blk_below (g := gb282) (o := .cells #[.int .i64 t277, .int .i64 t278, .int .i64 t279, .int .i64 t280] 25 (0, 0)) (by (with_reducible repeat (first | refine blk_drewN ?_ _ | refine blk_drew ?_ | refine blk_alloc ?_ _)); exact BK282.out) hb); have n6_ := Aside0.mk (below_step (by repeat (first | (with_reducible first | exact HB.out | apply below_alloc | apply pw_below_drewN | apply below_drew1 | refine below_set ?_ GE259.out | refine below_set ?_ GE260.out | refine below_set ?_ GE261.out | refine below_set ?_ GE269.out | refine below_set ?_ GE276.out | refine below_set ?_ GE282.out) | exact HB.out)) hb); clear BK259; clear BK260; clear BK261; clear BK269; clear BK276; clear BK282; clear HB; have BK259 := n0_; have BK260 := n1_; have BK261 := n2_; have BK269 := n3_; have BK276 := n4_; have BK282 := n5_; have HB := n6_; clear n0_ n1_ n2_ n3_ n4_ n5_ n6_; (try clear hb); (try clear hb2); (try clear hk); (try clear hi)) | ((with_reducible refine gate_dst (N := 15) rfl ?_); refine box_event ?hg (N := 15) ?hd (cs := #[.int .i64 0, .int .i64 0, .int .i64 0, .int .i64 0]) (t := 25) ?hr ?_; (case hd => rfl); (case hg => rfl); (case hr => first | (go_simp; done) | (go_simp; rfl)); intro gb288 hg w106 hbox hb; have n0_ := Aside0.mk (blk_below (g := gb259) (o := .cells #[.int .i64 a0_0, .bool a0_1] 23 (0, 0)) (by (with_reducible repeat (first | refine blk_drewN ?_ _ | refine blk_drew ?_ | refine blk_alloc ?_ _)); exact BK259.out) hb); have n1_ := Aside0.mk (blk_below (g := gb260) (o := .cells #[.int .i64 a1_0, .int .i64 a1_1, .int .i64 a1_2, .int .i64 a1_3, .int .i64 a1_4, .int .i64 a1_5, .int .i64 a1_6, .int .i64 a1_7] 31 (0, 0)) (by (with_reducible repeat (first | refine blk_drewN ?_ _ | refine blk_drew ?_ | refine blk_alloc ?_ _)); exact BK260.out) hb); have n2_ := Aside0.mk (blk_below (g := gb261) (o := .cells #[.int .i64 a2_0, .int .i64 a2_1] 36 (0, 0)) (by (with_reducible repeat (first | refine blk_drewN ?_ _ | refine blk_drew ?_ | refine blk_alloc ?_ _)); exact BK261.out) hb); have n3_ := Aside0.mk (blk_below (g := gb269) (o := .cells #[.int .i64 t264, .int .i64 t265, .int .i64 t266, .int .i64 t267] 25 (0, 0)) (by (with_reducible repeat (first | refine blk_drewN ?_ _ | refine blk_drew ?_ | refine blk_alloc ?_ _)); exact BK269.out) hb); have n4_ := Aside0.mk (blk_below (g := gb276) (o := .cells #[.int .i64 t271, .int .i64 t272, .int .i64 t273, .int .i64 t274] 25 (0, 0)) (by (with_reducible repeat (first | refine blk_drewN ?_ _ | refine blk_drew ?_ | refine blk_alloc ?_ _)); exact BK276.out) hb); have n5_ := Aside0.mk (blk_below (g := gb282) (o := .cells #[.int .i64 t277, .int .i64 t278, .int .i64 t279, .int .i64 t280] 25 (0, 0)) (by (with_reducible repeat (first | refine blk_drewN ?_ _ | refine blk_drew ?_ | refine blk_alloc ?_ _)); exact BK282.out) hb); have n6_ := Aside0.mk (below_step (by repeat (first | (with_reducible first | exact HB.out | apply below_alloc | apply pw_below_drewN | apply below_drew1 | refine below_set ?_ GE259.out | refine below_set ?_ GE260.out | refine below_set ?_ GE261.out | refine below_set ?_ GE269.out | refine below_set ?_ GE276.out | refine below_set ?_ GE282.out) | exact HB.out)) hb); have n7_ := Aside0.mk (hbox); have n8_ := Aside0.mk ((by rw [hg]; exact (below_size (by repeat (first | (with_reducible first | exact HB.out | apply below_alloc | apply pw_below_drewN | apply below_drew1 | refine below_set ?_ GE259.out | refine below_set ?_ GE260.out | refine below_set ?_ GE261.out | refine below_set ?_ GE269.out | refine below_set ?_ GE276.out | refine below_set ?_ GE282.out) | exact HB.out))) : w.heap.size ≤ gb288)); have n9_ := Aside0.mk ((by rw [hg]; exact (below_size (by repeat (first | (with_reducible first | exact HB.out | apply below_alloc | apply pw_below_drewN | apply below_drew1 | refine below_set ?_ GE259.out | refine below_set ?_ GE260.out | refine below_set ?_ GE261.out | refine below_set ?_ GE269.out | refine below_set ?_ GE276.out | refine below_set ?_ GE282.out) | exact HB.out))) : w.heap.size ≤ gb288)); have n10_ := Aside0.mk ((by rw [hg]; exact Nat.ne_of_lt (blk_lt (g := gb259) (o := .cells #[.int .i64 a0_0, .bool a0_1] 23 (0, 0)) (by (with_reducible repeat (first | refine blk_drewN ?_ _ | refine blk_drew ?_ | refine blk_alloc ?_ _)); exact BK259.out)) : gb259 ≠ gb288)); have n11_ := Aside0.mk ((by rw [hg]; exact Nat.ne_of_gt (blk_lt (g := gb259) (o := .cells #[.int .i64 a0_0, .bool a0_1] 23 (0, 0)) (by (with_reducible repeat (first | refine blk_drewN ?_ _ | refine blk_drew ?_ | refine blk_alloc ?_ _)); exact BK259.out)) : gb288 ≠ gb259)); have n12_ := Aside0.mk ((by rw [hg]; exact Nat.ne_of_lt (blk_lt (g := gb260) (o := .cells #[.int .i64 a1_0, .int .i64 a1_1, .int .i64 a1_2, .int .i64 a1_3, .int .i64 a1_4, .int .i64 a1_5, .int .i64 a1_6, .int .i64 a1_7] 31 (0, 0)) (by (with_reducible repeat (first | refine blk_drewN ?_ _ | refine blk_drew ?_ | refine blk_alloc ?_ _)); exact BK260.out)) : gb260 ≠ gb288)); have n13_ := Aside0.mk ((by rw [hg]; exact Nat.ne_of_gt (blk_lt (g := gb260) (o := .cells #[.int .i64 a1_0, .int .i64 a1_1, .int .i64 a1_2, .int .i64 a1_3, .int .i64 a1_4, .int .i64 a1_5, .int .i64 a1_6, .int .i64 a1_7] 31 (0, 0)) (by (with_reducible repeat (first | refine blk_drewN ?_ _ | refine blk_drew ?_ | refine blk_alloc ?_ _)); exact BK260.out)) : gb288 ≠ gb260)); have n14_ := Aside0.mk ((by rw [hg]; exact Nat.ne_of_lt (blk_lt (g := gb261) (o := .cells #[.int .i64 a2_0, .int .i64 a2_1] 36 (0, 0)) (by (with_reducible repeat (first | refine blk_drewN ?_ _ | refine blk_drew ?_ | refine blk_alloc ?_ _)); exact BK261.out)) : gb261 ≠ gb288)); have n15_ := Aside0.mk ((by rw [hg]; exact Nat.ne_of_gt (blk_lt (g := gb261) (o := .cells #[.int .i64 a2_0, .int .i64 a2_1] 36 (0, 0)) (by (with_reducible repeat (first | refine blk_drewN ?_ _ | refine blk_drew ?_ | refine blk_alloc ?_ _)); exact BK261.out)) : gb288 ≠ gb261)); have n16_ := Aside0.mk ((by rw [hg]; exact Nat.ne_of_lt (blk_lt (g := gb269) (o := .cells #[.int .i64 t264, .int .i64 t265, .int .i64 t266, .int .i64 t267] 25 (0, 0)) (by (with_reducible repeat (first | refine blk_drewN ?_ _ | refine blk_drew ?_ | refine blk_alloc ?_ _)); exact BK269.out)) : gb269 ≠ gb288)); have n17_ := Aside0.mk ((by rw [hg]; exact Nat.ne_of_gt (blk_lt (g := gb269) (o := .cells #[.int .i64 t264, .int .i64 t265, .int .i64 t266, .int .i64 t267] 25 (0, 0)) (by (with_reducible repeat (first | refine blk_drewN ?_ _ | refine blk_drew ?_ | refine blk_alloc ?_ _)); exact BK269.out)) : gb288 ≠ gb269)); have n18_ := Aside0.mk ((by rw [hg]; exact Nat.ne_of_lt (blk_lt (g := gb276) (o := .cells #[.int .i64 t271, .int .i64 t272, .int .i64 t273, .int .i64 t274] 25 (0, 0)) (by (with_reducible repeat (first | refine blk_drewN ?_ _ | refine blk_drew ?_ | refine blk_alloc ?_ _)); exact BK276.out)) : gb276 ≠ gb288)); have n19_ := Aside0.mk ((by rw [hg]; exact Nat.ne_of_gt (blk_lt (g := gb276) (o := .cells #[.int .i64 t271, .int .i64 t272, .int .i64 t273, .int .i64 t274] 25 (0, 0)) (by (with_reducible repeat (first | refine blk_drewN ?_ _ | refine blk_drew ?_ | refine blk_alloc ?_ _)); exact BK276.out)) : gb288 ≠ gb276)); have n20_ := Aside0.mk ((by rw [hg]; exact Nat.ne_of_lt (blk_lt (g := gb282) (o := .cells #[.int .i64 t277, .int .i64 t278, .int .i64 t279, .int .i64 t280] 25 (0, 0)) (by (with_reducible repeat (first | refine blk_drewN ?_ _ | refine blk_drew ?_ | refine blk_alloc ?_ _)); exact BK282.out)) : gb282 ≠ gb288)); have n21_ := Aside0.mk ((by rw [hg]; exact Nat.ne_of_gt (blk_lt (g := gb282) (o := .cells #[.int .i64 t277, .int .i64 t278, .int .i64 t279, .int .i64 t280] 25 (0, 0)) (by (with_reducible repeat (first | refine blk_drewN ?_ _ | refine blk_drew ?_ | refine blk_alloc ?_ _)); exact BK282.out)) : gb288 ≠ gb282)); clear BK259; clear BK260; clear BK261; clear BK269; clear BK276; clear BK282; clear HB; have BK259 := n0_; have BK260 := n1_; have BK261 := n2_; have BK269 := n3_; have BK276 := n4_; have BK282 := n5_; have HB := n6_; have BK288 := n7_; have GW288 := n8_; have GE288 := n9_; have NB259_288 := n10_; have NB288_259 := n11_; have NB260_288 := n12_; have NB288_260 := n13_; have NB261_288 := n14_; have NB288_261 := n15_; have NB269_288 := n16_; have NB288_269 := n17_; have NB276_288 := n18_; have NB288_276 := n19_; have NB282_288 := n20_; have NB288_282 := n21_; clear n0_ n1_ n2_ n3_ n4_ n5_ n6_ n7_ n8_ n9_ n10_ n11_ n12_ n13_ n14_ n15_ n16_ n17_ n18_ n19_ n20_ n21_; clear hb hbox hg; have hnb107 := NB288_259.out; have hnc107 := NB259_288.out; have hnb108 := NB288_260.out; have hnc108 := NB260_288.out; have hnb109 := NB288_261.out; have hnc109 := NB261_288.out; have hnb110 := NB288_269.out; have hnc110 := NB269_288.out; have hnb111 := NB288_276.out; have hnc111 := NB276_288.out; have hnb112 := NB288_282.out; have hnc112 := NB282_288.out; have hcz113_0 : w106.cell? ⟨gb288, 0, none⟩ = some (.int .i64 0) := (blk_cell BK288.out 0).trans rfl; have hcz113_1 : w106.cell? ⟨gb288, 1, none⟩ = some (.int .i64 0) := (blk_cell BK288.out 1).trans rfl; have hcz113_2 : w106.cell? ⟨gb288, 2, none⟩ = some (.int .i64 0) := (blk_cell BK288.out 2).trans rfl; have hcz113_3 : w106.cell? ⟨gb288, 3, none⟩ = some (.int .i64 0) := (blk_cell BK288.out 3).trans rfl; have hfz113_0 := blk_frozen BK288.out 0; have hfz113_1 := blk_frozen BK288.out 1; have hfz113_2 := blk_frozen BK288.out 2; have hfz113_3 := blk_frozen BK288.out 3))
              (try simp only [Act.put, List.setIfInBounds_toArray, List.set_cons_zero, List.set_cons_succ])
              go_cut [108] (fun v108 wc => ∃ (kq : Nat) (x108_92 : Bool), v108 = .bool x108_92 ∧ Aside0 (dioramalaw20_CodeWalks.j2 kq t262 x108_92 a0_0 a0_1 a1_0 a1_1 a1_2 a1_3 a1_4 a1_5 a1_6 a1_7 = some r) ∧ Aside0 (kq ≤ kj49) ∧ Aside0 (wc.heap[gb259]? = some (.cells #[.int .i64 a0_0, .bool a0_1] 23 (0, 0))) ∧ Aside0 (wc.heap[gb260]? = some (.cells #[.int .i64 a1_0, .int .i64 a1_1, .int .i64 a1_2, .int .i64 a1_3, .int .i64 a1_4, .int .i64 a1_5, .int .i64 a1_6, .int .i64 a1_7] 31 (0, 0))) ∧ Aside0 (wc.heap[gb261]? = some (.cells #[.int .i64 a2_0, .int .i64 a2_1] 36 (0, 0))) ∧ Aside0 (wc.heap[gb269]? = some (.cells #[.int .i64 t264, .int .i64 t265, .int .i64 t266, .int .i64 t267] 25 (0, 0))) ∧ Aside0 (wc.heap[gb276]? = some (.cells #[.int .i64 t271, .int .i64 t272, .int .i64 t273, .int .i64 t274] 25 (0, 0))) ∧ Aside0 (wc.heap[gb282]? = some (.cells #[.int .i64 t277, .int .i64 t278, .int .i64 t279, .int .i64 t280] 25 (0, 0))) ∧ Aside0 (wc.heap[gb288]? = some (.cells #[.int .i64 t283, .int .i64 t284, .int .i64 t285, .int .i64 t286] 25 (0, 0))) ∧ Aside0 (Below w.heap.size w wc))
              case first =>
                have H := HC93.out
                clear HC93
                by_cases c114 : t287 = 0
                · rw [if_pos c114] at H
                  have c114b0 : (t287 == 0) = true := beq_iff_eq.mpr c114
                  have c114b1 : (t287 != 0) = false := bne_eq_false_iff_eq.mpr c114
                  clear c114
                  (first | rw [c114b0] | (simp only [i64_w, i32_w]; rw [c114b0]) | skip)
                  have H' := Aside0.mk H
                  clear H
                  have hnb115 := NB288_259.out
                  have hnc115 := NB259_288.out
                  have hnb116 := NB288_260.out
                  have hnc116 := NB260_288.out
                  have hnb117 := NB288_261.out
                  have hnc117 := NB261_288.out
                  have hnb118 := NB288_269.out
                  have hnc118 := NB269_288.out
                  have hnb119 := NB288_276.out
                  have hnc119 := NB276_288.out
                  have hnb120 := NB288_282.out
                  have hnc120 := NB282_288.out
                  have hcz121_0 : w106.cell? ⟨gb288, 0, none⟩ = some (.int .i64 0) := (blk_cell BK288.out 0).trans rfl
                  have hcz121_1 : w106.cell? ⟨gb288, 1, none⟩ = some (.int .i64 0) := (blk_cell BK288.out 1).trans rfl
                  have hcz121_2 : w106.cell? ⟨gb288, 2, none⟩ = some (.int .i64 0) := (blk_cell BK288.out 2).trans rfl
                  have hcz121_3 : w106.cell? ⟨gb288, 3, none⟩ = some (.int .i64 0) := (blk_cell BK288.out 3).trans rfl
                  have hfz121_0 := blk_frozen BK288.out 0
                  have hfz121_1 := blk_frozen BK288.out 1
                  have hfz121_2 := blk_frozen BK288.out 2
                  have hfz121_3 := blk_frozen BK288.out 3
                  have hnb122 := NB260_259.out
                  have hnc122 := NB259_260.out
                  have hnb123 := NB260_261.out
                  have hnc123 := NB261_260.out
                  have hnb124 := NB260_269.out
                  have hnc124 := NB269_260.out
                  have hnb125 := NB260_276.out
                  have hnc125 := NB276_260.out
                  have hnb126 := NB260_282.out
                  have hnc126 := NB282_260.out
                  have hcz127_0 : w106.cell? ⟨gb260, 0, none⟩ = some (.int .i64 a1_0) := (blk_cell BK260.out 0).trans rfl
                  have hcz127_1 : w106.cell? ⟨gb260, 1, none⟩ = some (.int .i64 a1_1) := (blk_cell BK260.out 1).trans rfl
                  have hcz127_2 : w106.cell? ⟨gb260, 2, none⟩ = some (.int .i64 a1_2) := (blk_cell BK260.out 2).trans rfl
                  have hcz127_3 : w106.cell? ⟨gb260, 3, none⟩ = some (.int .i64 a1_3) := (blk_cell BK260.out 3).trans rfl
                  have hcz127_4 : w106.cell? ⟨gb260, 4, none⟩ = some (.int .i64 a1_4) := (blk_cell BK260.out 4).trans rfl
                  have hcz127_5 : w106.cell? ⟨gb260, 5, none⟩ = some (.int .i64 a1_5) := (blk_cell BK260.out 5).trans rfl
                  have hcz127_6 : w106.cell? ⟨gb260, 6, none⟩ = some (.int .i64 a1_6) := (blk_cell BK260.out 6).trans rfl
                  have hcz127_7 : w106.cell? ⟨gb260, 7, none⟩ = some (.int .i64 a1_7) := (blk_cell BK260.out 7).trans rfl
                  have hfz127_0 := blk_frozen BK260.out 0
                  have hfz127_1 := blk_frozen BK260.out 1
                  have hfz127_2 := blk_frozen BK260.out 2
                  have hfz127_3 := blk_frozen BK260.out 3
                  have hfz127_4 := blk_frozen BK260.out 4
                  have hfz127_5 := blk_frozen BK260.out 5
                  have hfz127_6 := blk_frozen BK260.out 6
                  have hfz127_7 := blk_frozen BK260.out 7
                  go_wp2
                  go_meet
                  case rel => exact ⟨_, ((!(t283 == a1_0) || (!(t284 == a1_1) || (!(t285 == a1_2) || (!(t286 == a1_3)))))), (by first | rfl | (simp; done) | (simp [*]; done)), H', ⟨by have := HJ5.out; have := HJ49.out; first | omega | exact Nat.le_refl _⟩, ⟨by (with_reducible repeat (first | refine blk_drewN ?_ _ | refine blk_drew ?_ | refine blk_alloc ?_ _)); refine blk_far ?_ NB259_288.out _; (with_reducible repeat (first | refine blk_drewN ?_ _ | refine blk_drew ?_ | refine blk_alloc ?_ _)); refine blk_far ?_ NB259_288.out _; (with_reducible repeat (first | refine blk_drewN ?_ _ | refine blk_drew ?_ | refine blk_alloc ?_ _)); refine blk_far ?_ NB259_288.out _; (with_reducible repeat (first | refine blk_drewN ?_ _ | refine blk_drew ?_ | refine blk_alloc ?_ _)); refine blk_far ?_ NB259_288.out _; (with_reducible repeat (first | refine blk_drewN ?_ _ | refine blk_drew ?_ | refine blk_alloc ?_ _)); exact BK259.out⟩, ⟨by (with_reducible repeat (first | refine blk_drewN ?_ _ | refine blk_drew ?_ | refine blk_alloc ?_ _)); refine blk_far ?_ NB260_288.out _; (with_reducible repeat (first | refine blk_drewN ?_ _ | refine blk_drew ?_ | refine blk_alloc ?_ _)); refine blk_far ?_ NB260_288.out _; (with_reducible repeat (first | refine blk_drewN ?_ _ | refine blk_drew ?_ | refine blk_alloc ?_ _)); refine blk_far ?_ NB260_288.out _; (with_reducible repeat (first | refine blk_drewN ?_ _ | refine blk_drew ?_ | refine blk_alloc ?_ _)); refine blk_far ?_ NB260_288.out _; (with_reducible repeat (first | refine blk_drewN ?_ _ | refine blk_drew ?_ | refine blk_alloc ?_ _)); exact BK260.out⟩, ⟨by (with_reducible repeat (first | refine blk_drewN ?_ _ | refine blk_drew ?_ | refine blk_alloc ?_ _)); refine blk_far ?_ NB261_288.out _; (with_reducible repeat (first | refine blk_drewN ?_ _ | refine blk_drew ?_ | refine blk_alloc ?_ _)); refine blk_far ?_ NB261_288.out _; (with_reducible repeat (first | refine blk_drewN ?_ _ | refine blk_drew ?_ | refine blk_alloc ?_ _)); refine blk_far ?_ NB261_288.out _; (with_reducible repeat (first | refine blk_drewN ?_ _ | refine blk_drew ?_ | refine blk_alloc ?_ _)); refine blk_far ?_ NB261_288.out _; (with_reducible repeat (first | refine blk_drewN ?_ _ | refine blk_drew ?_ | refine blk_alloc ?_ _)); exact BK261.out⟩, ⟨by (with_reducible repeat (first | refine blk_drewN ?_ _ | refine blk_drew ?_ | refine blk_alloc ?_ _)); refine blk_far ?_ NB269_288.out _; (with_reducible repeat (first | refine blk_drewN ?_ _ | refine blk_drew ?_ | refine blk_alloc ?_ _)); refine blk_far ?_ NB269_288.out _; (with_reducible repeat (first | refine blk_drewN ?_ _ | refine blk_drew ?_ | refine blk_alloc ?_ _)); refine blk_far ?_ NB269_288.out _; (with_reducible repeat (first | refine blk_drewN ?_ _ | refine blk_drew ?_ | refine blk_alloc ?_ _)); refine blk_far ?_ NB269_288.out _; (with_reducible repeat (first | refine blk_drewN ?_ _ | refine blk_drew ?_ | refine blk_alloc ?_ _)); exact BK269.out⟩, ⟨by (with_reducible repeat (first | refine blk_drewN ?_ _ | refine blk_drew ?_ | refine blk_alloc ?_ _)); refine blk_far ?_ NB276_288.out _; (with_reducible repeat (first | refine blk_drewN ?_ _ | refine blk_drew ?_ | refine blk_alloc ?_ _)); refine blk_far ?_ NB276_288.out _; (with_reducible repeat (first | refine blk_drewN ?_ _ | refine blk_drew ?_ | refine blk_alloc ?_ _)); refine blk_far ?_ NB276_288.out _; (with_reducible repeat (first | refine blk_drewN ?_ _ | refine blk_drew ?_ | refine blk_alloc ?_ _)); refine blk_far ?_ NB276_288.out _; (with_reducible repeat (first | refine blk_drewN ?_ _ | refine blk_drew ?_ | refine blk_alloc ?_ _)); exact BK276.out⟩, ⟨by (with_reducible repeat (first | refine blk_drewN ?_ _ | refine blk_drew ?_ | refine blk_alloc ?_ _)); refine blk_far ?_ NB282_288.out _; (with_reducible repeat (first | refine blk_drewN ?_ _ | refine blk_drew ?_ | refine blk_alloc ?_ _)); refine blk_far ?_ NB282_288.out _; (with_reducible repeat (first | refine blk_drewN ?_ _ | refine blk_drew ?_ | refine blk_alloc ?_ _)); refine blk_far ?_ NB282_288.out _; (with_reducible repeat (first | refine blk_drewN ?_ _ | refine blk_drew ?_ | refine blk_alloc ?_ _)); refine blk_far ?_ NB282_288.out _; (with_reducible repeat (first | refine blk_drewN ?_ _ | refine blk_drew ?_ | refine blk_alloc ?_ _)); exact BK282.out⟩, ⟨by (with_reducible repeat (first | refine blk_drewN ?_ _ | refine blk_drew ?_ | refine blk_alloc ?_ _)); refine blk_put (cs := #[.int .i64 t283, .int .i64 t284, .int .i64 t285, .int .i64 0]) ?_ 3 _ rfl; (with_reducible repeat (first | refine blk_drewN ?_ _ | refine blk_drew ?_ | refine blk_alloc ?_ _)); refine blk_put (cs := #[.int .i64 t283, .int .i64 t284, .int .i64 0, .int .i64 0]) ?_ 2 _ rfl; (with_reducible repeat (first | refine blk_drewN ?_ _ | refine blk_drew ?_ | refine blk_alloc ?_ _)); refine blk_put (cs := #[.int .i64 t283, .int .i64 0, .int .i64 0, .int .i64 0]) ?_ 1 _ rfl; (with_reducible repeat (first | refine blk_drewN ?_ _ | refine blk_drew ?_ | refine blk_alloc ?_ _)); refine blk_put (cs := #[.int .i64 0, .int .i64 0, .int .i64 0, .int .i64 0]) ?_ 0 _ rfl; (with_reducible repeat (first | refine blk_drewN ?_ _ | refine blk_drew ?_ | refine blk_alloc ?_ _)); exact BK288.out⟩, ⟨by repeat (first | (with_reducible first | exact HB.out | apply below_alloc | apply pw_below_drewN | apply below_drew1 | refine below_set ?_ GE259.out | refine below_set ?_ GE260.out | refine below_set ?_ GE261.out | refine below_set ?_ GE269.out | refine below_set ?_ GE276.out | refine below_set ?_ GE282.out | refine below_set ?_ GE288.out) | exact HB.out)⟩⟩
                · rw [if_neg c114] at H
                  have c114b0 : (t287 == 0) = false := beq_eq_false_iff_ne.mpr c114
                  have c114b1 : (t287 != 0) = true := bne_iff_ne.mpr c114
                  (first | rw [c114b0] | (simp only [i64_w, i32_w]; rw [c114b0]) | skip)
                  have H' := Aside0.mk H
                  clear H
                  go_wp2
                  go_meet
                  case rel => exact ⟨_, (true), (by first | rfl | (simp; done) | (simp [*]; done)), H', ⟨by have := HJ5.out; have := HJ49.out; first | omega | exact Nat.le_refl _⟩, ⟨by (with_reducible repeat (first | refine blk_drewN ?_ _ | refine blk_drew ?_ | refine blk_alloc ?_ _)); refine blk_far ?_ NB259_288.out _; (with_reducible repeat (first | refine blk_drewN ?_ _ | refine blk_drew ?_ | refine blk_alloc ?_ _)); refine blk_far ?_ NB259_288.out _; (with_reducible repeat (first | refine blk_drewN ?_ _ | refine blk_drew ?_ | refine blk_alloc ?_ _)); refine blk_far ?_ NB259_288.out _; (with_reducible repeat (first | refine blk_drewN ?_ _ | refine blk_drew ?_ | refine blk_alloc ?_ _)); refine blk_far ?_ NB259_288.out _; (with_reducible repeat (first | refine blk_drewN ?_ _ | refine blk_drew ?_ | refine blk_alloc ?_ _)); exact BK259.out⟩, ⟨by (with_reducible repeat (first | refine blk_drewN ?_ _ | refine blk_drew ?_ | refine blk_alloc ?_ _)); refine blk_far ?_ NB260_288.out _; (with_reducible repeat (first | refine blk_drewN ?_ _ | refine blk_drew ?_ | refine blk_alloc ?_ _)); refine blk_far ?_ NB260_288.out _; (with_reducible repeat (first | refine blk_drewN ?_ _ | refine blk_drew ?_ | refine blk_alloc ?_ _)); refine blk_far ?_ NB260_288.out _; (with_reducible repeat (first | refine blk_drewN ?_ _ | refine blk_drew ?_ | refine blk_alloc ?_ _)); refine blk_far ?_ NB260_288.out _; (with_reducible repeat (first | refine blk_drewN ?_ _ | refine blk_drew ?_ | refine blk_alloc ?_ _)); exact BK260.out⟩, ⟨by (with_reducible repeat (first | refine blk_drewN ?_ _ | refine blk_drew ?_ | refine blk_alloc ?_ _)); refine blk_far ?_ NB261_288.out _; (with_reducible repeat (first | refine blk_drewN ?_ _ | refine blk_drew ?_ | refine blk_alloc ?_ _)); refine blk_far ?_ NB261_288.out _; (with_reducible repeat (first | refine blk_drewN ?_ _ | refine blk_drew ?_ | refine blk_alloc ?_ _)); refine blk_far ?_ NB261_288.out _; (with_reducible repeat (first | refine blk_drewN ?_ _ | refine blk_drew ?_ | refine blk_alloc ?_ _)); refine blk_far ?_ NB261_288.out _; (with_reducible repeat (first | refine blk_drewN ?_ _ | refine blk_drew ?_ | refine blk_alloc ?_ _)); exact BK261.out⟩, ⟨by (with_reducible repeat (first | refine blk_drewN ?_ _ | refine blk_drew ?_ | refine blk_alloc ?_ _)); refine blk_far ?_ NB269_288.out _; (with_reducible repeat (first | refine blk_drewN ?_ _ | refine blk_drew ?_ | refine blk_alloc ?_ _)); refine blk_far ?_ NB269_288.out _; (with_reducible repeat (first | refine blk_drewN ?_ _ | refine blk_drew ?_ | refine blk_alloc ?_ _)); refine blk_far ?_ NB269_288.out _; (with_reducible repeat (first | refine blk_drewN ?_ _ | refine blk_drew ?_ | refine blk_alloc ?_ _)); refine blk_far ?_ NB269_288.out _; (with_reducible repeat (first | refine blk_drewN ?_ _ | refine blk_drew ?_ | refine blk_alloc ?_ _)); exact BK269.out⟩, ⟨by (with_reducible repeat (first | refine blk_drewN ?_ _ | refine blk_drew ?_ | refine blk_alloc ?_ _)); refine blk_far ?_ NB276_288.out _; (with_reducible repeat (first | refine blk_drewN ?_ _ | refine blk_drew ?_ | refine blk_alloc ?_ _)); refine blk_far ?_ NB276_288.out _; (with_reducible repeat (first | refine blk_drewN ?_ _ | refine blk_drew ?_ | refine blk_alloc ?_ _)); refine blk_far ?_ NB276_288.out _; (with_reducible repeat (first | refine blk_drewN ?_ _ | refine blk_drew ?_ | refine blk_alloc ?_ _)); refine blk_far ?_ NB276_288.out _; (with_reducible repeat (first | refine blk_drewN ?_ _ | refine blk_drew ?_ | refine blk_alloc ?_ _)); exact BK276.out⟩, ⟨by (with_reducible repeat (first | refine blk_drewN ?_ _ | refine blk_drew ?_ | refine blk_alloc ?_ _)); refine blk_far ?_ NB282_288.out _; (with_reducible repeat (first | refine blk_drewN ?_ _ | refine blk_drew ?_ | refine blk_alloc ?_ _)); refine blk_far ?_ NB282_288.out _; (with_reducible repeat (first | refine blk_drewN ?_ _ | refine blk_drew ?_ | refine blk_alloc ?_ _)); refine blk_far ?_ NB282_288.out _; (with_reducible repeat (first | refine blk_drewN ?_ _ | refine blk_drew ?_ | refine blk_alloc ?_ _)); refine blk_far ?_ NB282_288.out _; (with_reducible repeat (first | refine blk_drewN ?_ _ | refine blk_drew ?_ | refine blk_alloc ?_ _)); exact BK282.out⟩, ⟨by (with_reducible repeat (first | refine blk_drewN ?_ _ | refine blk_drew ?_ | refine blk_alloc ?_ _)); refine blk_put (cs := #[.int .i64 t283, .int .i64 t284, .int .i64 t285, .int .i64 0]) ?_ 3 _ rfl; (with_reducible repeat (first | refine blk_drewN ?_ _ | refine blk_drew ?_ | refine blk_alloc ?_ _)); refine blk_put (cs := #[.int .i64 t283, .int .i64 t284, .int .i64 0, .int .i64 0]) ?_ 2 _ rfl; (with_reducible repeat (first | refine blk_drewN ?_ _ | refine blk_drew ?_ | refine blk_alloc ?_ _)); refine blk_put (cs := #[.int .i64 t283, .int .i64 0, .int .i64 0, .int .i64 0]) ?_ 1 _ rfl; (with_reducible repeat (first | refine blk_drewN ?_ _ | refine blk_drew ?_ | refine blk_alloc ?_ _)); refine blk_put (cs := #[.int .i64 0, .int .i64 0, .int .i64 0, .int .i64 0]) ?_ 0 _ rfl; (with_reducible repeat (first | refine blk_drewN ?_ _ | refine blk_drew ?_ | refine blk_alloc ?_ _)); exact BK288.out⟩, ⟨by repeat (first | (with_reducible first | exact HB.out | apply below_alloc | apply pw_below_drewN | apply below_drew1 | refine below_set ?_ GE259.out | refine below_set ?_ GE260.out | refine below_set ?_ GE261.out | refine below_set ?_ GE269.out | refine below_set ?_ GE276.out | refine below_set ?_ GE282.out | refine below_set ?_ GE288.out) | exact HB.out)⟩⟩
              case rest =>
                clear HC93
                try clear c1
                try clear c2
                try clear p2
                try clear c3
                try clear c4
                try clear c5
                try clear c6
                try clear p6
                try clear c7
                try clear c8
                try clear c9
                try clear c10
                try clear c11
                try clear c12
                try clear c14
                try clear c15
                try clear c19
                try clear c20
                try clear c21
                try clear c22
                try clear c24
                try clear c24b0
                try clear c24b1
                try clear c25
                try clear c25b0
                try clear c25b1
                try clear c26
                try clear c26b0
                try clear c27
                try clear c28
                try clear c29
                try clear c31
                try clear c31b0
                try clear c32
                try clear c33
                try clear c34
                try clear c36
                try clear c36b0
                try clear c37
                try clear c38
                try clear c39
                try clear c41
                try clear c42
                try clear c43
                try clear c45
                try clear c51
                try clear c52
                try clear c53
                try clear c55
                try clear c56
                try clear c58
                try clear c62
                try clear c63
                try clear c64
                try clear p64
                try clear c65
                try clear c72
                try clear c73
                try clear c74
                try clear c75
                try clear c76
                try clear c78
                try clear c78b0
                try clear c78b1
                try clear c79
                try clear c79b0
                try clear c79b1
                try clear c80
                try clear c81
                try clear c82
                try clear c83
                try clear c84
                try clear c86
                try clear c87
                try clear c88
                try clear c89
                try clear c91
                try clear c94
                try clear c95
                try clear c96
                try clear c97
                try clear c98
                try clear c100
                try clear c101
                try clear c102
                try clear c103
                try clear c107
                try clear c108
                try clear c109
                try clear c110
                try clear c111
                try clear c112
                try clear c114
                try clear c114b0
                try clear c114b1
                try clear c115
                try clear c116
                try clear c117
                try clear c118
                try clear c119
                try clear c120
                try clear c122
                try clear c123
                try clear c124
                try clear c125
                try clear c126
                try clear hcz104_0
                try clear hcz104_1
                try clear hcz104_2
                try clear hcz104_3
                try clear hcz104_4
                try clear hcz104_5
                try clear hcz104_6
                try clear hcz104_7
                try clear hcz113_0
                try clear hcz113_1
                try clear hcz113_2
                try clear hcz113_3
                try clear hcz121_0
                try clear hcz121_1
                try clear hcz121_2
                try clear hcz121_3
                try clear hcz127_0
                try clear hcz127_1
                try clear hcz127_2
                try clear hcz127_3
                try clear hcz127_4
                try clear hcz127_5
                try clear hcz127_6
                try clear hcz127_7
                try clear hcz12_0
                try clear hcz12_1
                try clear hcz14_0
                try clear hcz14_1
                try clear hcz16_0
                try clear hcz16_1
                try clear hcz16_2
                try clear hcz16_3
                try clear hcz16_4
                try clear hcz16_5
                try clear hcz16_6
                try clear hcz16_7
                try clear hcz17_0
                try clear hcz17_1
                try clear hcz23_0
                try clear hcz23_1
                try clear hcz23_2
                try clear hcz23_3
                try clear hcz30_0
                try clear hcz30_1
                try clear hcz35_0
                try clear hcz35_1
                try clear hcz40_0
                try clear hcz40_1
                try clear hcz44_0
                try clear hcz44_1
                try clear hcz54_0
                try clear hcz54_1
                try clear hcz57_0
                try clear hcz57_1
                try clear hcz57_2
                try clear hcz57_3
                try clear hcz59_0
                try clear hcz59_1
                try clear hcz66_0
                try clear hcz66_1
                try clear hcz66_2
                try clear hcz66_3
                try clear hcz67_0
                try clear hcz67_1
                try clear hcz68_0
                try clear hcz68_1
                try clear hcz68_2
                try clear hcz68_3
                try clear hcz68_4
                try clear hcz68_5
                try clear hcz68_6
                try clear hcz68_7
                try clear hcz69_0
                try clear hcz69_1
                try clear hcz77_0
                try clear hcz77_1
                try clear hcz77_2
                try clear hcz77_3
                try clear hcz85_0
                try clear hcz85_1
                try clear hcz85_2
                try clear hcz85_3
                try clear hcz90_0
                try clear hcz90_1
                try clear hcz90_2
                try clear hcz90_3
                try clear hcz99_0
                try clear hcz99_1
                try clear hfz104_0
                try clear hfz104_1
                try clear hfz104_2
                try clear hfz104_3
                try clear hfz104_4
                try clear hfz104_5
                try clear hfz104_6
                try clear hfz104_7
                try clear hfz113_0
                try clear hfz113_1
                try clear hfz113_2
                try clear hfz113_3
                try clear hfz121_0
                try clear hfz121_1
                try clear hfz121_2
                try clear hfz121_3
                try clear hfz127_0
                try clear hfz127_1
                try clear hfz127_2
                try clear hfz127_3
                try clear hfz127_4
                try clear hfz127_5
                try clear hfz127_6
                try clear hfz127_7
                try clear hfz12_0
                try clear hfz12_1
                try clear hfz14_0
                try clear hfz14_1
                try clear hfz16_0
                try clear hfz16_1
                try clear hfz16_2
                try clear hfz16_3
                try clear hfz16_4
                try clear hfz16_5
                try clear hfz16_6
                try clear hfz16_7
                try clear hfz17_0
                try clear hfz17_1
                try clear hfz23_0
                try clear hfz23_1
                try clear hfz23_2
                try clear hfz23_3
                try clear hfz30_0
                try clear hfz30_1
                try clear hfz35_0
                try clear hfz35_1
                try clear hfz40_0
                try clear hfz40_1
                try clear hfz44_0
                try clear hfz44_1
                try clear hfz54_0
                try clear hfz54_1
                try clear hfz57_0
                try clear hfz57_1
                try clear hfz57_2
                try clear hfz57_3
                try clear hfz59_0
                try clear hfz59_1
                try clear hfz66_0
                try clear hfz66_1
                try clear hfz66_2
                try clear hfz66_3
                try clear hfz67_0
                try clear hfz67_1
                try clear hfz68_0
                try clear hfz68_1
                try clear hfz68_2
                try clear hfz68_3
                try clear hfz68_4
                try clear hfz68_5
                try clear hfz68_6
                try clear hfz68_7
                try clear hfz69_0
                try clear hfz69_1
                try clear hfz77_0
                try clear hfz77_1
                try clear hfz77_2
                try clear hfz77_3
                try clear hfz85_0
                try clear hfz85_1
                try clear hfz85_2
                try clear hfz85_3
                try clear hfz90_0
                try clear hfz90_1
                try clear hfz90_2
                try clear hfz90_3
                try clear hfz99_0
                try clear hfz99_1
                try clear p2
                try clear p6
                try clear p64
                obtain ⟨kq, x108_92, rfl, HA, HJ92, BK259, BK260, BK261, BK269, BK276, BK282, BK288, HB⟩ := hcut
                cases kq with
                | zero => exact absurd HA.out (by simp [dioramalaw20_CodeWalks.j2])
                | succ kj92 =>
                  have H := HA.out
                  clear HA
                  simp only [dioramalaw20_CodeWalks.j2] at H
                  by_cases c128 : x108_92 = true
                  · subst c128
                    have H1 : (some false) = some r := by rw [if_pos rfl] at H; exact H
                    clear H
                    have H := H1
                    clear H1
                    exact absurd (Option.some.inj H) (by rw [hrt]; exact Bool.noConfusion)
                  · replace c128 := Bool.eq_false_iff.mpr c128
                    subst c128
                    have H1 : ((code_Between.f kj92 a0_0 a0_1 a1_0 a1_1 a1_2 a1_3 a1_4 a1_5 a1_6 a1_7).bind fun bt289 => (if bt289.2 = 0 then ((code_Add.f kj92 a0_0 a0_1 a1_0 a1_1 a1_2 a1_3 bt289.1).bind fun bt291 => (if bt289.1 ≥ 0 then (if bt289.1 < t262 then (if bt291.2.2.2.2 = 0 then (if (bt291.1 == a1_4 && (bt291.2.1 == a1_5 && (bt291.2.2.1 == a1_6 && (bt291.2.2.2.1 == a1_7)))) = true then ((dioramalaw20_awake.f kj92).bind fun t297 => (some t297)) else (some false)) else (some false)) else (some false)) else (some false))) else ((dioramalaw20_awake.f kj92).bind fun t298 => (some t298)))) = some r := by rw [if_neg (show ¬ (false = true) by decide)] at H; exact H
                    clear H
                    have H := H1
                    clear H1
                    replace H := Option.bind_eq_some_iff.mp H
                    obtain ⟨⟨t289, t290⟩, A1290, H⟩ := H
                    replace H : (if t290 = 0 then ((code_Add.f kj92 a0_0 a0_1 a1_0 a1_1 a1_2 a1_3 t289).bind fun bt291 => (if t289 ≥ 0 then (if t289 < t262 then (if bt291.2.2.2.2 = 0 then (if (bt291.1 == a1_4 && (bt291.2.1 == a1_5 && (bt291.2.2.1 == a1_6 && (bt291.2.2.2.1 == a1_7)))) = true then ((dioramalaw20_awake.f kj92).bind fun t297 => (some t297)) else (some false)) else (some false)) else (some false)) else (some false))) else ((dioramalaw20_awake.f kj92).bind fun t298 => (some t298))) = some r := H
                    have A129 := Aside0.mk A1290
                    clear A1290
                    by_cases c130 : t290 = 0
                    · rw [if_pos c130] at H
                      have c130b0 : (t290 == 0) = true := beq_iff_eq.mpr c130
                      have c130b1 : (t290 != 0) = false := bne_eq_false_iff_eq.mpr c130
                      clear c130
                      replace H := Option.bind_eq_some_iff.mp H
                      obtain ⟨⟨t291, t292, t293, t294, t295⟩, A1310, H⟩ := H
                      replace H : (if t289 ≥ 0 then (if t289 < t262 then (if t295 = 0 then (if (t291 == a1_4 && (t292 == a1_5 && (t293 == a1_6 && (t294 == a1_7)))) = true then ((dioramalaw20_awake.f kj92).bind fun t297 => (some t297)) else (some false)) else (some false)) else (some false)) else (some false)) = some r := H
                      have A131 := Aside0.mk A1310
                      clear A1310
                      by_cases c132 : t289 ≥ 0
                      · rw [if_pos c132] at H
                        have c132b0 : decide (0 ≤ t289) = true := decide_eq_true c132
                        clear c132
                        by_cases c133 : t289 < t262
                        · rw [if_pos c133] at H
                          have c133b0 : decide (t289 < t262) = true := decide_eq_true c133
                          clear c133
                          by_cases c134 : t295 = 0
                          · rw [if_pos c134] at H
                            have c134b0 : (t295 == 0) = true := beq_iff_eq.mpr c134
                            have c134b1 : (t295 != 0) = false := bne_eq_false_iff_eq.mpr c134
                            clear c134
                            by_cases c135 : (t291 == a1_4 && (t292 == a1_5 && (t293 == a1_6 && (t294 == a1_7)))) = true
                            · rw [if_pos c135] at H
                              have c135b0 : (t291 == a1_4 && (t292 == a1_5 && (t293 == a1_6 && (t294 == a1_7)))) = true := c135
                              (try (have c135b1 : decide (t291 = a1_4 && (t292 == a1_5 && (t293 == a1_6 && (t294 == a1_7)))) = true := by simpa using c135))
                              (try (have c135b2 : (t291 == a1_4 && (t292 == a1_5 && (t293 == a1_6 && (t294 == a1_7)))) = true := by simpa using c135))
                              clear c135
                              replace H := Option.bind_eq_some_iff.mp H
                              obtain ⟨t297, A1360, H⟩ := H
                              replace H : (some t297) = some r := H
                              have A136 := Aside0.mk A1360
                              clear A1360
                              obtain rfl := Option.some.inj H
                              have hnb137 := NB259_260.out
                              have hnc137 := NB260_259.out
                              have hnb138 := NB259_261.out
                              have hnc138 := NB261_259.out
                              have hnb139 := NB259_269.out
                              have hnc139 := NB269_259.out
                              have hnb140 := NB259_276.out
                              have hnc140 := NB276_259.out
                              have hnb141 := NB259_282.out
                              have hnc141 := NB282_259.out
                              have hnb142 := NB259_288.out
                              have hnc142 := NB288_259.out
                              have hcz143_0 : wc.cell? ⟨gb259, 0, none⟩ = some (.int .i64 a0_0) := (blk_cell BK259.out 0).trans rfl
                              have hcz143_1 : wc.cell? ⟨gb259, 1, none⟩ = some (.bool a0_1) := (blk_cell BK259.out 1).trans rfl
                              have hfz143_0 := blk_frozen BK259.out 0
                              have hfz143_1 := blk_frozen BK259.out 1
                              have hnb144 := NB260_261.out
                              have hnc144 := NB261_260.out
                              have hnb145 := NB260_269.out
                              have hnc145 := NB269_260.out
                              have hnb146 := NB260_276.out
                              have hnc146 := NB276_260.out
                              have hnb147 := NB260_282.out
                              have hnc147 := NB282_260.out
                              have hnb148 := NB260_288.out
                              have hnc148 := NB288_260.out
                              have hcz149_0 : wc.cell? ⟨gb260, 0, none⟩ = some (.int .i64 a1_0) := (blk_cell BK260.out 0).trans rfl
                              have hcz149_1 : wc.cell? ⟨gb260, 1, none⟩ = some (.int .i64 a1_1) := (blk_cell BK260.out 1).trans rfl
                              have hcz149_2 : wc.cell? ⟨gb260, 2, none⟩ = some (.int .i64 a1_2) := (blk_cell BK260.out 2).trans rfl
                              have hcz149_3 : wc.cell? ⟨gb260, 3, none⟩ = some (.int .i64 a1_3) := (blk_cell BK260.out 3).trans rfl
                              have hcz149_4 : wc.cell? ⟨gb260, 4, none⟩ = some (.int .i64 a1_4) := (blk_cell BK260.out 4).trans rfl
                              have hcz149_5 : wc.cell? ⟨gb260, 5, none⟩ = some (.int .i64 a1_5) := (blk_cell BK260.out 5).trans rfl
                              have hcz149_6 : wc.cell? ⟨gb260, 6, none⟩ = some (.int .i64 a1_6) := (blk_cell BK260.out 6).trans rfl
                              have hcz149_7 : wc.cell? ⟨gb260, 7, none⟩ = some (.int .i64 a1_7) := (blk_cell BK260.out 7).trans rfl
                              have hfz149_0 := blk_frozen BK260.out 0
                              have hfz149_1 := blk_frozen BK260.out 1
                              have hfz149_2 := blk_frozen BK260.out 2
                              have hfz149_3 := blk_frozen BK260.out 3
                              have hfz149_4 := blk_frozen BK260.out 4
                              have hfz149_5 := blk_frozen BK260.out 5
                              have hfz149_6 := blk_frozen BK260.out 6
                              have hfz149_7 := blk_frozen BK260.out 7
                              go_wp2_with (first | ((with_reducible refine gate_callee (f := 17) rfl ?_); refine goesL_ (some 115) rfl rfl Try.func17 (by kernel_rfl) rfl #[.agg #[.int .i64 a0_0, .bool a0_1], .agg #[.int .i64 a1_0, .int .i64 a1_1, .int .i64 a1_2, .int .i64 a1_3], .agg #[.int .i64 a1_4, .int .i64 a1_5, .int .i64 a1_6, .int .i64 a1_7]] rfl (by (try simp only [List.map_toArray, List.map_cons, List.map_nil]); first | done | rfl | (simp only [List.length_drop, List.length_take]; rfl)) ?_; (with_reducible refine (code_Between.calls kj92 a0_0 a0_1 a1_0 a1_1 a1_2 a1_3 a1_4 a1_5 a1_6 a1_7 t289 t290 _ A129.out).mono ?_); rintro e w150 ⟨rfl, hb⟩; refine ⟨_, rfl, ?_⟩; have n0_ := Aside0.mk (blk_below (g := gb259) (o := .cells #[.int .i64 a0_0, .bool a0_1] 23 (0, 0)) (by (with_reducible repeat (first | refine blk_drewN ?_ _ | refine blk_drew ?_ | refine blk_alloc ?_ _)); exact BK259.out) hb); have n1_ := Aside0.mk (blk_below (g := gb260) (o := .cells #[.int .i64 a1_0, .int .i64 a1_1, .int .i64 a1_2, .int .i64 a1_3, .int .i64 a1_4, .int .i64 a1_5, .int .i64 a1_6, .int .i64 a1_7] 31 (0, 0)) (by (with_reducible repeat (first | refine blk_drewN ?_ _ | refine blk_drew ?_ | refine blk_alloc ?_ _)); exact BK260.out) hb); have n2_ := Aside0.mk (blk_below (g := gb261) (o := .cells #[.int .i64 a2_0, .int .i64 a2_1] 36 (0, 0)) (by (with_reducible repeat (first | refine blk_drewN ?_ _ | refine blk_drew ?_ | refine blk_alloc ?_ _)); exact BK261.out) hb); have n3_ := Aside0.mk (blk_below (g := gb269) (o := .cells #[.int .i64 t264, .int .i64 t265, .int .i64 t266, .int .i64 t267] 25 (0, 0)) (by (with_reducible repeat (first | refine blk_drewN ?_ _ | refine blk_drew ?_ | refine blk_alloc ?_ _)); exact BK269.out) hb); have n4_ := Aside0.mk (blk_below (g := gb276) (o := .cells #[.int .i64 t271, .int .i64 t272, .int .i64 t273, .int .i64 t274] 25 (0, 0)) (by (with_reducible repeat (first | refine blk_drewN ?_ _ | refine blk_drew ?_ | refine blk_alloc ?_ _)); exact BK276.out) hb); have n5_ := Aside0.mk (blk_below (g := gb282) (o := .cells #[.int .i64 t277, .int .i64 t278, .int .i64 t279, .int .i64 t280] 25 (0, 0)) (by (with_reducible repeat (first | refine blk_drewN ?_ _ | refine blk_drew ?_ | refine blk_alloc ?_ _)); exact BK282.out) hb); have n6_ := Aside0.mk (blk_below (g := gb288) (o := .cells #[.int .i64 t283, .int .i64 t284, .int .i64 t285, .int .i64 t286] 25 (0, 0)) (by (with_reducible repeat (first | refine blk_drewN ?_ _ | refine blk_drew ?_ | refine blk_alloc ?_ _)); exact BK288.out) hb); have n7_ := Aside0.mk (below_step (by repeat (first | (with_reducible first | exact HB.out | apply below_alloc | apply pw_below_drewN | apply below_drew1 | refine below_set ?_ GE259.out | refine below_set ?_ GE260.out | refine below_set ?_ GE261.out | refine below_set ?_ GE269.out | refine below_set ?_ GE276.out | refine below_set ?_ GE282.out | refine below_set ?_ GE288.out) | exact HB.out)) hb); clear BK259; clear BK260; clear BK261; clear BK269; clear BK276; clear BK282; clear BK288; clear HB; have BK259 := n0_; have BK260 := n1_; have BK261 := n2_; have BK269 := n3_; have BK276 := n4_; have BK282 := n5_; have BK288 := n6_; have HB := n7_; clear n0_ n1_ n2_ n3_ n4_ n5_ n6_ n7_; (try clear hb); (try clear hb2); (try clear hk); (try clear hi); have hcz151_0 : w150.cell? ⟨gb259, 0, none⟩ = some (.int .i64 a0_0) := (blk_cell BK259.out 0).trans rfl; have hcz151_1 : w150.cell? ⟨gb259, 1, none⟩ = some (.bool a0_1) := (blk_cell BK259.out 1).trans rfl; have hfz151_0 := blk_frozen BK259.out 0; have hfz151_1 := blk_frozen BK259.out 1; have hcz152_0 : w150.cell? ⟨gb260, 0, none⟩ = some (.int .i64 a1_0) := (blk_cell BK260.out 0).trans rfl; have hcz152_1 : w150.cell? ⟨gb260, 1, none⟩ = some (.int .i64 a1_1) := (blk_cell BK260.out 1).trans rfl; have hcz152_2 : w150.cell? ⟨gb260, 2, none⟩ = some (.int .i64 a1_2) := (blk_cell BK260.out 2).trans rfl; have hcz152_3 : w150.cell? ⟨gb260, 3, none⟩ = some (.int .i64 a1_3) := (blk_cell BK260.out 3).trans rfl; have hcz152_4 : w150.cell? ⟨gb260, 4, none⟩ = some (.int .i64 a1_4) := (blk_cell BK260.out 4).trans rfl; have hcz152_5 : w150.cell? ⟨gb260, 5, none⟩ = some (.int .i64 a1_5) := (blk_cell BK260.out 5).trans rfl; have hcz152_6 : w150.cell? ⟨gb260, 6, none⟩ = some (.int .i64 a1_6) := (blk_cell BK260.out 6).trans rfl; have hcz152_7 : w150.cell? ⟨gb260, 7, none⟩ = some (.int .i64 a1_7) := (blk_cell BK260.out 7).trans rfl; have hfz152_0 := blk_frozen BK260.out 0; have hfz152_1 := blk_frozen BK260.out 1; have hfz152_2 := blk_frozen BK260.out 2; have hfz152_3 := blk_frozen BK260.out 3; have hfz152_4 := blk_frozen BK260.out 4; have hfz152_5 := blk_frozen BK260.out 5; have hfz152_6 := blk_frozen BK260.out 6; have hfz152_7 := blk_frozen BK260.out 7) | ((with_reducible refine gate_callee (f := 15) rfl ?_); refine goesL_ (some 126) rfl rfl Try.func15 (by kernel_rfl) rfl #[.agg #[.int .i64 a0_0, .bool a0_1], .agg #[.int .i64 a1_0, .int .i64 a1_1, .int .i64 a1_2, .int .i64 a1_3], .int .i64 t289] rfl (by (try simp only [List.map_toArray, List.map_cons, List.map_nil]); first | done | rfl | (simp only [List.length_drop, List.length_take]; rfl)) ?_; (with_reducible refine (code_Add.calls kj92 a0_0 a0_1 a1_0 a1_1 a1_2 a1_3 t289 t291 t292 t293 t294 t295 _ A131.out).mono ?_); rintro e w153 ⟨rfl, hb⟩; refine ⟨_, rfl, ?_⟩; have n0_ := Aside0.mk (blk_below (g := gb259) (o := .cells #[.int .i64 a0_0, .bool a0_1] 23 (0, 0)) (by (with_reducible repeat (first | refine blk_drewN ?_ _ | refine blk_drew ?_ | refine blk_alloc ?_ _)); exact BK259.out) hb); have n1_ := Aside0.mk (blk_below (g := gb260) (o := .cells #[.int .i64 a1_0, .int .i64 a1_1, .int .i64 a1_2, .int .i64 a1_3, .int .i64 a1_4, .int .i64 a1_5, .int .i64 a1_6, .int .i64 a1_7] 31 (0, 0)) (by (with_reducible repeat (first | refine blk_drewN ?_ _ | refine blk_drew ?_ | refine blk_alloc ?_ _)); exact BK260.out) hb); have n2_ := Aside0.mk (blk_below (g := gb261) (o := .cells #[.int .i64 a2_0, .int .i64 a2_1] 36 (0, 0)) (by (with_reducible repeat (first | refine blk_drewN ?_ _ | refine blk_drew ?_ | refine blk_alloc ?_ _)); exact BK261.out) hb); have n3_ := Aside0.mk (blk_below (g := gb269) (o := .cells #[.int .i64 t264, .int .i64 t265, .int .i64 t266, .int .i64 t267] 25 (0, 0)) (by (with_reducible repeat (first | refine blk_drewN ?_ _ | refine blk_drew ?_ | refine blk_alloc ?_ _)); exact BK269.out) hb); have n4_ := Aside0.mk (blk_below (g := gb276) (o := .cells #[.int .i64 t271, .int .i64 t272, .int .i64 t273, .int .i64 t274] 25 (0, 0)) (by (with_reducible repeat (first | refine blk_drewN ?_ _ | refine blk_drew ?_ | refine blk_alloc ?_ _)); exact BK276.out) hb); have n5_ := Aside0.mk (blk_below (g := gb282) (o := .cells #[.int .i64 t277, .int .i64 t278, .int .i64 t279, .int .i64 t280] 25 (0, 0)) (by (with_reducible repeat (first | refine blk_drewN ?_ _ | refine blk_drew ?_ | refine blk_alloc ?_ _)); exact BK282.out) hb); have n6_ := Aside0.mk (blk_below (g := gb288) (o := .cells #[.int .i64 t283, .int .i64 t284, .int .i64 t285, .int .i64 t286] 25 (0, 0)) (by (with_reducible repeat (first | refine blk_drewN ?_ _ | refine blk_drew ?_ | refine blk_alloc ?_ _)); exact BK288.out) hb); have n7_ := Aside0.mk (below_step (by repeat (first | (with_reducible first | exact HB.out | apply below_alloc | apply pw_below_drewN | apply below_drew1 | refine below_set ?_ GE259.out | refine below_set ?_ GE260.out | refine below_set ?_ GE261.out | refine below_set ?_ GE269.out | refine below_set ?_ GE276.out | refine below_set ?_ GE282.out | refine below_set ?_ GE288.out) | exact HB.out)) hb); clear BK259; clear BK260; clear BK261; clear BK269; clear BK276; clear BK282; clear BK288; clear HB; have BK259 := n0_; have BK260 := n1_; have BK261 := n2_; have BK269 := n3_; have BK276 := n4_; have BK282 := n5_; have BK288 := n6_; have HB := n7_; clear n0_ n1_ n2_ n3_ n4_ n5_ n6_ n7_; (try clear hb); (try clear hb2); (try clear hk); (try clear hi)) | ((with_reducible refine gate_dst (N := 19) rfl ?_); refine box_event ?hg (N := 19) ?hd (cs := #[.int .i64 0, .int .i64 0, .int .i64 0, .int .i64 0]) (t := 25) ?hr ?_; (case hd => rfl); (case hg => rfl); (case hr => first | (go_simp; done) | (go_simp; rfl)); intro gb296 hg w154 hbox hb; have n0_ := Aside0.mk (blk_below (g := gb259) (o := .cells #[.int .i64 a0_0, .bool a0_1] 23 (0, 0)) (by (with_reducible repeat (first | refine blk_drewN ?_ _ | refine blk_drew ?_ | refine blk_alloc ?_ _)); exact BK259.out) hb); have n1_ := Aside0.mk (blk_below (g := gb260) (o := .cells #[.int .i64 a1_0, .int .i64 a1_1, .int .i64 a1_2, .int .i64 a1_3, .int .i64 a1_4, .int .i64 a1_5, .int .i64 a1_6, .int .i64 a1_7] 31 (0, 0)) (by (with_reducible repeat (first | refine blk_drewN ?_ _ | refine blk_drew ?_ | refine blk_alloc ?_ _)); exact BK260.out) hb); have n2_ := Aside0.mk (blk_below (g := gb261) (o := .cells #[.int .i64 a2_0, .int .i64 a2_1] 36 (0, 0)) (by (with_reducible repeat (first | refine blk_drewN ?_ _ | refine blk_drew ?_ | refine blk_alloc ?_ _)); exact BK261.out) hb); have n3_ := Aside0.mk (blk_below (g := gb269) (o := .cells #[.int .i64 t264, .int .i64 t265, .int .i64 t266, .int .i64 t267] 25 (0, 0)) (by (with_reducible repeat (first | refine blk_drewN ?_ _ | refine blk_drew ?_ | refine blk_alloc ?_ _)); exact BK269.out) hb); have n4_ := Aside0.mk (blk_below (g := gb276) (o := .cells #[.int .i64 t271, .int .i64 t272, .int .i64 t273, .int .i64 t274] 25 (0, 0)) (by (with_reducible repeat (first | refine blk_drewN ?_ _ | refine blk_drew ?_ | refine blk_alloc ?_ _)); exact BK276.out) hb); have n5_ := Aside0.mk (blk_below (g := gb282) (o := .cells #[.int .i64 t277, .int .i64 t278, .int .i64 t279, .int .i64 t280] 25 (0, 0)) (by (with_reducible repeat (first | refine blk_drewN ?_ _ | refine blk_drew ?_ | refine blk_alloc ?_ _)); exact BK282.out) hb); have n6_ := Aside0.mk (blk_below (g := gb288) (o := .cells #[.int .i64 t283, .int .i64 t284, .int .i64 t285, .int .i64 t286] 25 (0, 0)) (by (with_reducible repeat (first | refine blk_drewN ?_ _ | refine blk_drew ?_ | refine blk_alloc ?_ _)); exact BK288.out) hb); have n7_ := Aside0.mk (below_step (by repeat (first | (with_reducible first | exact HB.out | apply below_alloc | apply pw_below_drewN | apply below_drew1 | refine below_set ?_ GE259.out | refine below_set ?_ GE260.out | refine below_set ?_ GE261.out | refine below_set ?_ GE269.out | refine below_set ?_ GE276.out | refine below_set ?_ GE282.out | refine below_set ?_ GE288.out) | exact HB.out)) hb); have n8_ := Aside0.mk (hbox); have n9_ := Aside0.mk ((by rw [hg]; exact (below_size (by repeat (first | (with_reducible first | exact HB.out | apply below_alloc | apply pw_below_drewN | apply below_drew1 | refine below_set ?_ GE259.out | refine below_set ?_ GE260.out | refine below_set ?_ GE261.out | refine below_set ?_ GE269.out | refine below_set ?_ GE276.out | refine below_set ?_ GE282.out | refine below_set ?_ GE288.out) | exact HB.out))) : w.heap.size ≤ gb296)); have n10_ := Aside0.mk ((by rw [hg]; exact (below_size (by repeat (first | (with_reducible first | exact HB.out | apply below_alloc | apply pw_below_drewN | apply below_drew1 | refine below_set ?_ GE259.out | refine below_set ?_ GE260.out | refine below_set ?_ GE261.out | refine below_set ?_ GE269.out | refine below_set ?_ GE276.out | refine below_set ?_ GE282.out | refine below_set ?_ GE288.out) | exact HB.out))) : w.heap.size ≤ gb296)); have n11_ := Aside0.mk ((by rw [hg]; exact Nat.ne_of_lt (blk_lt (g := gb259) (o := .cells #[.int .i64 a0_0, .bool a0_1] 23 (0, 0)) (by (with_reducible repeat (first | refine blk_drewN ?_ _ | refine blk_drew ?_ | refine blk_alloc ?_ _)); exact BK259.out)) : gb259 ≠ gb296)); have n12_ := Aside0.mk ((by rw [hg]; exact Nat.ne_of_gt (blk_lt (g := gb259) (o := .cells #[.int .i64 a0_0, .bool a0_1] 23 (0, 0)) (by (with_reducible repeat (first | refine blk_drewN ?_ _ | refine blk_drew ?_ | refine blk_alloc ?_ _)); exact BK259.out)) : gb296 ≠ gb259)); have n13_ := Aside0.mk ((by rw [hg]; exact Nat.ne_of_lt (blk_lt (g := gb260) (o := .cells #[.int .i64 a1_0, .int .i64 a1_1, .int .i64 a1_2, .int .i64 a1_3, .int .i64 a1_4, .int .i64 a1_5, .int .i64 a1_6, .int .i64 a1_7] 31 (0, 0)) (by (with_reducible repeat (first | refine blk_drewN ?_ _ | refine blk_drew ?_ | refine blk_alloc ?_ _)); exact BK260.out)) : gb260 ≠ gb296)); have n14_ := Aside0.mk ((by rw [hg]; exact Nat.ne_of_gt (blk_lt (g := gb260) (o := .cells #[.int .i64 a1_0, .int .i64 a1_1, .int .i64 a1_2, .int .i64 a1_3, .int .i64 a1_4, .int .i64 a1_5, .int .i64 a1_6, .int .i64 a1_7] 31 (0, 0)) (by (with_reducible repeat (first | refine blk_drewN ?_ _ | refine blk_drew ?_ | refine blk_alloc ?_ _)); exact BK260.out)) : gb296 ≠ gb260)); have n15_ := Aside0.mk ((by rw [hg]; exact Nat.ne_of_lt (blk_lt (g := gb261) (o := .cells #[.int .i64 a2_0, .int .i64 a2_1] 36 (0, 0)) (by (with_reducible repeat (first | refine blk_drewN ?_ _ | refine blk_drew ?_ | refine blk_alloc ?_ _)); exact BK261.out)) : gb261 ≠ gb296)); have n16_ := Aside0.mk ((by rw [hg]; exact Nat.ne_of_gt (blk_lt (g := gb261) (o := .cells #[.int .i64 a2_0, .int .i64 a2_1] 36 (0, 0)) (by (with_reducible repeat (first | refine blk_drewN ?_ _ | refine blk_drew ?_ | refine blk_alloc ?_ _)); exact BK261.out)) : gb296 ≠ gb261)); have n17_ := Aside0.mk ((by rw [hg]; exact Nat.ne_of_lt (blk_lt (g := gb269) (o := .cells #[.int .i64 t264, .int .i64 t265, .int .i64 t266, .int .i64 t267] 25 (0, 0)) (by (with_reducible repeat (first | refine blk_drewN ?_ _ | refine blk_drew ?_ | refine blk_alloc ?_ _)); exact BK269.out)) : gb269 ≠ gb296)); have n18_ := Aside0.mk ((by rw [hg]; exact Nat.ne_of_gt (blk_lt (g := gb269) (o := .cells #[.int .i64 t264, .int .i64 t265, .int .i64 t266, .int .i64 t267] 25 (0, 0)) (by (with_reducible repeat (first | refine blk_drewN ?_ _ | refine blk_drew ?_ | refine blk_alloc ?_ _)); exact BK269.out)) : gb296 ≠ gb269)); have n19_ := Aside0.mk ((by rw [hg]; exact Nat.ne_of_lt (blk_lt (g := gb276) (o := .cells #[.int .i64 t271, .int .i64 t272, .int .i64 t273, .int .i64 t274] 25 (0, 0)) (by (with_reducible repeat (first | refine blk_drewN ?_ _ | refine blk_drew ?_ | refine blk_alloc ?_ _)); exact BK276.out)) : gb276 ≠ gb296)); have n20_ := Aside0.mk ((by rw [hg]; exact Nat.ne_of_gt (blk_lt (g := gb276) (o := .cells #[.int .i64 t271, .int .i64 t272, .int .i64 t273, .int .i64 t274] 25 (0, 0)) (by (with_reducible repeat (first | refine blk_drewN ?_ _ | refine blk_drew ?_ | refine blk_alloc ?_ _)); exact BK276.out)) : gb296 ≠ gb276)); have n21_ := Aside0.mk ((by rw [hg]; exact Nat.ne_of_lt (blk_lt (g := gb282) (o := .cells #[.int .i64 t277, .int .i64 t278, .int .i64 t279, .int .i64 t280] 25 (0, 0)) (by (with_reducible repeat (first | refine blk_drewN ?_ _ | refine blk_drew ?_ | refine blk_alloc ?_ _)); exact BK282.out)) : gb282 ≠ gb296)); have n22_ := Aside0.mk ((by rw [hg]; exact Nat.ne_of_gt (blk_lt (g := gb282) (o := .cells #[.int .i64 t277, .int .i64 t278, .int .i64 t279, .int .i64 t280] 25 (0, 0)) (by (with_reducible repeat (first | refine blk_drewN ?_ _ | refine blk_drew ?_ | refine blk_alloc ?_ _)); exact BK282.out)) : gb296 ≠ gb282)); have n23_ := Aside0.mk ((by rw [hg]; exact Nat.ne_of_lt (blk_lt (g := gb288) (o := .cells #[.int .i64 t283, .int .i64 t284, .int .i64 t285, .int .i64 t286] 25 (0, 0)) (by (with_reducible repeat (first | refine blk_drewN ?_ _ | refine blk_drew ?_ | refine blk_alloc ?_ _)); exact BK288.out)) : gb288 ≠ gb296)); have n24_ := Aside0.mk ((by rw [hg]; exact Nat.ne_of_gt (blk_lt (g := gb288) (o := .cells #[.int .i64 t283, .int .i64 t284, .int .i64 t285, .int .i64 t286] 25 (0, 0)) (by (with_reducible repeat (first | refine blk_drewN ?_ _ | refine blk_drew ?_ | refine blk_alloc ?_ _)); exact BK288.out)) : gb296 ≠ gb288)); clear BK259; clear BK260; clear BK261; clear BK269; clear BK276; clear BK282; clear BK288; clear HB; have BK259 := n0_; have BK260 := n1_; have BK261 := n2_; have BK269 := n3_; have BK276 := n4_; have BK282 := n5_; have BK288 := n6_; have HB := n7_; have BK296 := n8_; have GW296 := n9_; have GE296 := n10_; have NB259_296 := n11_; have NB296_259 := n12_; have NB260_296 := n13_; have NB296_260 := n14_; have NB261_296 := n15_; have NB296_261 := n16_; have NB269_296 := n17_; have NB296_269 := n18_; have NB276_296 := n19_; have NB296_276 := n20_; have NB282_296 := n21_; have NB296_282 := n22_; have NB288_296 := n23_; have NB296_288 := n24_; clear n0_ n1_ n2_ n3_ n4_ n5_ n6_ n7_ n8_ n9_ n10_ n11_ n12_ n13_ n14_ n15_ n16_ n17_ n18_ n19_ n20_ n21_ n22_ n23_ n24_; clear hb hbox hg; have hnb155 := NB296_259.out; have hnc155 := NB259_296.out; have hnb156 := NB296_260.out; have hnc156 := NB260_296.out; have hnb157 := NB296_261.out; have hnc157 := NB261_296.out; have hnb158 := NB296_269.out; have hnc158 := NB269_296.out; have hnb159 := NB296_276.out; have hnc159 := NB276_296.out; have hnb160 := NB296_282.out; have hnc160 := NB282_296.out; have hnb161 := NB296_288.out; have hnc161 := NB288_296.out; have hcz162_0 : w154.cell? ⟨gb296, 0, none⟩ = some (.int .i64 0) := (blk_cell BK296.out 0).trans rfl; have hcz162_1 : w154.cell? ⟨gb296, 1, none⟩ = some (.int .i64 0) := (blk_cell BK296.out 1).trans rfl; have hcz162_2 : w154.cell? ⟨gb296, 2, none⟩ = some (.int .i64 0) := (blk_cell BK296.out 2).trans rfl; have hcz162_3 : w154.cell? ⟨gb296, 3, none⟩ = some (.int .i64 0) := (blk_cell BK296.out 3).trans rfl; have hfz162_0 := blk_frozen BK296.out 0; have hfz162_1 := blk_frozen BK296.out 1; have hfz162_2 := blk_frozen BK296.out 2; have hfz162_3 := blk_frozen BK296.out 3; have hcz163_0 : w154.cell? ⟨gb260, 0, none⟩ = some (.int .i64 a1_0) := (blk_cell BK260.out 0).trans rfl; have hcz163_1 : w154.cell? ⟨gb260, 1, none⟩ = some (.int .i64 a1_1) := (blk_cell BK260.out 1).trans rfl; have hcz163_2 : w154.cell? ⟨gb260, 2, none⟩ = some (.int .i64 a1_2) := (blk_cell BK260.out 2).trans rfl; have hcz163_3 : w154.cell? ⟨gb260, 3, none⟩ = some (.int .i64 a1_3) := (blk_cell BK260.out 3).trans rfl; have hcz163_4 : w154.cell? ⟨gb260, 4, none⟩ = some (.int .i64 a1_4) := (blk_cell BK260.out 4).trans rfl; have hcz163_5 : w154.cell? ⟨gb260, 5, none⟩ = some (.int .i64 a1_5) := (blk_cell BK260.out 5).trans rfl; have hcz163_6 : w154.cell? ⟨gb260, 6, none⟩ = some (.int .i64 a1_6) := (blk_cell BK260.out 6).trans rfl; have hcz163_7 : w154.cell? ⟨gb260, 7, none⟩ = some (.int .i64 a1_7) := (blk_cell BK260.out 7).trans rfl; have hfz163_0 := blk_frozen BK260.out 0; have hfz163_1 := blk_frozen BK260.out 1; have hfz163_2 := blk_frozen BK260.out 2; have hfz163_3 := blk_frozen BK260.out 3; have hfz163_4 := blk_frozen BK260.out 4; have hfz163_5 := blk_frozen BK260.out 5; have hfz163_6 := blk_frozen BK260.out 6; have hfz163_7 := blk_frozen BK260.out 7) | (go_at_call 14; (with_reducible refine (dioramalaw20_awake.calls kj92  t297 _ A136.out).mono ?_); rintro e w164 ⟨rfl, hb⟩; have n0_ := Aside0.mk (blk_below (g := gb259) (o := .cells #[.int .i64 a0_0, .bool a0_1] 23 (0, 0)) (by (with_reducible repeat (first | refine blk_drewN ?_ _ | refine blk_drew ?_ | refine blk_alloc ?_ _)); refine blk_far ?_ NB259_296.out _; (with_reducible repeat (first | refine blk_drewN ?_ _ | refine blk_drew ?_ | refine blk_alloc ?_ _)); refine blk_far ?_ NB259_296.out _; (with_reducible repeat (first | refine blk_drewN ?_ _ | refine blk_drew ?_ | refine blk_alloc ?_ _)); refine blk_far ?_ NB259_296.out _; (with_reducible repeat (first | refine blk_drewN ?_ _ | refine blk_drew ?_ | refine blk_alloc ?_ _)); refine blk_far ?_ NB259_296.out _; (with_reducible repeat (first | refine blk_drewN ?_ _ | refine blk_drew ?_ | refine blk_alloc ?_ _)); exact BK259.out) hb); have n1_ := Aside0.mk (blk_below (g := gb260) (o := .cells #[.int .i64 a1_0, .int .i64 a1_1, .int .i64 a1_2, .int .i64 a1_3, .int .i64 a1_4, .int .i64 a1_5, .int .i64 a1_6, .int .i64 a1_7] 31 (0, 0)) (by (with_reducible repeat (first | refine blk_drewN ?_ _ | refine blk_drew ?_ | refine blk_alloc ?_ _)); refine blk_far ?_ NB260_296.out _; (with_reducible repeat (first | refine blk_drewN ?_ _ | refine blk_drew ?_ | refine blk_alloc ?_ _)); refine blk_far ?_ NB260_296.out _; (with_reducible repeat (first | refine blk_drewN ?_ _ | refine blk_drew ?_ | refine blk_alloc ?_ _)); refine blk_far ?_ NB260_296.out _; (with_reducible repeat (first | refine blk_drewN ?_ _ | refine blk_drew ?_ | refine blk_alloc ?_ _)); refine blk_far ?_ NB260_296.out _; (with_reducible repeat (first | refine blk_drewN ?_ _ | refine blk_drew ?_ | refine blk_alloc ?_ _)); exact BK260.out) hb); have n2_ := Aside0.mk (blk_below (g := gb261) (o := .cells #[.int .i64 a2_0, .int .i64 a2_1] 36 (0, 0)) (by (with_reducible repeat (first | refine blk_drewN ?_ _ | refine blk_drew ?_ | refine blk_alloc ?_ _)); refine blk_far ?_ NB261_296.out _; (with_reducible repeat (first | refine blk_drewN ?_ _ | refine blk_drew ?_ | refine blk_alloc ?_ _)); refine blk_far ?_ NB261_296.out _; (with_reducible repeat (first | refine blk_drewN ?_ _ | refine blk_drew ?_ | refine blk_alloc ?_ _)); refine blk_far ?_ NB261_296.out _; (with_reducible repeat (first | refine blk_drewN ?_ _ | refine blk_drew ?_ | refine blk_alloc ?_ _)); refine blk_far ?_ NB261_296.out _; (with_reducible repeat (first | refine blk_drewN ?_ _ | refine blk_drew ?_ | refine blk_alloc ?_ _)); exact BK261.out) hb); have n3_ := Aside0.mk (blk_below (g := gb269) (o := .cells #[.int .i64 t264, .int .i64 t265, .int .i64 t266, .int .i64 t267] 25 (0, 0)) (by (with_reducible repeat (first | refine blk_drewN ?_ _ | refine blk_drew ?_ | refine blk_alloc ?_ _)); refine blk_far ?_ NB269_296.out _; (with_reducible repeat (first | refine blk_drewN ?_ _ | refine blk_drew ?_ | refine blk_alloc ?_ _)); refine blk_far ?_ NB269_296.out _; (with_reducible repeat (first | refine blk_drewN ?_ _ | refine blk_drew ?_ | refine blk_alloc ?_ _)); refine blk_far ?_ NB269_296.out _; (with_reducible repeat (first | refine blk_drewN ?_ _ | refine blk_drew ?_ | refine blk_alloc ?_ _)); refine blk_far ?_ NB269_296.out _; (with_reducible repeat (first | refine blk_drewN ?_ _ | refine blk_drew ?_ | refine blk_alloc ?_ _)); exact BK269.out) hb); have n4_ := Aside0.mk (blk_below (g := gb276) (o := .cells #[.int .i64 t271, .int .i64 t272, .int .i64 t273, .int .i64 t274] 25 (0, 0)) (by (with_reducible repeat (first | refine blk_drewN ?_ _ | refine blk_drew ?_ | refine blk_alloc ?_ _)); refine blk_far ?_ NB276_296.out _; (with_reducible repeat (first | refine blk_drewN ?_ _ | refine blk_drew ?_ | refine blk_alloc ?_ _)); refine blk_far ?_ NB276_296.out _; (with_reducible repeat (first | refine blk_drewN ?_ _ | refine blk_drew ?_ | refine blk_alloc ?_ _)); refine blk_far ?_ NB276_296.out _; (with_reducible repeat (first | refine blk_drewN ?_ _ | refine blk_drew ?_ | refine blk_alloc ?_ _)); refine blk_far ?_ NB276_296.out _; (with_reducible repeat (first | refine blk_drewN ?_ _ | refine blk_drew ?_ | refine blk_alloc ?_ _)); exact BK276.out) hb); have n5_ := Aside0.mk (blk_below (g := gb282) (o := .cells #[.int .i64 t277, .int .i64 t278, .int .i64 t279, .int .i64 t280] 25 (0, 0)) (by (with_reducible repeat (first | refine blk_drewN ?_ _ | refine blk_drew ?_ | refine blk_alloc ?_ _)); refine blk_far ?_ NB282_296.out _; (with_reducible repeat (first | refine blk_drewN ?_ _ | refine blk_drew ?_ | refine blk_alloc ?_ _)); refine blk_far ?_ NB282_296.out _; (with_reducible repeat (first | refine blk_drewN ?_ _ | refine blk_drew ?_ | refine blk_alloc ?_ _)); refine blk_far ?_ NB282_296.out _; (with_reducible repeat (first | refine blk_drewN ?_ _ | refine blk_drew ?_ | refine blk_alloc ?_ _)); refine blk_far ?_ NB282_296.out _; (with_reducible repeat (first | refine blk_drewN ?_ _ | refine blk_drew ?_ | refine blk_alloc ?_ _)); exact BK282.out) hb); have n6_ := Aside0.mk (blk_below (g := gb288) (o := .cells #[.int .i64 t283, .int .i64 t284, .int .i64 t285, .int .i64 t286] 25 (0, 0)) (by (with_reducible repeat (first | refine blk_drewN ?_ _ | refine blk_drew ?_ | refine blk_alloc ?_ _)); refine blk_far ?_ NB288_296.out _; (with_reducible repeat (first | refine blk_drewN ?_ _ | refine blk_drew ?_ | refine blk_alloc ?_ _)); refine blk_far ?_ NB288_296.out _; (with_reducible repeat (first | refine blk_drewN ?_ _ | refine blk_drew ?_ | refine blk_alloc ?_ _)); refine blk_far ?_ NB288_296.out _; (with_reducible repeat (first | refine blk_drewN ?_ _ | refine blk_drew ?_ | refine blk_alloc ?_ _)); refine blk_far ?_ NB288_296.out _; (with_reducible repeat (first | refine blk_drewN ?_ _ | refine blk_drew ?_ | refine blk_alloc ?_ _)); exact BK288.out) hb); have n7_ := Aside0.mk (blk_below (g := gb296) (o := .cells #[.int .i64 t291, .int .i64 t292, .int .i64 t293, .int .i64 t294] 25 (0, 0)) (by (with_reducible repeat (first | refine blk_drewN ?_ _ | refine blk_drew ?_ | refine blk_alloc ?_ _)); refine blk_put (cs := #[.int .i64 t291, .int .i64 t292, .int .i64 t293, .int .i64 0]) ?_ 3 _ rfl; (with_reducible repeat (first | refine blk_drewN ?_ _ | refine blk_drew ?_ | refine blk_alloc ?_ _)); refine blk_put (cs := #[.int .i64 t291, .int .i64 t292, .int .i64 0, .int .i64 0]) ?_ 2 _ rfl; (with_reducible repeat (first | refine blk_drewN ?_ _ | refine blk_drew ?_ | refine blk_alloc ?_ _)); refine blk_put (cs := #[.int .i64 t291, .int .i64 0, .int .i64 0, .int .i64 0]) ?_ 1 _ rfl; (with_reducible repeat (first | refine blk_drewN ?_ _ | refine blk_drew ?_ | refine blk_alloc ?_ _)); refine blk_put (cs := #[.int .i64 0, .int .i64 0, .int .i64 0, .int .i64 0]) ?_ 0 _ rfl; (with_reducible repeat (first | refine blk_drewN ?_ _ | refine blk_drew ?_ | refine blk_alloc ?_ _)); exact BK296.out) hb); have n8_ := Aside0.mk (below_step (by repeat (first | (with_reducible first | exact HB.out | apply below_alloc | apply pw_below_drewN | apply below_drew1 | refine below_set ?_ GE259.out | refine below_set ?_ GE260.out | refine below_set ?_ GE261.out | refine below_set ?_ GE269.out | refine below_set ?_ GE276.out | refine below_set ?_ GE282.out | refine below_set ?_ GE288.out | refine below_set ?_ GE296.out) | exact HB.out)) hb); clear BK259; clear BK260; clear BK261; clear BK269; clear BK276; clear BK282; clear BK288; clear BK296; clear HB; have BK259 := n0_; have BK260 := n1_; have BK261 := n2_; have BK269 := n3_; have BK276 := n4_; have BK282 := n5_; have BK288 := n6_; have BK296 := n7_; have HB := n8_; clear n0_ n1_ n2_ n3_ n4_ n5_ n6_ n7_ n8_; (try clear hb); (try clear hb2); (try clear hk); (try clear hi)))
                              go_ret
                              exact ⟨by first | rfl | (simp [errW_none, errW_some] <;> rfl) | (simp [*, errW_none, errW_some] <;> rfl), by repeat (first | (with_reducible first | exact HB.out | apply below_alloc | apply pw_below_drewN | apply below_drew1 | refine below_set ?_ GE259.out | refine below_set ?_ GE260.out | refine below_set ?_ GE261.out | refine below_set ?_ GE269.out | refine below_set ?_ GE276.out | refine below_set ?_ GE282.out | refine below_set ?_ GE288.out | refine below_set ?_ GE296.out) | exact HB.out)⟩
                            · rw [if_neg c135] at H
                              have c135b0 : (t291 == a1_4 && (t292 == a1_5 && (t293 == a1_6 && (t294 == a1_7)))) = false := by simpa using c135
                              (try (have c135b1 : decide (t291 = a1_4 && (t292 == a1_5 && (t293 == a1_6 && (t294 == a1_7)))) = false := by simpa using c135))
                              (try (have c135b2 : (t291 == a1_4 && (t292 == a1_5 && (t293 == a1_6 && (t294 == a1_7)))) = false := by simpa using c135))
                              (try (have c135b3 : ¬ (t291 = a1_4 && (t292 == a1_5 && (t293 == a1_6 && (t294 == a1_7)))) := by simpa using c135))
                              clear c135
                              exact absurd (Option.some.inj H) (by rw [hrt]; exact Bool.noConfusion)
                          · rw [if_neg c134] at H
                            have c134b0 : (t295 == 0) = false := beq_eq_false_iff_ne.mpr c134
                            have c134b1 : (t295 != 0) = true := bne_iff_ne.mpr c134
                            exact absurd (Option.some.inj H) (by rw [hrt]; exact Bool.noConfusion)
                        · rw [if_neg c133] at H
                          have c133b0 : decide (t289 < t262) = false := decide_eq_false c133
                          clear c133
                          exact absurd (Option.some.inj H) (by rw [hrt]; exact Bool.noConfusion)
                      · rw [if_neg c132] at H
                        have c132b0 : decide (0 ≤ t289) = false := decide_eq_false c132
                        clear c132
                        exact absurd (Option.some.inj H) (by rw [hrt]; exact Bool.noConfusion)
                    · rw [if_neg c130] at H
                      have c130b0 : (t290 == 0) = false := beq_eq_false_iff_ne.mpr c130
                      have c130b1 : (t290 != 0) = true := bne_iff_ne.mpr c130
                      replace H := Option.bind_eq_some_iff.mp H
                      obtain ⟨t298, A1650, H⟩ := H
                      replace H : (some t298) = some r := H
                      have A165 := Aside0.mk A1650
                      clear A1650
                      obtain rfl := Option.some.inj H
                      have hnb166 := NB259_260.out
                      have hnc166 := NB260_259.out
                      have hnb167 := NB259_261.out
                      have hnc167 := NB261_259.out
                      have hnb168 := NB259_269.out
                      have hnc168 := NB269_259.out
                      have hnb169 := NB259_276.out
                      have hnc169 := NB276_259.out
                      have hnb170 := NB259_282.out
                      have hnc170 := NB282_259.out
                      have hnb171 := NB259_288.out
                      have hnc171 := NB288_259.out
                      have hcz172_0 : wc.cell? ⟨gb259, 0, none⟩ = some (.int .i64 a0_0) := (blk_cell BK259.out 0).trans rfl
                      have hcz172_1 : wc.cell? ⟨gb259, 1, none⟩ = some (.bool a0_1) := (blk_cell BK259.out 1).trans rfl
                      have hfz172_0 := blk_frozen BK259.out 0
                      have hfz172_1 := blk_frozen BK259.out 1
                      have hnb173 := NB260_261.out
                      have hnc173 := NB261_260.out
                      have hnb174 := NB260_269.out
                      have hnc174 := NB269_260.out
                      have hnb175 := NB260_276.out
                      have hnc175 := NB276_260.out
                      have hnb176 := NB260_282.out
                      have hnc176 := NB282_260.out
                      have hnb177 := NB260_288.out
                      have hnc177 := NB288_260.out
                      have hcz178_0 : wc.cell? ⟨gb260, 0, none⟩ = some (.int .i64 a1_0) := (blk_cell BK260.out 0).trans rfl
                      have hcz178_1 : wc.cell? ⟨gb260, 1, none⟩ = some (.int .i64 a1_1) := (blk_cell BK260.out 1).trans rfl
                      have hcz178_2 : wc.cell? ⟨gb260, 2, none⟩ = some (.int .i64 a1_2) := (blk_cell BK260.out 2).trans rfl
                      have hcz178_3 : wc.cell? ⟨gb260, 3, none⟩ = some (.int .i64 a1_3) := (blk_cell BK260.out 3).trans rfl
                      have hcz178_4 : wc.cell? ⟨gb260, 4, none⟩ = some (.int .i64 a1_4) := (blk_cell BK260.out 4).trans rfl
                      have hcz178_5 : wc.cell? ⟨gb260, 5, none⟩ = some (.int .i64 a1_5) := (blk_cell BK260.out 5).trans rfl
                      have hcz178_6 : wc.cell? ⟨gb260, 6, none⟩ = some (.int .i64 a1_6) := (blk_cell BK260.out 6).trans rfl
                      have hcz178_7 : wc.cell? ⟨gb260, 7, none⟩ = some (.int .i64 a1_7) := (blk_cell BK260.out 7).trans rfl
                      have hfz178_0 := blk_frozen BK260.out 0
                      have hfz178_1 := blk_frozen BK260.out 1
                      have hfz178_2 := blk_frozen BK260.out 2
                      have hfz178_3 := blk_frozen BK260.out 3
                      have hfz178_4 := blk_frozen BK260.out 4
                      have hfz178_5 := blk_frozen BK260.out 5
                      have hfz178_6 := blk_frozen BK260.out 6
                      have hfz178_7 := blk_frozen BK260.out 7
                      go_wp2_with (first | ((with_reducible refine gate_callee (f := 17) rfl ?_); refine goesL_ (some 115) rfl rfl Try.func17 (by kernel_rfl) rfl #[.agg #[.int .i64 a0_0, .bool a0_1], .agg #[.int .i64 a1_0, .int .i64 a1_1, .int .i64 a1_2, .int .i64 a1_3], .agg #[.int .i64 a1_4, .int .i64 a1_5, .int .i64 a1_6, .int .i64 a1_7]] rfl (by (try simp only [List.map_toArray, List.map_cons, List.map_nil]); first | done | rfl | (simp only [List.length_drop, List.length_take]; rfl)) ?_; (with_reducible refine (code_Between.calls kj92 a0_0 a0_1 a1_0 a1_1 a1_2 a1_3 a1_4 a1_5 a1_6 a1_7 t289 t290 _ A129.out).mono ?_); rintro e w179 ⟨rfl, hb⟩; refine ⟨_, rfl, ?_⟩; have n0_ := Aside0.mk (blk_below (g := gb259) (o := .cells #[.int .i64 a0_0, .bool a0_1] 23 (0, 0)) (by (with_reducible repeat (first | refine blk_drewN ?_ _ | refine blk_drew ?_ | refine blk_alloc ?_ _)); exact BK259.out) hb); have n1_ := Aside0.mk (blk_below (g := gb260) (o := .cells #[.int .i64 a1_0, .int .i64 a1_1, .int .i64 a1_2, .int .i64 a1_3, .int .i64 a1_4, .int .i64 a1_5, .int .i64 a1_6, .int .i64 a1_7] 31 (0, 0)) (by (with_reducible repeat (first | refine blk_drewN ?_ _ | refine blk_drew ?_ | refine blk_alloc ?_ _)); exact BK260.out) hb); have n2_ := Aside0.mk (blk_below (g := gb261) (o := .cells #[.int .i64 a2_0, .int .i64 a2_1] 36 (0, 0)) (by (with_reducible repeat (first | refine blk_drewN ?_ _ | refine blk_drew ?_ | refine blk_alloc ?_ _)); exact BK261.out) hb); have n3_ := Aside0.mk (blk_below (g := gb269) (o := .cells #[.int .i64 t264, .int .i64 t265, .int .i64 t266, .int .i64 t267] 25 (0, 0)) (by (with_reducible repeat (first | refine blk_drewN ?_ _ | refine blk_drew ?_ | refine blk_alloc ?_ _)); exact BK269.out) hb); have n4_ := Aside0.mk (blk_below (g := gb276) (o := .cells #[.int .i64 t271, .int .i64 t272, .int .i64 t273, .int .i64 t274] 25 (0, 0)) (by (with_reducible repeat (first | refine blk_drewN ?_ _ | refine blk_drew ?_ | refine blk_alloc ?_ _)); exact BK276.out) hb); have n5_ := Aside0.mk (blk_below (g := gb282) (o := .cells #[.int .i64 t277, .int .i64 t278, .int .i64 t279, .int .i64 t280] 25 (0, 0)) (by (with_reducible repeat (first | refine blk_drewN ?_ _ | refine blk_drew ?_ | refine blk_alloc ?_ _)); exact BK282.out) hb); have n6_ := Aside0.mk (blk_below (g := gb288) (o := .cells #[.int .i64 t283, .int .i64 t284, .int .i64 t285, .int .i64 t286] 25 (0, 0)) (by (with_reducible repeat (first | refine blk_drewN ?_ _ | refine blk_drew ?_ | refine blk_alloc ?_ _)); exact BK288.out) hb); have n7_ := Aside0.mk (below_step (by repeat (first | (with_reducible first | exact HB.out | apply below_alloc | apply pw_below_drewN | apply below_drew1 | refine below_set ?_ GE259.out | refine below_set ?_ GE260.out | refine below_set ?_ GE261.out | refine below_set ?_ GE269.out | refine below_set ?_ GE276.out | refine below_set ?_ GE282.out | refine below_set ?_ GE288.out) | exact HB.out)) hb); clear BK259; clear BK260; clear BK261; clear BK269; clear BK276; clear BK282; clear BK288; clear HB; have BK259 := n0_; have BK260 := n1_; have BK261 := n2_; have BK269 := n3_; have BK276 := n4_; have BK282 := n5_; have BK288 := n6_; have HB := n7_; clear n0_ n1_ n2_ n3_ n4_ n5_ n6_ n7_; (try clear hb); (try clear hb2); (try clear hk); (try clear hi)) | ((with_reducible refine gate_callee (f := 14) rfl ?_); refine goesL_ (some 120) rfl rfl Try.func14 (by kernel_rfl) rfl #[] rfl (by (try simp only [List.map_toArray, List.map_cons, List.map_nil]); first | done | rfl | (simp only [List.length_drop, List.length_take]; rfl)) ?_; (with_reducible refine (dioramalaw20_awake.calls kj92  t298 _ A165.out).mono ?_); rintro e w180 ⟨rfl, hb⟩; refine ⟨_, rfl, ?_⟩; have n0_ := Aside0.mk (blk_below (g := gb259) (o := .cells #[.int .i64 a0_0, .bool a0_1] 23 (0, 0)) (by (with_reducible repeat (first | refine blk_drewN ?_ _ | refine blk_drew ?_ | refine blk_alloc ?_ _)); exact BK259.out) hb); have n1_ := Aside0.mk (blk_below (g := gb260) (o := .cells #[.int .i64 a1_0, .int .i64 a1_1, .int .i64 a1_2, .int .i64 a1_3, .int .i64 a1_4, .int .i64 a1_5, .int .i64 a1_6, .int .i64 a1_7] 31 (0, 0)) (by (with_reducible repeat (first | refine blk_drewN ?_ _ | refine blk_drew ?_ | refine blk_alloc ?_ _)); exact BK260.out) hb); have n2_ := Aside0.mk (blk_below (g := gb261) (o := .cells #[.int .i64 a2_0, .int .i64 a2_1] 36 (0, 0)) (by (with_reducible repeat (first | refine blk_drewN ?_ _ | refine blk_drew ?_ | refine blk_alloc ?_ _)); exact BK261.out) hb); have n3_ := Aside0.mk (blk_below (g := gb269) (o := .cells #[.int .i64 t264, .int .i64 t265, .int .i64 t266, .int .i64 t267] 25 (0, 0)) (by (with_reducible repeat (first | refine blk_drewN ?_ _ | refine blk_drew ?_ | refine blk_alloc ?_ _)); exact BK269.out) hb); have n4_ := Aside0.mk (blk_below (g := gb276) (o := .cells #[.int .i64 t271, .int .i64 t272, .int .i64 t273, .int .i64 t274] 25 (0, 0)) (by (with_reducible repeat (first | refine blk_drewN ?_ _ | refine blk_drew ?_ | refine blk_alloc ?_ _)); exact BK276.out) hb); have n5_ := Aside0.mk (blk_below (g := gb282) (o := .cells #[.int .i64 t277, .int .i64 t278, .int .i64 t279, .int .i64 t280] 25 (0, 0)) (by (with_reducible repeat (first | refine blk_drewN ?_ _ | refine blk_drew ?_ | refine blk_alloc ?_ _)); exact BK282.out) hb); have n6_ := Aside0.mk (blk_below (g := gb288) (o := .cells #[.int .i64 t283, .int .i64 t284, .int .i64 t285, .int .i64 t286] 25 (0, 0)) (by (with_reducible repeat (first | refine blk_drewN ?_ _ | refine blk_drew ?_ | refine blk_alloc ?_ _)); exact BK288.out) hb); have n7_ := Aside0.mk (below_step (by repeat (first | (with_reducible first | exact HB.out | apply below_alloc | apply pw_below_drewN | apply below_drew1 | refine below_set ?_ GE259.out | refine below_set ?_ GE260.out | refine below_set ?_ GE261.out | refine below_set ?_ GE269.out | refine below_set ?_ GE276.out | refine below_set ?_ GE282.out | refine below_set ?_ GE288.out) | exact HB.out)) hb); clear BK259; clear BK260; clear BK261; clear BK269; clear BK276; clear BK282; clear BK288; clear HB; have BK259 := n0_; have BK260 := n1_; have BK261 := n2_; have BK269 := n3_; have BK276 := n4_; have BK282 := n5_; have BK288 := n6_; have HB := n7_; clear n0_ n1_ n2_ n3_ n4_ n5_ n6_ n7_; (try clear hb); (try clear hb2); (try clear hk); (try clear hi)))
                      go_ret
                      exact ⟨by first | rfl | (simp [errW_none, errW_some] <;> rfl) | (simp [*, errW_none, errW_some] <;> rfl), by repeat (first | (with_reducible first | exact HB.out | apply below_alloc | apply pw_below_drewN | apply below_drew1 | refine below_set ?_ GE259.out | refine below_set ?_ GE260.out | refine below_set ?_ GE261.out | refine below_set ?_ GE269.out | refine below_set ?_ GE276.out | refine below_set ?_ GE282.out | refine below_set ?_ GE288.out) | exact HB.out)⟩

end Go.Proofs.Ytndbhfbgigefnaa.PA
