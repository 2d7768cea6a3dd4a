/- Whether a picture is valid: the document's; equal pictures; small ones. Plain theorems over the abstract machine.
   Conditions: none. -/
import Derived.Test.YtmkcngcnedjfkaaGreatBun2
import Derived.Test.YtmkcngcnedjfkaaGreatAmX
namespace Go.Proofs.YtmkcngcnedjfkaaGreat.It
open Go Go.RowKit Go.Proofs.YtmkcngcnedjfkaaGreat.Am Go.Proofs.YtmkcngcnedjfkaaGreat.Af Go.Proofs.YtmkcngcnedjfkaaGreat.Md
set_option linter.unusedVariables false
set_option linter.unusedSimpArgs false
set_option linter.defProp false
set_option maxRecDepth 20000
set_option maxHeartbeats 1000000

theorem c_most {h : Hp} {b : Int} (hb : 1 ≤ b ∧ b ≤ 12) : ACalls Tryz.prog 78 [.int .i64 b] h fun v h' => v = .int .i64 (topOf b) ∧ h' = h := by
  refine dioramaref14_most_ok.snd Af.hm rfl fun w => ?_
  rw [WF_eq, dioramaref14_most]
  obtain ⟨ht, t1, t2⟩ := top_shl hb
  have h0 : (0 : Int) ≤ b := by omega
  simp +contextual (disch := omega) only [↓AM, ↓AV, AP, CQ, ht, i64, h0, Int.add_sub_cancel]
theorem c_rcheck {h : Hp} {m : Im} {oa : Option Addr} {c : Nat} (r : R2 h oa m.pl) (hz : Sz m.pl) :
    ACalls Tryz.prog 30 [.agg (imC m oa c).toArray] h fun v h' => v = .int .i64 (pchk m) ∧ Fm No h h' := by
  refine dioramaref14_Check_ok.snd Af.hm rfl fun w => ?_
  rw [WF_eq, dioramaref14_Check]
  obtain ⟨h0, e0⟩ : ∃ g, h.new ⟨imC m oa c, .own⟩ = g := ⟨_, rfl⟩
  have w0 : Wf h0 := e0 ▸ w.new
  have f0 : Fm No h h0 := e0 ▸ Fm.new Fm.refl
  have g0 : h0.get h.size = some ⟨[.int .i64 m.wd, .int .i64 m.hg, .int .i64 m.bt, .slice oa m.pl.length c], .own⟩ := e0 ▸ gnew
  have r0 := r.keep w f0
  simp only [imC] at e0
  simp +contextual (disch := omega) only [↓AM, ↓AV, AP, CQ, imC, e0, rd_mk g0]
  refine c_in14.use ?_
  rintro _ h0 _ ⟨rfl, rfl⟩
  by_cases d1 : 1 ≤ m.wd ∧ m.wd ≤ 64
  case neg =>
    simp +contextual (disch := omega) only [↓AM, ↓AV, AP, CQ, rd_mk g0, d1]
    exact ⟨by rw [pchk_dim fun q => d1 q.1.1], f0⟩
  simp +contextual (disch := omega) only [↓AM, ↓AV, AP, CQ, rd_mk g0, d1]
  refine c_in14.use ?_
  rintro _ h0 _ ⟨rfl, rfl⟩
  by_cases d2 : 1 ≤ m.hg ∧ m.hg ≤ 64
  case neg =>
    simp +contextual (disch := omega) only [↓AM, ↓AV, AP, CQ, rd_mk g0, d2]
    exact ⟨by rw [pchk_dim fun q => d2 q.1.2], f0⟩
  simp +contextual (disch := omega) only [↓AM, ↓AV, AP, CQ, rd_mk g0, d2]
  refine c_in14.use ?_
  rintro _ h0 _ ⟨rfl, rfl⟩
  by_cases d3 : 1 ≤ m.bt ∧ m.bt ≤ 12
  case neg =>
    simp +contextual (disch := omega) only [↓AM, ↓AV, AP, CQ, rd_mk g0, d3]
    exact ⟨by rw [pchk_dim fun q => d3 q.2.1], f0⟩
  simp +contextual (disch := omega) only [↓AM, ↓AV, AP, CQ, rd_mk g0, d3]
  refine c_in14.use ?_
  rintro _ h0 _ ⟨rfl, rfl⟩
  by_cases d4 : 1 ≤ (m.pl.length : Int) ∧ (m.pl.length : Int) ≤ 4
  case neg =>
    simp +contextual (disch := omega) only [↓AM, ↓AV, AP, CQ, rd_mk g0, d4]
    exact ⟨by rw [pchk_dim fun q => d4 q.2.2], f0⟩
  have hd : dimOk m := ⟨⟨d1, d2⟩, d3, d4⟩
  have hm := mul_ok hd.1.1 hd.1.2
  simp +contextual (disch := omega) only [↓AM, ↓AV, AP, CQ, rd_mk g0, d4]
  refine WL.mk (fun k t h' => ∃ i : Nat, h0 = h' ∧ i ≤ m.pl.length ∧ k = m.pl.length - i ∧ (m.pl.take i).any (badLen m) = false ∧
    t = [(1, some (.pointer (some ⟨h.size, 0, none⟩))), (3, some (.int .i64 (i : Int)))]) ⟨m.pl.length, 0, rfl, by omega, rfl, rfl, rfl⟩ ?_
  rintro k t h' ⟨i, hh, hi, rfl, hall, rfl⟩
  subst h'
  by_cases hin : i < m.pl.length
  · obtain ⟨b1, o1, s1, ob, cc, l, e1, fl1, hl1, rr1, l1, q1⟩ := r0.at hin
    simp +contextual (disch := omega) only [↓AM, ↓AV, AP, CQ, hin, e1, fl1, rr1, rd_mk g0, i64]
    refine ⟨fun hne => ?_, fun heq => ?_⟩
    · have hb : badLen m l = true := decide_eq_true hne
      have hany : m.pl.any (badLen m) = true := List.any_eq_true.2 ⟨l, List.mem_of_getElem? hl1, hb⟩
      exact ⟨by unfold pchk; rw [if_neg (fun q => q hd), if_pos hany], f0⟩
    · have hb : badLen m l = false := decide_eq_false (fun q => q heq)
      exact ⟨m.pl.length - (i + 1), by omega, i + 1, by omega, rfl, by rw [List.take_add_one, hl1]; simpa [hall] using hb, rfl⟩
  · rw [List.take_of_length_le (by omega)] at hall
    have hl : ¬ m.pl.any (badLen m) = true := by rw [hall]; simp
    simp +contextual (disch := omega) only [↓AM, ↓AV, AP, CQ, hin, rd_mk g0]
    refine WL.mk (fun k t h' => ∃ i : Nat, h0 = h' ∧ i ≤ m.pl.length ∧ k = m.pl.length - i ∧ ((m.pl.take i).any fun l => l.any (badPix m.bt)) = false ∧
      t = [(1, some (.pointer (some ⟨h.size, 0, none⟩))), (4, some (.int .i64 (i : Int)))]) ⟨m.pl.length, 0, rfl, by omega, rfl, rfl, rfl⟩ ?_
    rintro k t h' ⟨j, hh, hj, rfl, hallp, rfl⟩
    subst h'
    by_cases hjn : j < m.pl.length
    · obtain ⟨b1, o1, s1, ob, cc, l, e1, fl1, hl1, rr1, l1, q1⟩ := r0.at hjn
      have hlz := hz.2 l (List.mem_of_getElem? hl1)
      simp +contextual (disch := omega) only [↓AM, ↓AV, AP, CQ, hjn, rd_mk g0]
      refine WL.mk (fun k t h' => ∃ x : Nat, h0 = h' ∧ x ≤ l.length ∧ k = l.length - x ∧ (l.take x).any (badPix m.bt) = false ∧
        t = [(1, some (.pointer (some ⟨h.size, 0, none⟩))), (4, some (.int .i64 (j : Int))), (5, some (.int .i64 (x : Int)))]) ⟨l.length, 0, rfl, by omega, rfl, rfl, rfl⟩ ?_
      rintro k t h' ⟨x, hh, hx, rfl, hallx, rfl⟩
      subst h'
      by_cases hxn : x < l.length
      · obtain ⟨b2, o2, s2, e2, fl2, v, hv, rr2⟩ := Rd.int q1 hxn
        simp +contextual (disch := omega) only [↓AM, ↓AV, AP, CQ, hjn, hxn, e1, fl1, rr1, e2, fl2, rr2, rd_mk g0]
        refine (c_most hd.2.1).use ?_
        rintro _ h0 _ ⟨rfl, rfl⟩
        rw [e2] at rr1
        simp +contextual (disch := omega) only [↓AM, ↓AV, AP, CQ, hjn, hxn, e1, fl1, rr1, fl2, rr2, rd_mk g0]
        refine c_in14.use ?_
        rintro _ h0 _ ⟨rfl, rfl⟩
        simp +contextual (disch := omega) only [↓AM, ↓AV, AP, CQ, hjn, hxn, fl1, rr1, fl2, rr2, rd_mk g0, i64]
        refine ⟨fun hne => ?_, fun heq => ?_⟩
        · have hb : badPix m.bt v = true := decide_eq_true hne
          have hany : (m.pl.any fun l => l.any (badPix m.bt)) = true := List.any_eq_true.2 ⟨l, List.mem_of_getElem? hl1, List.any_eq_true.2 ⟨v, List.mem_of_getElem? hv, hb⟩⟩
          exact ⟨by unfold pchk; rw [if_neg (fun q => q hd), if_neg hl, if_pos hany], f0⟩
        · have hb : badPix m.bt v = false := decide_eq_false (fun q => q heq)
          exact ⟨l.length - (x + 1), by omega, x + 1, by omega, rfl, by rw [List.take_add_one, hv]; simpa [hallx] using hb, rfl⟩
      · rw [List.take_of_length_le (by omega)] at hallx
        simp +contextual (disch := omega) only [↓AM, ↓AV, AP, CQ, hjn, hxn, e1, fl1, rr1, rd_mk g0, i64]
        exact ⟨m.pl.length - (j + 1), by omega, j + 1, by omega, rfl, by rw [List.take_add_one, hl1]; simpa [hallp] using hallx, rfl⟩
    · rw [List.take_of_length_le (by omega)] at hallp
      simp +contextual (disch := omega) only [↓AM, ↓AV, AP, CQ, hjn, rd_mk g0]
      exact ⟨by unfold pchk; rw [if_neg (fun q => q hd), if_neg hl, if_neg (by rw [hallp]; simp)], f0⟩
theorem c_EqImage {h : Hp} {x y : Im} {oa ob : Option Addr} {c d : Nat} (rx : R2 h oa x.pl) (ry : R2 h ob y.pl) (hz : Sz x.pl) :
    ACalls Tryz.prog 15 [.agg (imC x oa c).toArray, .agg (imC y ob d).toArray] h fun v h' => v = .bool (decide (x = y)) ∧ Fm No h h' := by
  refine dioramaref00_EqImage_ok.snd Af.hm rfl fun w => ?_
  rw [WF_eq, dioramaref00_EqImage]
  obtain ⟨h0, e0⟩ : ∃ g, h.new ⟨imC x oa c, .own⟩ = g := ⟨_, rfl⟩
  have w0 : Wf h0 := e0 ▸ w.new
  have f0 : Fm No h h0 := e0 ▸ Fm.new Fm.refl
  have g0 : h0.get h.size = some ⟨[.int .i64 x.wd, .int .i64 x.hg, .int .i64 x.bt, .slice oa x.pl.length c], .own⟩ := e0 ▸ gnew
  obtain ⟨h1, e1⟩ : ∃ g, h0.new ⟨imC y ob d, .own⟩ = g := ⟨_, rfl⟩
  have w1 : Wf h1 := e1 ▸ w0.new
  have f1 : Fm No h0 h1 := e1 ▸ Fm.new Fm.refl
  have g1 : h1.get h0.size = some ⟨[.int .i64 y.wd, .int .i64 y.hg, .int .i64 y.bt, .slice ob y.pl.length d], .own⟩ := e1 ▸ gnew
  have g01 := f1.keep w0 g0 (fun f => f)
  have f01 : Fm No h h1 := f0.trans f1 fun _ _ x => x
  simp only [imC] at e0 e1
  obtain ⟨xw, xh, xb, xl⟩ := x
  obtain ⟨yw, yh, yb, yl⟩ := y
  simp only [Im.wd, Im.hg, Im.bt, Im.pl] at *
  simp +contextual (disch := omega) only [↓AM, ↓AV, AP, CQ, imC, e0, e1, rd_mk g01, rd_mk g1]
  by_cases a1 : xw = yw
  case neg =>
    simp +contextual (disch := omega) only [↓AM, ↓AV, AP, CQ, rd_mk g01, rd_mk g1, EqI, a1]
    exact ⟨by simp [a1], f01⟩
  subst a1
  by_cases a2 : xh = yh
  case neg =>
    simp +contextual (disch := omega) only [↓AM, ↓AV, AP, CQ, rd_mk g01, rd_mk g1, EqI, a2]
    exact ⟨by simp [a2], f01⟩
  subst a2
  by_cases a3 : xb = yb
  case neg =>
    simp +contextual (disch := omega) only [↓AM, ↓AV, AP, CQ, rd_mk g01, rd_mk g1, EqI, a3]
    exact ⟨by simp [a3], f01⟩
  subst a3
  simp +contextual (disch := omega) only [↓AM, ↓AV, AP, CQ, rd_mk g01, rd_mk g1, eqI_self]
  refine (c_EqRows (rx.keep w f01) (ry.keep w f01) hz.1 hz.2).use ?_
  rintro _ h0 _ ⟨rfl, rfl⟩
  simp +contextual (disch := omega) only [↓AM, ↓AV, AP, CQ]
  exact ⟨by simp, f01⟩
/-- At most 8 planes of at most 5,000 numbers. -/
def plainB (m : Im) : Bool := (m.pl.all fun l => decide ((l.length : Int) ≤ 5000)) && decide ((m.pl.length : Int) ≤ 8)
theorem c_plain {h : Hp} {m : Im} {oa : Option Addr} {c : Nat} (r : R2 h oa m.pl) (hz : Sz m.pl) :
    ACalls Tryz.prog 12 [.agg (imC m oa c).toArray] h fun v h' => v = .bool (plainB m) ∧ Fm No h h' := by
  refine dioramalaw15_plain_ok.snd Af.hm rfl fun w => ?_
  rw [WF_eq, dioramalaw15_plain]
  obtain ⟨h0, e0⟩ : ∃ g, h.new ⟨imC m oa c, .own⟩ = g := ⟨_, rfl⟩
  have w0 : Wf h0 := e0 ▸ w.new
  have f0 : Fm No h h0 := e0 ▸ Fm.new Fm.refl
  have g0 : h0.get h.size = some ⟨[.int .i64 m.wd, .int .i64 m.hg, .int .i64 m.bt, .slice oa m.pl.length c], .own⟩ := e0 ▸ gnew
  have r0 := r.keep w f0
  have hz1 := hz.1
  simp only [imC] at e0
  simp +contextual (disch := omega) only [↓AM, ↓AV, AP, CQ, imC, e0, rd_mk g0]
  refine WL.mk (fun k t h' => ∃ i : Nat, h0 = h' ∧ i ≤ m.pl.length ∧ k = m.pl.length - i ∧ ((m.pl.take i).all fun l => decide ((l.length : Int) ≤ 5000)) = true ∧
    t = [(1, some (.pointer (some ⟨h.size, 0, none⟩))), (3, some (.int .i64 (i : Int)))]) ⟨m.pl.length, 0, rfl, by omega, rfl, rfl, rfl⟩ ?_
  rintro k t h' ⟨i, hh, hi, rfl, hall, rfl⟩
  subst h'
  by_cases hin : i < m.pl.length
  · obtain ⟨b1, o1, s1, ob, cc, l, e1, fl1, hl1, rr1, l1, q1⟩ := r0.at hin
    simp +contextual (disch := omega) only [↓AM, ↓AV, AP, CQ, hin, e1, fl1, rr1, rd_mk g0, i64]
    refine ⟨fun hne => ?_, fun heq => ?_⟩
    · have : plainB m = false := by
        unfold plainB
        rw [Bool.and_eq_false_iff]
        left
        rw [List.all_eq_false]
        exact ⟨l, List.mem_of_getElem? hl1, by simp; omega⟩
      exact ⟨by rw [this], f0⟩
    · exact ⟨m.pl.length - (i + 1), by omega, i + 1, by omega, rfl, by rw [List.take_add_one, hl1]; simp only [List.all_append, hall]; simp; omega, rfl⟩
  · rw [List.take_of_length_le (by omega)] at hall
    simp +contextual (disch := omega) only [↓AM, ↓AV, AP, CQ, hin, rd_mk g0]
    exact ⟨by unfold plainB; rw [hall]; simp, f0⟩
end Go.Proofs.YtmkcngcnedjfkaaGreat.It

/- The law's own small pictures, carried out. Plain theorems over the abstract machine.
   Conditions: none. -/
namespace Go.Proofs.YtmkcngcnedjfkaaGreat.It
open Go Go.RowKit Go.Proofs.YtmkcngcnedjfkaaGreat.Am Go.Proofs.YtmkcngcnedjfkaaGreat.Af
set_option maxRecDepth 20000

def awakeTab : List (Nat × AF) := [(13, item_Turn), (15, dioramaref00_EqImage), (16, dioramalaw15_awake), (19, item_Check), (23, dioramaref00_EqInts), (32, item_Render), (47, picture_Check), (48, item_within), (49, item_turned), (52, dioramaref00_EqRows), (53, item_ranges), (54, item_unused), (55, item_find), (56, slices_ContainsFunc___int_int_), (57, item_Check_1), (58, item_loops), (63, item_ready), (64, item_order), (67, item_clone), (68, item_put), (70, item_side), (71, item_shapeOf), (72, item_gridShape), (73, item_tiled), (79, item_made), (103, picture_within), (104, slices_ContainsFunc_____int___int_), (105, picture_Check_1), (106, picture_Check_2), (107, item_blank), (108, slices_Reverse___int_int_), (109, item_ranges_1), (110, item_ranges_2), (111, slices_IndexFunc___api_Item_api_Item_), (112, item_find_1), (113, slices_IndexFunc___int_int_), (114, item_loops_1), (116, item_order_1), (117, slices_Contains___int_int_), (119, slices_Clone_____int___int_), (120, slices_Clone___int_int_), (157, slices_IndexFunc_____int___int_), (158, slices_Index___int_int_), (260, slices_Repeat___int_int_), (275, bits_Mul), (294, bits_Mul32), (295, bits_Mul64), (320, item_sameItem__draw), (321, item_sameItem__shape), (322, item_overItem__draw), (323, item_overItem__shape), (324, item_overItem__shape_1), (325, item_gridItem__draw), (326, item_gridItem__shape)]
theorem awakeTab_ok : TabL Tryz.prog awakeTab := ⟨item_Turn_ok, dioramaref00_EqImage_ok, dioramalaw15_awake_ok, item_Check_ok, dioramaref00_EqInts_ok, item_Render_ok, picture_Check_ok, item_within_ok, item_turned_ok, dioramaref00_EqRows_ok, item_ranges_ok, item_unused_ok, item_find_ok, slices_ContainsFunc___int_int__ok, item_Check_1_ok, item_loops_ok, item_ready_ok, item_order_ok, item_clone_ok, item_put_ok, item_side_ok, item_shapeOf_ok, item_gridShape_ok, item_tiled_ok, item_made_ok, picture_within_ok, slices_ContainsFunc_____int___int__ok, picture_Check_1_ok, picture_Check_2_ok, item_blank_ok, slices_Reverse___int_int__ok, item_ranges_1_ok, item_ranges_2_ok, slices_IndexFunc___api_Item_api_Item__ok, item_find_1_ok, slices_IndexFunc___int_int__ok, item_loops_1_ok, item_order_1_ok, slices_Contains___int_int__ok, slices_Clone_____int___int__ok, slices_Clone___int_int__ok, slices_IndexFunc_____int___int__ok, slices_Index___int_int__ok, slices_Repeat___int_int__ok, bits_Mul_ok, bits_Mul32_ok, bits_Mul64_ok, item_sameItem__draw_ok, item_sameItem__shape_ok, item_overItem__draw_ok, item_overItem__shape_ok, item_overItem__shape_1_ok, item_gridItem__draw_ok, item_gridItem__shape_ok, trivial⟩
theorem awake_run : xIs (xCall (tabOf awakeTab) 4000 16 []) (.bool true) = true := by kernel_rfl
theorem c_awake (h : Hp) : ACalls Tryz.prog 16 [] h fun v h' => v = .bool true ∧ h' = h := xCall_ok Af.hm (TabL.tab awakeTab_ok) awake_run rfl rfl h
end Go.Proofs.YtmkcngcnedjfkaaGreat.It

/- Items, read; the place of an item. Plain theorems over the abstract machine.
   Conditions: none. -/
namespace Go.Proofs.YtmkcngcnedjfkaaGreat.Is
open Go Go.RowKit Go.Proofs.YtmkcngcnedjfkaaGreat.Am Go.Proofs.YtmkcngcnedjfkaaGreat.Af Go.Proofs.YtmkcngcnedjfkaaGreat.Md Go.Proofs.YtmkcngcnedjfkaaGreat.It
set_option linter.unusedVariables false
set_option linter.unusedSimpArgs false
set_option linter.defProp false
set_option maxRecDepth 20000
set_option maxHeartbeats 2000000

abbrev Im_ := Int × Int × List Int × List Int × List Int × Int × Int × Int × Int × List Int × Int × Bool
abbrev Item := Im_
abbrev Item.id (x : Item) : Int := x.1
abbrev Item.kd (x : Item) : Int := x.2.1
abbrev Item.dt (x : Item) : List Int := x.2.2.1
abbrev Item.of (x : Item) : List Int := x.2.2.2.1
abbrev Item.at_ (x : Item) : List Int := x.2.2.2.2.1
abbrev Item.rows (x : Item) : Int := x.2.2.2.2.2.1
abbrev Item.cols (x : Item) : Int := x.2.2.2.2.2.2.1
abbrev Item.wd (x : Item) : Int := x.2.2.2.2.2.2.2.1
abbrev Item.hg (x : Item) : Int := x.2.2.2.2.2.2.2.2.1
abbrev Item.fl (x : Item) : List Int := x.2.2.2.2.2.2.2.2.2.1
abbrev Item.tn (x : Item) : Int := x.2.2.2.2.2.2.2.2.2.2.1
abbrev Item.fp (x : Item) : Bool := x.2.2.2.2.2.2.2.2.2.2.2
/-- Where an item's slices lie. -/
structure IA where
  da : Option Addr
  dc : Nat
  oa : Option Addr
  oc : Nat
  aa : Option Addr
  ac : Nat
  fa : Option Addr
  fc : Nat
def itC (x : Item) (p : IA) : List Value := [.int .i64 x.id, .int .i64 x.kd, .slice p.da x.dt.length p.dc, .slice p.oa x.of.length p.oc, .slice p.aa x.at_.length p.ac, .int .i64 x.rows, .int .i64 x.cols, .int .i64 x.wd, .int .i64 x.hg, .slice p.fa x.fl.length p.fc, .int .i64 x.tn, .bool x.fp]
structure RI (h : Hp) (x : Item) (p : IA) : Prop where
  dt : Rd h 1 p.da x.dt.length (x.dt.map (Value.int .u8))
  of : Rd h 1 p.oa x.of.length (iV x.of)
  at_ : Rd h 1 p.aa x.at_.length (iV x.at_)
  fl : Rd h 1 p.fa x.fl.length (iV x.fl)
theorem RI.keep {h h' : Hp} {x : Item} {p : IA} (w : Wf h) (r : RI h x p) (f : Fm No h h') : RI h' x p :=
  ⟨r.dt.keep w f (fun _ _ => id), r.of.keep w f (fun _ _ => id), r.at_.keep w f (fun _ _ => id), r.fl.keep w f (fun _ _ => id)⟩
/-- A slice of items, read. -/
def RL (h : Hp) (oa : Option Addr) (ls : List Item) : Prop :=
  ∃ cs : List Value, Rd h 12 oa ls.length cs ∧ ∀ (i : Nat) (x : Item), ls[i]? = some x → ∃ p, (cs.drop (i * 12)).take 12 = itC x p ∧ RI h x p
theorem RL.keep {h h' : Hp} {oa : Option Addr} {ls : List Item} (w : Wf h) (r : RL h oa ls) (f : Fm No h h') : RL h' oa ls := by
  obtain ⟨cs, r1, r2⟩ := r
  exact ⟨cs, r1.keep w f (fun _ _ => id), fun i l hl => let ⟨p, a, b⟩ := r2 i l hl; ⟨p, a, b.keep w f⟩⟩
theorem RL.at {h : Hp} {oa : Option Addr} {ls : List Item} (r : RL h oa ls) {i : Nat} (hi : i < ls.length) :
    ∃ b off sp p x, oa = some ⟨b, off, sp⟩ ∧ flagOk sp = true ∧ ls[i]? = some x ∧ h.rdN b (off + i * 12) 12 = some (itC x p) ∧ RI h x p := by
  obtain ⟨cs, r1, r2⟩ := r
  obtain ⟨b, off, sp, e, f1, hr⟩ := r1.pos (by omega)
  obtain ⟨p, h1, h2⟩ := r2 i ls[i] (List.getElem?_eq_getElem hi)
  have h4 := rdN_sub (k := i * 12) (l := 12) hr (by omega)
  rw [h1] at h4
  exact ⟨b, off, sp, p, _, e, f1, List.getElem?_eq_getElem hi, h4, h2⟩
abbrev itK : AKd Item := AKd.pair (AKd.int .i64) (AKd.pair (AKd.int .i64) (AKd.pair (AKd.slice (AKd.int .u8)) (AKd.pair (AKd.slice (AKd.int .i64)) (AKd.pair (AKd.slice (AKd.int .i64)) (AKd.pair (AKd.int .i64) (AKd.pair (AKd.int .i64) (AKd.pair (AKd.int .i64) (AKd.pair (AKd.int .i64) (AKd.pair (AKd.slice (AKd.int .i64)) (AKd.pair (AKd.int .i64) AKd.bool))))))))))
theorem ints1 {k : IntKind} {h : Hp} {xs : List Int} {cs : List Value} (a : (AKd.slice (AKd.int k)).A h xs cs) : ∃ oa c, cs = [.slice oa xs.length c] ∧ Rd h 1 oa xs.length (xs.map (Value.int k)) := by
  obtain ⟨u, rfl⟩ : ∃ u, cs = [u] := by
    obtain ⟨oa, c, r, h1, _⟩ := a
    exact ⟨_, h1⟩
  obtain ⟨oa, c, rfl, r⟩ := AKd.ints a
  exact ⟨oa, c, rfl, r⟩
theorem it_open {h : Hp} {x : Item} {cs : List Value} (a : itK.A h x cs) : ∃ p, cs = itC x p ∧ RI h x p := by
  obtain ⟨c1, d1, rfl, h1, c2, d2, rfl, h2, c3, d3, rfl, h3, c4, d4, rfl, h4, c5, d5, rfl, h5, c6, d6, rfl, h6, c7, d7, rfl, h7, c8, d8, rfl, h8, c9, d9, rfl, h9, c10, d10, rfl, h10, c11, d11, rfl, h11, h12⟩ := a
  have h1 : c1 = [.int .i64 x.id] := h1
  have h2 : c2 = [.int .i64 x.kd] := h2
  have h6 : c6 = [.int .i64 x.rows] := h6
  have h7 : c7 = [.int .i64 x.cols] := h7
  have h8 : c8 = [.int .i64 x.wd] := h8
  have h9 : c9 = [.int .i64 x.hg] := h9
  have h11 : c11 = [.int .i64 x.tn] := h11
  have h12 : d11 = [.bool x.fp] := h12
  obtain ⟨a3, n3, rfl, r3⟩ := ints1 h3
  obtain ⟨a4, n4, rfl, r4⟩ := ints1 h4
  obtain ⟨a5, n5, rfl, r5⟩ := ints1 h5
  obtain ⟨a10, n10, rfl, r10⟩ := ints1 h10
  subst h1 h2 h6 h7 h8 h9 h11 h12
  exact ⟨⟨a3, n3, a4, n4, a5, n5, a10, n10⟩, rfl, ⟨r3, r4, r5, r10⟩⟩
theorem RL.of {h : Hp} {ls : List Item} {cs : List Value} (a : (AKd.slice itK).A h ls cs) : ∃ oa c, cs = [.slice oa ls.length c] ∧ RL h oa ls := by
  obtain ⟨oa, c, r, h1, h2, h3, h4⟩ := a
  refine ⟨oa, c, h1, ⟨r, h2, fun i l hl => ?_⟩⟩
  have hg := AKd.Row.get (z := 12) (fun x cs h => itK.alen h) h3 hl
  exact it_open hg
/-- Lengths that fit in memory. -/
structure SI (x : Item) : Prop where
  dt : x.dt.length ≤ 140737488351232
  of : x.of.length ≤ 140737488351232
  at_ : x.at_.length ≤ 140737488351232
  fl : x.fl.length ≤ 140737488351232
def SL (ls : List Item) : Prop := ls.length ≤ 140737488351232 ∧ ∀ x ∈ ls, SI x
/-! ### small -/
def bigB (x : Item) : Bool := (decide (20000 < (x.dt.length : Int)) && decide ((x.dt.length : Int) ≤ 65536)) || (decide (100 < (x.of.length : Int)) || (decide (100 < (x.at_.length : Int)) || decide (100 < (x.fl.length : Int))))
def smallB (ls : List Item) : Bool := (ls.all fun x => !bigB x) && decide ((ls.length : Int) ≤ 16)
theorem all_take_S {α : Type} {p : α → Bool} {ls : List α} {i : Nat} {m : α} (h : (ls.take i).all p = true) (hm : ls[i]? = some m) (hp : p m = true) : (ls.take (i + 1)).all p = true := by
  rw [List.take_add_one, hm, List.all_append, h]
  simp [hp]
theorem c_small {h : Hp} {ls : List Item} {oa : Option Addr} {c : Nat} (r : RL h oa ls) (hz : SL ls) :
    ACalls Tryz.prog 18 [.slice oa ls.length c] h fun v h' => v = .bool (smallB ls) ∧ Fm No h h' := by
  refine dioramalaw15_small_ok.snd Af.hm rfl fun w => ?_
  rw [WF_eq, dioramalaw15_small]
  have hz1 := hz.1
  simp +contextual (disch := omega) only [↓AM, ↓AV, AP, CQ]
  refine WL.mk (fun k t h' => ∃ (i : Nat), Wf h' ∧ Fm No h h' ∧ i ≤ ls.length ∧ k = ls.length - i ∧ (ls.take i).all (fun x => !bigB x) = true ∧
      t = [(0, some (.slice oa ls.length c)), (3, some (.int .i64 (i : Int)))])
    ⟨ls.length, 0, w, Fm.refl, by omega, rfl, rfl, rfl⟩ ?_
  rintro k t h1 ⟨i, w1, f1, hi, rfl, ha, rfl⟩
  by_cases hin : i < ls.length
  · obtain ⟨b, off, sp, p, x, rfl, fo, hm, hr, ri⟩ := (r.keep w f1).at hin
    obtain ⟨h2, e2⟩ : ∃ g, h1.new ⟨itC x p, .own⟩ = g := ⟨_, rfl⟩
    have w2 : Wf h2 := e2 ▸ w1.new
    have f2 : Fm No h1 h2 := e2 ▸ Fm.new Fm.refl
    have g2 : h2.get h1.size = some ⟨itC x p, .own⟩ := e2 ▸ gnew
    have f12 := f1.trans f2 fun _ _ x => x
    simp only [itC] at e2 hr g2
    have bad : bigB x = true → smallB ls = false := fun hb => by
      unfold smallB
      have : (ls.all fun x => !bigB x) = false := by
        rw [Bool.eq_false_iff]
        intro ht
        have := List.all_eq_true.1 ht x (List.mem_of_getElem? hm)
        rw [hb] at this
        cases this
      rw [this]; rfl
    have nx : bigB x = false → ∃ m, m < ls.length - i ∧ ∃ i', Wf h2 ∧ Fm No h h2 ∧ i' ≤ ls.length ∧ m = ls.length - i' ∧ (ls.take i').all (fun x => !bigB x) = true ∧ [(0, some (Value.slice (some ⟨b, off, sp⟩) ls.length c)), (3, some (Value.int .i64 (IntKind.i64.wrap ((i : Int) + 1))))] = [(0, some (Value.slice (some ⟨b, off, sp⟩) ls.length c)), (3, some (Value.int .i64 (i' : Int)))] := fun hb =>
      ⟨ls.length - (i + 1), by omega, i + 1, w2, f12, by omega, rfl, all_take_S ha hm (by rw [hb]; rfl), by rw [i64 (by omega)]; rfl⟩
    by_cases c1 : 20000 < (x.dt.length : Int) <;> by_cases c2 : (x.dt.length : Int) ≤ 65536 <;> by_cases c3 : 100 < (x.of.length : Int) <;> by_cases c4 : 100 < (x.at_.length : Int) <;> by_cases c5 : 100 < (x.fl.length : Int) <;>
      simp +contextual (disch := omega) only [↓AM, ↓AV, AP, CQ, hin, fo, hr, e2, rd_mk g2, c1, c2, c3, c4, c5, gt_iff_lt] <;>
      first
        | exact ⟨by rw [bad (by unfold bigB; simp only [c1, c2, c3, c4, c5, decide_true, decide_false, Bool.and_true, Bool.and_false, Bool.or_true, Bool.or_false, Bool.true_or, Bool.false_or])], f12⟩
        | exact nx (by unfold bigB; simp only [c1, c2, c3, c4, c5, decide_true, decide_false, Bool.and_true, Bool.and_false, Bool.or_true, Bool.or_false])
  · have hie : i = ls.length := by omega
    subst hie
    rw [List.take_length] at ha
    simp +contextual (disch := omega) only [↓AM, ↓AV, AP, CQ, hin]
    exact ⟨by unfold smallB; rw [ha]; simp, f1⟩
end Go.Proofs.YtmkcngcnedjfkaaGreat.Is

/- The place of an item; its numbers' ranges. Plain theorems over the abstract machine.
   Conditions: none. -/
namespace Go.Proofs.YtmkcngcnedjfkaaGreat.Is
open Go Go.RowKit Go.Proofs.YtmkcngcnedjfkaaGreat.Am Go.Proofs.YtmkcngcnedjfkaaGreat.Af Go.Proofs.YtmkcngcnedjfkaaGreat.Md Go.Proofs.YtmkcngcnedjfkaaGreat.It
set_option linter.unusedVariables false
set_option linter.unusedSimpArgs false
set_option linter.defProp false
set_option maxRecDepth 20000
set_option maxHeartbeats 4000000

/-- The first place, from n on, or -1. -/
def pI (p : Item → Bool) : Nat → List Item → Int
  | _, [] => -1
  | n, x :: xs => if p x = true then (n : Int) else pI p (n + 1) xs
theorem pI_hit {p : Item → Bool} : ∀ {ls : List Item} {n i : Nat} {x : Item}, (ls.take i).all (fun x => !p x) = true → ls[i]? = some x → p x = true → pI p n ls = ((n + i : Nat) : Int)
  | [], n, i, x, _, h, _ => by simp at h
  | y :: ys, n, 0, x, _, h, hp => by
    simp at h
    subst h
    exact if_pos hp
  | y :: ys, n, i + 1, x, ha, h, hp => by
    rw [List.take_succ_cons, List.all_cons, Bool.and_eq_true] at ha
    show (if p y = true then _ else pI p (n + 1) ys) = _
    rw [if_neg (by intro e; rw [e] at ha; cases ha.1), pI_hit ha.2 (by simpa using h) hp]
    congr 1
    omega
theorem pI_none {p : Item → Bool} : ∀ {ls : List Item} {n : Nat}, ls.all (fun x => !p x) = true → pI p n ls = -1
  | [], n, _ => rfl
  | y :: ys, n, ha => by
    rw [List.all_cons, Bool.and_eq_true] at ha
    show (if p y = true then _ else pI p (n + 1) ys) = _
    rw [if_neg (by intro e; rw [e] at ha; cases ha.1), pI_none ha.2]
def fI (ls : List Item) (id : Int) : Int := pI (fun x => decide (x.id = id)) 0 ls
theorem c_find1 {h : Hp} {x : Item} {p : IA} {b : Nat} {o : Ob} {id : Int} (hg : h.get b = some ⟨[.int .i64 id], .own⟩) :
    ACalls Tryz.prog 112 [.agg (itC x p).toArray, .pointer (some ⟨b, 0, none⟩)] h fun v h' => v = .bool (decide (x.id = id)) ∧ Fm No h h' := by
  refine item_find_1_ok.snd Af.hm rfl fun w => ?_
  rw [WF_eq, item_find_1]
  obtain ⟨ha, ea⟩ : ∃ g, h.new ⟨itC x p, .own⟩ = g := ⟨_, rfl⟩
  have wa : Wf ha := ea ▸ w.new
  have fa : Fm No h ha := ea ▸ Fm.new Fm.refl
  have ga : ha.get h.size = some ⟨itC x p, .own⟩ := ea ▸ gnew
  have gb := fa.keep w hg (fun f => f)
  simp only [itC] at ea ga
  simp +contextual (disch := omega) only [↓AM, ↓AV, AP, CQ, itC, ea, rd_mk ga, rd_mk gb]
  by_cases h1 : x.id = id
  · simp +contextual (disch := omega) only [EqI, h1]
    exact ⟨by simp, fa⟩
  · simp +contextual (disch := omega) only [EqI, h1]
    exact ⟨by simp, fa⟩
theorem c_IdxItems {h : Hp} {a : Option Addr} {c f : Nat} {us vs : Array Value} {ls : List Item} {p : Item → Bool} (ha : RL h a ls) (hn : ls.length ≤ 140737488351232) (hf : okF Tryz.prog f = true)
    (hp : ∀ x ∈ ls, ∀ q h1, Fm No h h1 → Wf h1 → ACalls Tryz.prog f (us.toList ++ [.agg (itC x q).toArray] ++ vs.toList) h1 fun v h' => v = .bool (p x) ∧ Fm No h1 h') :
    ACalls Tryz.prog 111 [.slice a ls.length c, .func (.func f) us vs] h fun v h' => v = .int .i64 (pI p 0 ls) ∧ Fm No h h' := by
  refine slices_IndexFunc___api_Item_api_Item__ok.snd Af.hm rfl fun w => ?_
  rw [WF_eq, slices_IndexFunc___api_Item_api_Item_]
  simp +contextual only [↓AM, ↓AV, AP]
  refine WL.mk (fun k t h' => Wf h' ∧ Fm No h h' ∧ ∃ i : Nat, i ≤ ls.length ∧ k = ls.length - i ∧ (ls.take i).all (fun x => !p x) = true ∧ t = [(0, some (.slice a ls.length c)), (1, some (.func (.func f) us vs)), (7, some (.int .i64 ls.length)), (8, some (.int .i64 i))]) ⟨ls.length, w, Fm.refl, 0, by omega, rfl, rfl, rfl⟩ ?_
  rintro k t h1 ⟨w1, fm, i, hi, rfl, hall, rfl⟩
  by_cases hin : i < ls.length
  · obtain ⟨b1, o1, s1, q, x, rfl, f1, hl, r1, ri⟩ := (ha.keep w fm).at hin
    have hq := hp x (List.mem_of_getElem? hl) q _ fm w1
    simp only [itC] at r1 hq
    simp +contextual only [↓AM, ↓AV, AP, f1, r1, hin]
    refine ⟨hf, hq.use ?_⟩
    rintro _ h2 w2 ⟨rfl, fm2⟩
    have fm' := fm.trans fm2 (fun _ _ x => x)
    simp +contextual only [↓AM, ↓AV, AP]
    refine ⟨fun hpu => ⟨?_, fm'⟩, fun hpu => ⟨_, ?_, w2, fm', i + 1, hin, rfl, ?_, ?_⟩⟩
    · rw [pI_hit hall hl hpu, Nat.zero_add]
    · omega
    · exact all_take_S hall hl (by simp [hpu])
    · rw [i64 (by omega)]; rfl
  · simp +contextual only [↓AM, ↓AV, AP, hin]
    rw [List.take_of_length_le (by omega)] at hall
    exact ⟨by rw [pI_none hall], fm⟩
theorem c_find {h : Hp} {ls : List Item} {oa : Option Addr} {c : Nat} {id : Int} (r : RL h oa ls) (hn : ls.length ≤ 140737488351232) :
    ACalls Tryz.prog 55 [.slice oa ls.length c, .int .i64 id] h fun v h' => v = .int .i64 (fI ls id) ∧ Fm No h h' := by
  refine item_find_ok.snd Af.hm rfl fun w => ?_
  rw [WF_eq, item_find]
  obtain ⟨ha, ea⟩ : ∃ g, h.new ⟨[.int .i64 id], .own⟩ = g := ⟨_, rfl⟩
  have wa : Wf ha := ea ▸ w.new
  have fa : Fm No h ha := ea ▸ Fm.new Fm.refl
  have ga : ha.get h.size = some ⟨[.int .i64 id], .own⟩ := ea ▸ gnew
  simp +contextual (disch := omega) only [↓AM, ↓AV, AP, CQ, ea]
  refine (c_IdxItems (p := fun x => decide (x.id = id)) (r.keep w fa) hn (by kernel_rfl) fun x hx q h1 fm w1 => c_find1 (o := ⟨[], .own⟩) (fm.keep wa ga (fun f => f))).use ?_
  rintro _ h2 w2 ⟨rfl, f2⟩
  simp +contextual (disch := omega) only [↓AM, ↓AV, AP, CQ]
  exact ⟨rfl, fa.trans f2 fun _ _ x => x⟩
theorem c_rfind {h : Hp} {ls : List Item} {oa : Option Addr} {c : Nat} {id : Int} (r : RL h oa ls) (hn : ls.length ≤ 140737488351232) :
    ACalls Tryz.prog 61 [.slice oa ls.length c, .int .i64 id] h fun v h' => v = .int .i64 (fI ls id) ∧ h' = h := by
  refine dioramaref15_find_ok.snd Af.hm rfl fun w => ?_
  rw [WF_eq, dioramaref15_find]
  simp +contextual (disch := omega) only [↓AM, ↓AV, AP, CQ]
  refine WL.mk (fun k t h' => ∃ i : Nat, h' = h ∧ i ≤ ls.length ∧ k = ls.length - i ∧ (ls.take i).all (fun x => !decide (x.id = id)) = true ∧ t = [(0, some (.slice oa ls.length c)), (1, some (.int .i64 id)), (5, some (.int .i64 i))]) ⟨ls.length, 0, rfl, by omega, rfl, rfl, rfl⟩ ?_
  rintro k t h1 ⟨i, e1, hi, rfl, hall, rfl⟩
  subst h1
  by_cases hin : i < ls.length
  · obtain ⟨b1, o1, s1, q, x, rfl, f1, hl, r1, ri⟩ := r.at hin
    have r0 := rdN_get r1 (i := 0) (v := .int .i64 x.id) rfl
    have r0' := r0
    simp only [Nat.add_zero] at r0'
    by_cases h1 : x.id = id
    · simp +contextual (disch := omega) only [↓AM, ↓AV, AP, CQ, EqI, hin, f1, r0, r0', h1]
      show _ = _
      rw [show fI ls id = _ from pI_hit hall hl (decide_eq_true h1), Nat.zero_add]
    · simp +contextual (disch := omega) only [↓AM, ↓AV, AP, CQ, EqI, hin, f1, r0, r0', h1, i64]
      exact ⟨ls.length - (i + 1), by omega, i + 1, by omega, rfl, by have hh := all_take_S hall hl (by simp [h1]); simpa only [decide_not] using hh, rfl⟩
  · simp +contextual (disch := omega) only [↓AM, ↓AV, AP, CQ, hin]
    rw [List.take_of_length_le (by omega)] at hall
    rw [show fI ls id = _ from pI_none hall]
end Go.Proofs.YtmkcngcnedjfkaaGreat.Is

/- Rows of numbers that one owns. Plain theorems over the abstract machine.
   Conditions: none. -/
namespace Go.Proofs.YtmkcngcnedjfkaaGreat.It
open Go Go.RowKit Go.Proofs.YtmkcngcnedjfkaaGreat.Am Go.Proofs.YtmkcngcnedjfkaaGreat.Af Go.Proofs.YtmkcngcnedjfkaaGreat.Md
set_option linter.unusedVariables false
set_option linter.unusedSimpArgs false
set_option linter.defProp false
set_option maxRecDepth 20000
set_option maxHeartbeats 1000000

abbrev Bl := List (Option Addr × Nat)
def mkS : List (List Int) → Bl → List Value
  | l :: ls, b :: bs => .slice b.1 l.length b.2 :: mkS ls bs
  | _, _ => []
theorem mkS_len : ∀ {ls : List (List Int)} {bs : Bl}, bs.length = ls.length → (mkS ls bs).length = ls.length
  | [], [], _ => rfl
  | l :: ls, b :: bs, h => by simp only [mkS, List.length_cons]; rw [mkS_len (by simpa using h)]
theorem mkS_get : ∀ {ls : List (List Int)} {bs : Bl} {i : Nat} {l : List Int} {b : Option Addr × Nat}, ls[i]? = some l → bs[i]? = some b → (mkS ls bs)[i]? = some (.slice b.1 l.length b.2)
  | [], _, i, l, b, h, _ => by simp at h
  | _ :: _, [], i, l, b, _, h => by simp at h
  | x :: ls, y :: bs, 0, l, b, h, k => by simp at h k; subst h k; rfl
  | x :: ls, y :: bs, i + 1, l, b, h, k => by
    simp only [mkS, List.getElem?_cons_succ] at h k ⊢
    exact mkS_get h k
theorem mkS_snoc : ∀ {ls : List (List Int)} {bs : Bl} {l : List Int} {b : Option Addr × Nat}, bs.length = ls.length → mkS (ls ++ [l]) (bs ++ [b]) = mkS ls bs ++ [.slice b.1 l.length b.2]
  | [], [], l, b, _ => rfl
  | x :: ls, y :: bs, l, b, h => by simp only [List.cons_append, mkS, List.cons_append]; rw [mkS_snoc (by simpa using h)]
theorem mkS_set : ∀ {ls : List (List Int)} {bs : Bl} {p : Nat} {l l' : List Int}, ls[p]? = some l → l'.length = l.length → mkS (ls.set p l') bs = mkS ls bs
  | [], bs, p, l, l', h, _ => by simp at h
  | x :: ls, [], 0, l, l', h, e => by simp [mkS]
  | x :: ls, [], p + 1, l, l', h, e => by simp [mkS]
  | x :: ls, y :: bs, 0, l, l', h, e => by simp at h; subst h; simp [mkS, e]
  | x :: ls, y :: bs, p + 1, l, l', h, e => by
    simp only [List.set_cons_succ, mkS]
    rw [mkS_set (by simpa using h) e]
/-- Rows of one's own, made since h0; behind them others of some slices in the outer row. -/
structure O2 (h0 h : Hp) (oa : Option Addr) (c : Nat) (ls : List (List Int)) (bs : Bl) (rest : List Value) : Prop where
  bl : bs.length = ls.length
  out : Ow h 1 oa (ls.length + rest.length) c (mkS ls bs ++ rest)
  inn : ∀ (i : Nat) (l : List Int) (b : Option Addr × Nat), ls[i]? = some l → bs[i]? = some b → Ow h 1 b.1 l.length b.2 (iV l)
  apart : ∀ (i j : Nat) (b b' : Option Addr × Nat) (x : Nat), bs[i]? = some b → bs[j]? = some b' → At b.1 x → At b'.1 x → i = j
  apartO : ∀ b ∈ bs, ∀ x, At b.1 x → ¬ At oa x
  nwO : Nw h0 oa
  nwI : ∀ b ∈ bs, Nw h0 b.1
theorem O2.pair {h0 h : Hp} {oa : Option Addr} {c : Nat} {ls : List (List Int)} {bs : Bl} {rest : List Value} (o : O2 h0 h oa c ls bs rest) {p : Nat} (hp : p < ls.length) : ∃ l b, ls[p]? = some l ∧ bs[p]? = some b :=
  ⟨_, _, List.getElem?_eq_getElem hp, List.getElem?_eq_getElem (by rw [o.bl]; exact hp)⟩
theorem O2.nil {h0 h : Hp} : O2 h0 h none 0 [] [] [] := ⟨rfl, Ow.mk0, (fun i l b h => by simp at h), (fun i j b b' x h => by simp at h), (fun b hb => by cases hb), Nw.none, (fun b hb => by cases hb)⟩
theorem O2.r2 {h0 h : Hp} {oa : Option Addr} {c : Nat} {ls : List (List Int)} {bs : Bl} (o : O2 h0 h oa c ls bs []) : R2 h oa ls := by
  have ho := o.out.rd
  rw [List.append_nil, List.length_nil, Nat.add_zero] at ho
  refine ⟨_, ho, fun i l hl => ?_⟩
  have hi : i < ls.length := (List.getElem?_eq_some_iff.1 hl).1
  obtain ⟨_, b, _, hb⟩ := o.pair hi
  have hi := o.inn i l b hl hb
  exact ⟨b.1, b.2, mkS_get hl hb, hi.le, hi.rd⟩
theorem O2.keep {h0 h h' : Hp} {oa : Option Addr} {c : Nat} {ls : List (List Int)} {bs : Bl} {rest : List Value} {F : Nat → Prop} (o : O2 h0 h oa c ls bs rest) (w : Wf h) (f : Fm F h h') (hO : ∀ x, At oa x → ¬ F x) (hI : ∀ b ∈ bs, ∀ x, At b.1 x → ¬ F x) :
    O2 h0 h' oa c ls bs rest :=
  ⟨o.bl, o.out.keep w f hO, fun i l b hl hb => (o.inn i l b hl hb).keep w f (hI b (List.mem_of_getElem? hb)), o.apart, o.apartO, o.nwO, o.nwI⟩
theorem O2.keepN {h0 h h' : Hp} {oa : Option Addr} {c : Nat} {ls : List (List Int)} {bs : Bl} {rest : List Value} (o : O2 h0 h oa c ls bs rest) (w : Wf h) (f : Fm No h h') : O2 h0 h' oa c ls bs rest :=
  o.keep w f (fun _ _ q => q) fun _ _ _ _ q => q
/-- Kept through writes to older blocks. -/
theorem O2.keepB {h0 h h' : Hp} {oa : Option Addr} {c : Nat} {ls : List (List Int)} {bs : Bl} {rest : List Value} {F : Nat → Prop} (o : O2 h0 h oa c ls bs rest) (w : Wf h) (f : Fm F h h') (hF : ∀ x, F x → x < h0.size) : O2 h0 h' oa c ls bs rest :=
  o.keep w f (fun x hx q => by have := o.nwO x hx; have := hF x q; omega) fun b hb x hx q => by have := o.nwI b hb x hx; have := hF x q; omega
theorem O2.older {h0 h1 h : Hp} {oa : Option Addr} {c : Nat} {ls : List (List Int)} {bs : Bl} {rest : List Value} (o : O2 h1 h oa c ls bs rest) (hs : h0.size ≤ h1.size) : O2 h0 h oa c ls bs rest :=
  ⟨o.bl, o.out, o.inn, o.apart, o.apartO, (fun x hx => Nat.le_trans hs (o.nwO x hx)), fun b hb x hx => Nat.le_trans hs (o.nwI b hb x hx)⟩
/-- A row, found. -/
theorem O2.at {h0 h : Hp} {oa : Option Addr} {c : Nat} {ls : List (List Int)} {bs : Bl} {rest : List Value} (o : O2 h0 h oa c ls bs rest) (w : Wf h) {p : Nat} (hp : p < ls.length) :
    ∃ b sp l ob cc, oa = some ⟨b, 0, sp⟩ ∧ flagOk sp = true ∧ ls[p]? = some l ∧ bs[p]? = some (ob, cc) ∧ h.rd b p = some (.slice ob l.length cc) ∧ Ow h 1 ob l.length cc (iV l) := by
  obtain ⟨l, ⟨ob, cc⟩, hl, hb⟩ := o.pair hp
  obtain ⟨b, sp, ob', v, e, f1, hg, _, _, hv, hr, _⟩ := o.out.cell w (i := p) (by omega)
  rw [List.getElem?_append_left (by rw [mkS_len o.bl]; exact hp), mkS_get hl hb] at hv
  cases hv
  exact ⟨b, sp, l, ob, cc, e, f1, hl, hb, hr, o.inn p l _ hl hb⟩
/-- A row, written. -/
theorem O2.upd {h0 h h' : Hp} {oa : Option Addr} {c : Nat} {ls : List (List Int)} {bs : Bl} {rest : List Value} (o : O2 h0 h oa c ls bs rest) (w : Wf h) {p : Nat} {l l' : List Int} {ob : Option Addr} {cc : Nat} (hl : ls[p]? = some l) (hb : bs[p]? = some (ob, cc))
    (f : Fm (At ob) h h') (i : Ow h' 1 ob l'.length cc (iV l')) (e : l'.length = l.length) : O2 h0 h' oa c (ls.set p l') bs rest := by
  have hm := List.mem_of_getElem? hb
  refine ⟨by simpa using o.bl, ?_, fun j q b hq hbj => ?_, o.apart, o.apartO, o.nwO, o.nwI⟩
  · rw [mkS_set hl e, List.length_set]
    exact o.out.keep w f fun x hx hy => o.apartO _ hm x hy hx
  · by_cases hj : p = j
    · subst hj
      rw [hb] at hbj
      cases hbj
      rw [List.getElem?_set_self (List.getElem?_eq_some_iff.1 hl).1] at hq
      cases hq
      exact i
    · rw [List.getElem?_set_ne hj] at hq
      exact (o.inn j q b hq hbj).keep w f fun x hx hy => hj (o.apart p j _ b x hb hbj hy hx)
theorem O2.fm {h0 h h' : Hp} {oa : Option Addr} {c : Nat} {ls : List (List Int)} {bs : Bl} {rest : List Value} {F : Nat → Prop} {b : Option Addr × Nat} (o : O2 h0 h oa c ls bs rest) (g : Fm F h0 h) (hb : b ∈ bs) (f : Fm (At b.1) h h') : Fm F h0 h' := Fm.nw g f (o.nwI b hb)
theorem O2.fmO {h0 h h' : Hp} {oa : Option Addr} {c : Nat} {ls : List (List Int)} {bs : Bl} {rest : List Value} {F : Nat → Prop} (o : O2 h0 h oa c ls bs rest) (g : Fm F h0 h) (f : Fm (At oa) h h') : Fm F h0 h' := Fm.nw g f o.nwO
/-- A row more, appended. -/
theorem O2.push {h0 h h1 h2 : Hp} {oa oa' ob : Option Addr} {c c' cc : Nat} {ls : List (List Int)} {bs : Bl} {l : List Int} (o : O2 h0 h oa c ls bs []) (w : Wf h) (hs : h0.size ≤ h.size) (f1 : Fm No h h1) (w1 : Wf h1) (i : Ow h1 1 ob l.length cc (iV l)) (n : Nw h ob)
    (o2 : Ow h2 1 oa' (ls.length + 1) c' (mkS ls bs ++ [.slice ob l.length cc])) (f2 : Fm (At oa) h1 h2) (n2 : ∀ x, At oa' x → At oa x ∨ h1.size ≤ x) : O2 h0 h2 oa' c' (ls ++ [l]) (bs ++ [(ob, cc)]) [] := by
  have outlt := o.out.lt w
  have innlt : ∀ (i : Nat) (b : Option Addr × Nat) (x : Nat), bs[i]? = some b → At b.1 x → x < h.size := fun i b x hb hx => by
    have hi : i < ls.length := by rw [← o.bl]; exact (List.getElem?_eq_some_iff.1 hb).1
    exact (o.inn i _ b (List.getElem?_eq_getElem hi) hb).lt w x hx
  have nlt := i.lt w1
  have hbl := o.bl
  have hs1 := f1.size
  refine ⟨by simp [hbl], ?_, fun j q b hq hbj => ?_, fun j k b b' x hj hk hx hy => ?_, fun b hb x hx hy => ?_, fun x hx => ?_, fun b hb x hx => ?_⟩
  · rw [mkS_snoc hbl, List.append_nil, List.length_append, List.length_nil]
    exact o2
  · by_cases hj : j < ls.length
    · rw [List.getElem?_append_left hj] at hq
      rw [List.getElem?_append_left (by rw [hbl]; exact hj)] at hbj
      exact ((o.inn j q b hq hbj).keep w f1 (fun _ _ q => q)).keep w1 f2 fun x hx hy => o.apartO b (List.mem_of_getElem? hbj) x hx hy
    · rw [List.getElem?_append_right (by omega)] at hq
      rw [List.getElem?_append_right (by omega), hbl] at hbj
      have h0 : j - ls.length = 0 := by have := (List.getElem?_eq_some_iff.1 hq).1; simpa using this
      rw [h0] at hq hbj
      cases hq
      cases hbj
      exact i.keep w1 f2 fun x hx hy => by have := n x hx; have := outlt x hy; omega
  · have split : ∀ (j : Nat) (b : Option Addr × Nat), (bs ++ [(ob, cc)])[j]? = some b → bs[j]? = some b ∨ (j = bs.length ∧ b = (ob, cc)) := fun j b hj => by
      by_cases h : j < bs.length
      · rw [List.getElem?_append_left h] at hj; exact .inl hj
      · rw [List.getElem?_append_right (by omega)] at hj
        have h0 : j - bs.length = 0 := by have := (List.getElem?_eq_some_iff.1 hj).1; simpa using this
        rw [h0] at hj
        cases hj
        exact .inr ⟨by omega, rfl⟩
    rcases split j b hj with h1 | ⟨h1, rfl⟩ <;> rcases split k b' hk with h2 | ⟨h2, rfl⟩
    · exact o.apart j k b b' x h1 h2 hx hy
    · have := innlt j b x h1 hx; have := n x hy; omega
    · have := innlt k b' x h2 hy; have := n x hx; omega
    · omega
  · rcases List.mem_append.1 hb with hb | hb
    · obtain ⟨j, hj⟩ := List.getElem?_of_mem hb
      have := innlt j b x hj hx
      rcases n2 x hy with h | h
      · exact o.apartO b hb x hx h
      · omega
    · have hb : b = (ob, cc) := by simpa using hb
      subst hb
      have h3 := n x hx
      have h4 := nlt x hx
      rcases n2 x hy with h | h
      · have := outlt x h; omega
      · omega
  · rcases n2 x hx with h | h
    · exact o.nwO x h
    · omega
  · rcases List.mem_append.1 hb with hb | hb
    · exact o.nwI b hb x hx
    · have hb : b = (ob, cc) := by simpa using hb
      subst hb
      have := n x hx
      omega
/-- A row more, laid in the place of another slice. -/
theorem O2.fill {h0 h h1 h2 : Hp} {oa ob : Option Addr} {c cc : Nat} {ls : List (List Int)} {bs : Bl} {l : List Int} {r : Value} {rest : List Value} (o : O2 h0 h oa c ls bs (r :: rest)) (w : Wf h) (hs : h0.size ≤ h.size) (f1 : Fm No h h1) (w1 : Wf h1) (i : Ow h1 1 ob l.length cc (iV l)) (n : Nw h ob)
    (o2 : Ow h2 1 oa (ls.length + (rest.length + 1)) c ((mkS ls bs ++ r :: rest).set ls.length (.slice ob l.length cc))) (f2 : Fm (At oa) h1 h2) : O2 h0 h2 oa c (ls ++ [l]) (bs ++ [(ob, cc)]) rest := by
  have outlt := o.out.lt w
  have innlt : ∀ (i : Nat) (b : Option Addr × Nat) (x : Nat), bs[i]? = some b → At b.1 x → x < h.size := fun i b x hb hx => by
    have hi : i < ls.length := by rw [← o.bl]; exact (List.getElem?_eq_some_iff.1 hb).1
    exact (o.inn i _ b (List.getElem?_eq_getElem hi) hb).lt w x hx
  have hbl := o.bl
  refine ⟨by simp [hbl], ?_, fun j q b hq hbj => ?_, fun j k b b' x hj hk hx hy => ?_, fun b hb x hx hy => ?_, o.nwO, fun b hb x hx => ?_⟩
  · rw [mkS_snoc hbl, List.length_append, List.length_singleton]
    have e : (mkS ls bs ++ r :: rest).set ls.length (.slice ob l.length cc) = mkS ls bs ++ [.slice ob l.length cc] ++ rest := by
      rw [List.set_append_right _ _ (by rw [mkS_len hbl]; exact Nat.le_refl _), mkS_len hbl, Nat.sub_self, List.set_cons_zero]; simp
    rw [e] at o2
    rw [show ls.length + 1 + rest.length = ls.length + (rest.length + 1) by omega]
    exact o2
  · by_cases hj : j < ls.length
    · rw [List.getElem?_append_left hj] at hq
      rw [List.getElem?_append_left (by rw [hbl]; exact hj)] at hbj
      exact ((o.inn j q b hq hbj).keep w f1 (fun _ _ q => q)).keep w1 f2 fun x hx hy => o.apartO b (List.mem_of_getElem? hbj) x hx hy
    · rw [List.getElem?_append_right (by omega)] at hq
      rw [List.getElem?_append_right (by omega), hbl] at hbj
      have h0 : j - ls.length = 0 := by have := (List.getElem?_eq_some_iff.1 hq).1; simpa using this
      rw [h0] at hq hbj
      cases hq
      cases hbj
      exact i.keep w1 f2 fun x hx hy => by have := n x hx; have := outlt x hy; omega
  · have split : ∀ (j : Nat) (b : Option Addr × Nat), (bs ++ [(ob, cc)])[j]? = some b → bs[j]? = some b ∨ (j = bs.length ∧ b = (ob, cc)) := fun j b hj => by
      by_cases h : j < bs.length
      · rw [List.getElem?_append_left h] at hj; exact .inl hj
      · rw [List.getElem?_append_right (by omega)] at hj
        have h0 : j - bs.length = 0 := by have := (List.getElem?_eq_some_iff.1 hj).1; simpa using this
        rw [h0] at hj
        cases hj
        exact .inr ⟨by omega, rfl⟩
    rcases split j b hj with h1 | ⟨h1, rfl⟩ <;> rcases split k b' hk with h2 | ⟨h2, rfl⟩
    · exact o.apart j k b b' x h1 h2 hx hy
    · have := innlt j b x h1 hx; have := n x hy; omega
    · have := innlt k b' x h2 hy; have := n x hx; omega
    · omega
  · rcases List.mem_append.1 hb with hb | hb
    · exact o.apartO b hb x hx hy
    · have hb : b = (ob, cc) := by simpa using hb
      subst hb
      have h3 := n x hx
      have := outlt x hy
      omega
  · rcases List.mem_append.1 hb with hb | hb
    · exact o.nwI b hb x hx
    · have hb : b = (ob, cc) := by simpa using hb
      subst hb
      have := n x hx
      omega

/-! ### copies -/
theorem c_CloneInts {h : Hp} {a : Option Addr} {c : Nat} {xs : List Int} (r : Rd h 1 a xs.length (iV xs)) (hn : xs.length ≤ 17592186044416) (hc : xs.length ≤ c) :
    ACalls Tryz.prog 120 [.slice a xs.length c] h fun v h' => ∃ oa cap, v = .slice oa xs.length cap ∧ Ow h' 1 oa xs.length cap (iV xs) ∧ Nw h oa ∧ Fm No h h' := by
  refine slices_Clone___int_int__ok.snd hm rfl fun w => ?_
  rw [WF_eq, slices_Clone___int_int_]
  have app : ∀ (x : Value) (K : Value → Hp → Prop) (tg : Tag K), x = .slice a xs.length c → (∀ oa' cap' h', Ow h' 1 oa' xs.length cap' (iV xs) → Wf h' → Fm No h h' → Nw h oa' → K (.slice oa' xs.length cap') h') →
      appV 1 8 (.slice (some ⟨h.size, 0, none⟩) 0 0) xs.length (iV xs) (h.new ⟨[], .own⟩) K tg := by
    intro x K tg hx k
    have ow := Ow.new (h := h) (z := 1) (n := 0) (m := 0) (cs := []) rfl (Nat.le_refl _)
    have fm0 : Fm No h (h.new ⟨[], .own⟩) := Fm.new Fm.refl
    refine Ow.add (m := xs.length) w.new ow (by simp [iV_len]) (by omega) fun oa' cap' h' o' w' f' n' => ?_
    obtain ⟨g1, g2⟩ := grown fm0 (Nw.new Fm.refl) f' n'
    rw [Nat.zero_add] at o' ⊢
    exact k oa' cap' h' (by simpa using o') w' g1 g2
  have fm0 : Fm No h (h.new ⟨[], .own⟩) := Fm.new Fm.refl
  have hs := (r.keep w fm0 (fun _ _ => id)).src (c := c)
  rcases a with _ | ⟨b, off, sp⟩
  · have h0 := r.nil rfl
    have : xs = [] := List.length_eq_zero_iff.1 h0
    subst this
    cases c with
    | zero =>
      simp +contextual only [↓AM, ↓AV, AP, isNilV, List.length_nil]
      exact ⟨_, _, rfl, Ow.mk0, Nw.none, Fm.refl⟩
    | succ c =>
      simp only [List.length_nil] at hs app ⊢
      simp +contextual only [↓AM, ↓AV, AP, isNilV, hs]
      refine app _ _ _ rfl fun oa' cap' h' o' w' f' n' => ?_
      simp +contextual only [↓AM, ↓AV, AP]
      exact ⟨_, _, rfl, o', n', f'⟩
  · simp +contextual only [↓AM, ↓AV, AP, isNilV, hs]
    refine app _ _ _ rfl fun oa' cap' h' o' w' f' n' => ?_
    simp +contextual only [↓AM, ↓AV, AP]
    exact ⟨_, _, rfl, o', n', f'⟩
theorem c_CloneRows {h : Hp} {a : Option Addr} {n c : Nat} {xs : List Value} (r : Rd h 1 a n xs) (hn : n ≤ 5864062014805) (hc : n ≤ c) :
    ACalls Tryz.prog 119 [.slice a n c] h fun v h' => ∃ oa cap, v = .slice oa n cap ∧ Ow h' 1 oa n cap xs ∧ Nw h oa ∧ Fm No h h' := by
  refine slices_Clone_____int___int__ok.snd hm rfl fun w => ?_
  rw [WF_eq, slices_Clone_____int___int_]
  have hl : xs.length = n := by have := r.len; simpa using this
  have app : ∀ (x : Value) (K : Value → Hp → Prop) (tg : Tag K), x = .slice a n c → (∀ oa' cap' h', Ow h' 1 oa' n cap' xs → Wf h' → Fm No h h' → Nw h oa' → K (.slice oa' n cap') h') →
      appV 1 24 (.slice (some ⟨h.size, 0, none⟩) 0 0) n xs (h.new ⟨[], .own⟩) K tg := by
    intro x K tg hx k
    have ow := Ow.new (h := h) (z := 1) (n := 0) (m := 0) (cs := []) rfl (Nat.le_refl _)
    have fm0 : Fm No h (h.new ⟨[], .own⟩) := Fm.new Fm.refl
    refine Ow.add (m := n) w.new ow (by simp [hl]) (by omega) fun oa' cap' h' o' w' f' n' => ?_
    obtain ⟨g1, g2⟩ := grown fm0 (Nw.new Fm.refl) f' n'
    rw [Nat.zero_add] at o' ⊢
    exact k oa' cap' h' (by simpa using o') w' g1 g2
  have fm0 : Fm No h (h.new ⟨[], .own⟩) := Fm.new Fm.refl
  have hs := (r.keep w fm0 (fun _ _ => id)).src (c := c)
  rcases a with _ | ⟨b, off, sp⟩
  · have h0 := r.nil rfl
    subst h0
    cases c with
    | zero =>
      simp +contextual only [↓AM, ↓AV, AP, isNilV]
      have : xs = [] := List.length_eq_zero_iff.1 hl
      subst this
      exact ⟨_, _, rfl, Ow.mk0, Nw.none, Fm.refl⟩
    | succ c =>
      simp +contextual only [↓AM, ↓AV, AP, isNilV, hs]
      refine app _ _ _ rfl fun oa' cap' h' o' w' f' n' => ?_
      simp +contextual only [↓AM, ↓AV, AP]
      exact ⟨_, _, rfl, o', n', f'⟩
  · simp +contextual only [↓AM, ↓AV, AP, isNilV, hs]
    refine app _ _ _ rfl fun oa' cap' h' o' w' f' n' => ?_
    simp +contextual only [↓AM, ↓AV, AP]
    exact ⟨_, _, rfl, o', n', f'⟩
end Go.Proofs.YtmkcngcnedjfkaaGreat.It

/- Pictures copied, and blank ones. Plain theorems over the abstract machine.
   Conditions: none. -/
namespace Go.Proofs.YtmkcngcnedjfkaaGreat.It
open Go Go.RowKit Go.Proofs.YtmkcngcnedjfkaaGreat.Am Go.Proofs.YtmkcngcnedjfkaaGreat.Af Go.Proofs.YtmkcngcnedjfkaaGreat.Md
set_option linter.unusedVariables false
set_option linter.unusedSimpArgs false
set_option linter.defProp false
set_option maxRecDepth 20000
set_option maxHeartbeats 1000000

/-- A picture of one's own, made since h0. -/
def OI (h0 h : Hp) (v : Value) (m : Im) : Prop := ∃ oa c bs, v = .agg (imC m oa c).toArray ∧ O2 h0 h oa c m.pl bs [] ∧ m.pl.length ≤ c
/-- A small picture's planes. -/
def Sm (ls : List (List Int)) : Prop := ls.length ≤ 1000 ∧ ∀ l ∈ ls, l.length ≤ 1000000
theorem Sm.sz {ls : List (List Int)} (s : Sm ls) : Sz ls := ⟨by have := s.1; omega, fun l hl => by have := s.2 l hl; omega⟩
theorem c_clone {h : Hp} {m : Im} {oa : Option Addr} {c : Nat} (r : R2 h oa m.pl) (hc : m.pl.length ≤ c) (hs : Sm m.pl) :
    ACalls Tryz.prog 67 [.agg (imC m oa c).toArray] h fun v h' => OI h h' v m ∧ Fm No h h' := by
  refine item_clone_ok.snd Af.hm rfl fun w => ?_
  rw [WF_eq, item_clone]
  obtain ⟨ha, ea⟩ : ∃ g, h.new ⟨[.int .i64 m.wd, .int .i64 m.hg, .int .i64 m.bt, .slice oa m.pl.length c], .own⟩ = g := ⟨_, rfl⟩
  have wa : Wf ha := ea ▸ w.new
  have fa : Fm No h ha := ea ▸ Fm.new Fm.refl
  have ga : ha.get h.size = some ⟨[.int .i64 m.wd, .int .i64 m.hg, .int .i64 m.bt, .slice oa m.pl.length c], .own⟩ := ea ▸ gnew
  have sa : ha.size = h.size + 1 := by rw [← ea]; rfl
  obtain ⟨h0, e0⟩ : ∃ g, ha.new ⟨[.int .i64 0, .int .i64 0, .int .i64 0, .slice none 0 0], .own⟩ = g := ⟨_, rfl⟩
  have w0 : Wf h0 := e0 ▸ wa.new
  have f0a : Fm No ha h0 := e0 ▸ Fm.new Fm.refl
  have gb0 : h0.get ha.size = some ⟨[.int .i64 0, .int .i64 0, .int .i64 0, .slice none 0 0], .own⟩ := e0 ▸ gnew
  have ga0 := f0a.keep wa ga (fun f => f)
  have s0 : h0.size = ha.size + 1 := by rw [← e0]; rfl
  have f0 : Fm No h h0 := fa.trans f0a fun _ _ x => x
  obtain ⟨cs, rc, rr⟩ := r
  have hl := hs.1
  have rc0 := rc.keep w f0 (fun _ _ => id)
  have hcl : cs.length = m.pl.length := by have := rc.len; simpa using this
  simp +contextual (disch := omega) only [↓AM, ↓AV, AP, CQ, imC, ea, e0, rd_mk ga0]
  refine (c_CloneRows rc0 (by omega) hc).use ?_
  rintro _ h1 w1 ⟨oa1, cap, rfl, ow1, nw1, f1⟩
  have ga1 := f1.keep w0 ga0 (fun f => f)
  have gb1 := f1.keep w0 gb0 (fun f => f)
  obtain ⟨h2, e2⟩ : ∃ g, h1.put h.size ⟨[.int .i64 m.wd, .int .i64 m.hg, .int .i64 m.bt, .slice oa1 m.pl.length cap], .own⟩ = g := ⟨_, rfl⟩
  have w2 : Wf h2 := e2 ▸ w1.put (w1.lt ga1)
  have f2 : Fm (fun x => x = h.size) h1 h2 := e2 ▸ Fm.put Fm.refl fun _ => rfl
  have ga2 : h2.get h.size = some ⟨[.int .i64 m.wd, .int .i64 m.hg, .int .i64 m.bt, .slice oa1 m.pl.length cap], .own⟩ := e2 ▸ gput
  have f02 : Fm (fun x => x = h.size) h0 h2 := (f1.mono fun _ _ f => f.elim).trans f2 fun _ _ x => x
  have ow2 : Ow h2 1 oa1 m.pl.length cap cs := ow1.keep w1 f2 fun x hx hy => by have := nw1 x hx; omega
  have gb2 := f2.keep w1 gb1 (fun f => by omega)
  simp +contextual (disch := omega) only [↓AM, ↓AV, AP, CQ, ea, ga1, spl_S, spl_0, spl_00, e2, rd_mk ga2]
  refine WL.mk (fun k t h' => ∃ (i : Nat) (bs : Bl), Wf h' ∧ O2 h0 h' oa1 cap (m.pl.take i) bs (cs.drop i) ∧ Fm (fun x => x = h.size) h0 h' ∧ h'.get h.size = some ⟨[.int .i64 m.wd, .int .i64 m.hg, .int .i64 m.bt, .slice oa1 m.pl.length cap], .own⟩ ∧
      i ≤ m.pl.length ∧ k = m.pl.length - i ∧ t = [(1, some (.pointer (some ⟨h.size, 0, none⟩))), (2, some (.pointer (some ⟨ha.size, 0, none⟩))), (10, some (.int .i64 (m.pl.length : Int))), (11, some (.int .i64 (i : Int)))])
    ⟨m.pl.length, 0, [], w2, ⟨rfl, by simpa [hcl, mkS] using ow2, (fun i l b h => by simp at h), (fun i j b b' x h => by simp at h), (fun b hb => by cases hb), nw1, (fun b hb => by cases hb)⟩, f02, ga2, by omega, rfl, rfl⟩ ?_
  rintro k t h3 ⟨i, bs, w3, o3, f3, g3, hi, rfl, rfl⟩
  by_cases hin : i < m.pl.length
  · have hic : i < cs.length := by omega
    rw [List.drop_eq_getElem_cons hic] at o3
    have htl : (m.pl.take i).length = i := by rw [List.length_take]; omega
    obtain ⟨bo, spo, obo, vo, eo, fo, hgo, hmo, hleo, hvo, hro, _⟩ := o3.out.cell w3 (i := i) (by rw [htl, List.length_cons]; omega)
    have hvo' : vo = cs[i] := by
      rw [List.getElem?_append_right (by rw [mkS_len o3.bl, htl]; exact Nat.le_refl _), mkS_len o3.bl, htl, Nat.sub_self] at hvo
      exact (Option.some.inj hvo).symm
    subst hvo'
    obtain ⟨ob, cc, hci, hcc, rob⟩ := rr i m.pl[i] (List.getElem?_eq_getElem hin)
    have hci' : cs[i] = .slice ob m.pl[i].length cc := by rw [List.getElem?_eq_getElem hic] at hci; exact Option.some.inj hci
    rw [hci'] at hro
    subst eo
    simp +contextual (disch := omega) only [↓AM, ↓AV, AP, CQ, hin, rd_mk g3, fo, hro]
    have rob3 := rob.keepW (h' := h3) w (f0.trans f3 fun x hx hy => by have : x = h.size := hy; omega) (fun x hx f => by exact f)
    refine (c_CloneInts rob3 (by have := hs.2 _ (List.getElem_mem hin); omega) hcc).use ?_
    rintro _ h4 w4 ⟨ob2, cc2, rfl, ow4, nw4, f4⟩
    have g4 := f4.keep w3 g3 (fun f => f)
    have o4 := o3.out.keep w3 f4 (fun _ _ f => f)
    obtain ⟨bp, spp, obp, vp, ep, fp, hgp, hmp, hlep, hvp, hrp, hput⟩ := o4.cell w4 (i := i) (by rw [htl, List.length_cons]; omega)
    cases ep
    obtain ⟨q1, q2, q3, q4⟩ := hput (.slice ob2 m.pl[i].length cc2)
    have q2' := q2
    have hro4 : h4.rd bo i = some (.slice ob m.pl[i].length cc) := (rd_keep (f4.get _ (w3.lt hgo) (fun f => f))).trans hro
    simp +contextual (disch := omega) only [↓AM, ↓AV, AP, CQ, hin, rd_mk g4, fo, hro4, hgp, hmp, hlep, i64]
    refine ⟨m.pl.length - (i + 1), by omega, i + 1, bs ++ [(ob2, cc2)], q3, ?_, ?_, ?_, by omega, rfl, rfl⟩
    · have := o3.fill w3 (by have := f3.size; omega) f4 w4 ow4 nw4 (by
        rw [htl] at q2 ⊢
        simpa [hci'] using q2) q4
      rw [List.take_add_one, List.getElem?_eq_getElem hin]
      exact this
    · exact Fm.nw (f3.trans (f4.mono fun _ _ f => f.elim) fun _ _ x => x) q4 o3.nwO
    · exact q4.keep w4 g4 (fun f => by have := o3.nwO _ f; omega)
  · have hie : i = m.pl.length := by omega
    subst hie
    rw [List.take_of_length_le (by omega), List.drop_of_length_le (by omega)] at o3
    have gb3 := f3.keep w0 gb0 (fun f => by omega)
    have f3h : Fm No h h3 := f0.trans f3 fun x hx hy => by have : x = h.size := hy; omega
    obtain ⟨h4, e4⟩ : ∃ g, h3.put ha.size ⟨[.int .i64 m.wd, .int .i64 m.hg, .int .i64 m.bt, .slice oa1 m.pl.length cap], .own⟩ = g := ⟨_, rfl⟩
    have f4 : Fm (fun x => x = ha.size) h3 h4 := e4 ▸ Fm.put Fm.refl fun _ => rfl
    have g4 : h4.get ha.size = some ⟨[.int .i64 m.wd, .int .i64 m.hg, .int .i64 m.bt, .slice oa1 m.pl.length cap], .own⟩ := e4 ▸ gput
    have n3 : h3.rdN h.size 0 4 = some [.int .i64 m.wd, .int .i64 m.hg, .int .i64 m.bt, .slice oa1 m.pl.length cap] := rdN_mk g3 (by simp)
    have n4 : h4.rdN ha.size 0 4 = some [.int .i64 m.wd, .int .i64 m.hg, .int .i64 m.bt, .slice oa1 m.pl.length cap] := rdN_mk g4 (by simp)
    simp +contextual (disch := omega) only [↓AM, ↓AV, AP, CQ, hin, n3, gb3, spl_S, spl_0, spl_00, e4, n4]
    have o4 := o3.keepB w3 f4 (fun x hx => by have : x = ha.size := hx; omega)
    have hle := o4.out.le
    exact ⟨⟨oa1, cap, bs, rfl, o4.older (by omega), by simpa using hle⟩, f3h.trans f4 fun x hx hy => by have : x = ha.size := hy; omega⟩
end Go.Proofs.YtmkcngcnedjfkaaGreat.It

/- Blank pictures; the document's copies. Plain theorems over the abstract machine.
   Conditions: none. -/
namespace Go.Proofs.YtmkcngcnedjfkaaGreat.It
open Go Go.RowKit Go.Proofs.YtmkcngcnedjfkaaGreat.Am Go.Proofs.YtmkcngcnedjfkaaGreat.Af Go.Proofs.YtmkcngcnedjfkaaGreat.Md
set_option linter.unusedVariables false
set_option linter.unusedSimpArgs false
set_option linter.defProp false
set_option maxRecDepth 20000
set_option maxHeartbeats 1000000

theorem rep_iV (n : Nat) : rep n [Value.int .i64 0] = iV (List.replicate n 0) := by
  induction n with
  | zero => rfl
  | succ n ih =>
    rw [List.replicate_succ]
    simp only [rep, List.replicate_succ, List.flatten_cons] at ih ⊢
    rw [ih]
    rfl
theorem iV_snoc (L : List Int) (x : Int) : iV (L ++ [x]) = iV L ++ [.int .i64 x] := by simp [iV]
theorem Ow.zeros {h : Hp} {n : Nat} : Ow (h.new ⟨iV (List.replicate n 0), .own⟩) 1 (some ⟨h.size, 0, none⟩) n n (iV (List.replicate n 0)) := by
  have := Ow.new (h := h) (z := 1) (n := n) (m := n) (cs := iV (List.replicate n 0)) (by simp [iV]) (Nat.le_refl _)
  rwa [List.take_of_length_le (by simp [iV])] at this
theorem nw_new {h : Hp} : Nw h (some ⟨h.size, 0, none⟩) := fun x hx => by rw [At.some] at hx; exact Nat.le_of_eq hx
/-- A picture of zeros. -/
def zim (w h b : Int) (n : Nat) : Im := (w, h, b, List.replicate n (List.replicate (w * h).toNat 0))
theorem c_blank {h : Hp} {x y b : Int} {n : Nat} (hx : 1 ≤ x ∧ x ≤ 64) (hy : 1 ≤ y ∧ y ≤ 64) (hn : n ≤ 1000) :
    ACalls Tryz.prog 107 [.int .i64 x, .int .i64 y, .int .i64 b, .int .i64 n] h fun v h' => OI h h' v (zim x y b n) ∧ Fm No h h' := by
  refine item_blank_ok.snd Af.hm rfl fun w => ?_
  rw [WF_eq, item_blank]
  have hm := mul_ok hx hy
  obtain ⟨ha, ea⟩ : ∃ g, h.new ⟨[.int .i64 0, .int .i64 0, .int .i64 0, .slice none 0 0], .own⟩ = g := ⟨_, rfl⟩
  have wa : Wf ha := ea ▸ w.new
  have fa : Fm No h ha := ea ▸ Fm.new Fm.refl
  have ga : ha.get h.size = some ⟨[.int .i64 0, .int .i64 0, .int .i64 0, .slice none 0 0], .own⟩ := ea ▸ gnew
  have sa : ha.size = h.size + 1 := by rw [← ea]; rfl
  obtain ⟨h0, e0⟩ : ∃ g, ha.new ⟨[.int .i64 x, .int .i64 y, .int .i64 b, .slice none 0 0], .own⟩ = g := ⟨_, rfl⟩
  have w0 : Wf h0 := e0 ▸ wa.new
  have f0a : Fm No ha h0 := e0 ▸ Fm.new Fm.refl
  have gb0 : h0.get ha.size = some ⟨[.int .i64 x, .int .i64 y, .int .i64 b, .slice none 0 0], .own⟩ := e0 ▸ gnew
  have ga0 := f0a.keep wa ga (fun f => f)
  have s0 : h0.size = ha.size + 1 := by rw [← e0]; rfl
  have f0 : Fm No h h0 := fa.trans f0a fun _ _ x => x
  simp +contextual (disch := omega) only [↓AM, ↓AV, AP, CQ, ea, e0]
  refine WL.mk (fun k t h' => ∃ (i : Nat) (oa : Option Addr) (c : Nat) (bs : Bl), Wf h' ∧ O2 h0 h' oa c (List.replicate i (List.replicate (x * y).toNat 0)) bs [] ∧ Fm (fun z => z = ha.size) h0 h' ∧ h'.get ha.size = some ⟨[.int .i64 x, .int .i64 y, .int .i64 b, .slice oa i c], .own⟩ ∧
      i ≤ n ∧ k = n - i ∧ t = [(0, some (.int .i64 x)), (1, some (.int .i64 y)), (8, some (.pointer (some ⟨h.size, 0, none⟩))), (9, some (.pointer (some ⟨ha.size, 0, none⟩))), (14, some (.int .i64 (n : Int))), (15, some (.int .i64 (i : Int)))])
    ⟨n, 0, none, 0, [], w0, O2.nil, Fm.refl, gb0, by omega, rfl, rfl⟩ ?_
  rintro k t h1 ⟨i, oa, c, bs, w1, o1, f1, g1, hi, rfl, rfl⟩
  have hs1 := f1.size
  by_cases hin : i < n
  · simp +contextual (disch := omega) only [↓AM, ↓AV, AP, CQ, hin, rd_mk g1, i64, rep_iV]
    have ow2 := Ow.zeros (h := h1) (n := (x * y).toNat)
    obtain ⟨h2, e2⟩ : ∃ g, h1.new ⟨iV (List.replicate (x * y).toNat 0), .own⟩ = g := ⟨_, rfl⟩
    have w2 : Wf h2 := e2 ▸ w1.new
    have f2 : Fm No h1 h2 := e2 ▸ Fm.new Fm.refl
    rw [e2] at ow2
    have oo := o1.out.keep w1 f2 (fun _ _ f => f)
    rw [List.length_replicate, List.length_nil, Nat.add_zero, List.append_nil] at oo
    simp +contextual (disch := omega) only [e2]
    refine ⟨by omega, ?_⟩
    refine oo.push (m := 1) (xs := [.slice (some ⟨h1.size, 0, none⟩) (x * y).toNat (x * y).toNat]) w2 rfl (by omega) fun oa' c' h3 o3 w3 f3 n3 => ?_
    have g2 := f2.keep w1 g1 (fun f => f)
    have hna : ¬ At oa ha.size := fun f => by have := o1.nwO _ f; omega
    have g3 := f3.keep w2 g2 hna
    obtain ⟨h4, e4⟩ : ∃ g, h3.put ha.size ⟨[.int .i64 x, .int .i64 y, .int .i64 b, .slice oa' (i + 1) c'], .own⟩ = g := ⟨_, rfl⟩
    have w4 : Wf h4 := e4 ▸ w3.put (w3.lt g3)
    have f4 : Fm (fun z => z = ha.size) h3 h4 := e4 ▸ Fm.put Fm.refl fun _ => rfl
    have g4 : h4.get ha.size = some ⟨[.int .i64 x, .int .i64 y, .int .i64 b, .slice oa' (i + 1) c'], .own⟩ := e4 ▸ gput
    have f13 : Fm (fun z => z = ha.size) h0 h3 := Fm.nw (f1.trans (f2.mono fun _ _ f => f.elim) fun _ _ x => x) f3 o1.nwO
    have hlr : (List.replicate (x * y).toNat (0 : Int)).length = (x * y).toNat := List.length_replicate
    have o3' := o1.push (l := List.replicate (x * y).toNat 0) (ob := some ⟨h1.size, 0, none⟩) (cc := (x * y).toNat) w1 hs1 f2 w2 (by rw [hlr]; exact ow2) nw_new (by rw [List.length_replicate, hlr]; exact o3) f3 n3
    have o4 := o3'.keepB w3 f4 (fun z hz => by have : z = ha.size := hz; omega)
    simp +contextual (disch := omega) only [↓AM, ↓AV, AP, CQ, hin, rd_mk g3, g3, spl_S, spl_0, spl_00, e4, i64]
    refine ⟨n - (i + 1), by omega, i + 1, oa', c', bs ++ [(some ⟨h1.size, 0, none⟩, (x * y).toNat)], w4, ?_, f13.trans f4 (fun _ _ x => x), rfl, by omega, rfl, rfl⟩
    rw [List.replicate_succ']
    exact o4
  · have hie : i = n := by omega
    subst hie
    have gb1 := f1.keep w0 ga0 (fun f => by have : h.size = ha.size := f; omega)
    have f1h : Fm No h h1 := f0.trans f1 fun z hz hy => by have : z = ha.size := hy; omega
    obtain ⟨h4, e4⟩ : ∃ g, h1.put h.size ⟨[.int .i64 x, .int .i64 y, .int .i64 b, .slice oa i c], .own⟩ = g := ⟨_, rfl⟩
    have f4 : Fm (fun z => z = h.size) h1 h4 := e4 ▸ Fm.put Fm.refl fun _ => rfl
    have g4 : h4.get h.size = some ⟨[.int .i64 x, .int .i64 y, .int .i64 b, .slice oa i c], .own⟩ := e4 ▸ gput
    have n3 : h1.rdN ha.size 0 4 = some [.int .i64 x, .int .i64 y, .int .i64 b, .slice oa i c] := rdN_mk g1 (by simp)
    have n4 : h4.rdN h.size 0 4 = some [.int .i64 x, .int .i64 y, .int .i64 b, .slice oa i c] := rdN_mk g4 (by simp)
    simp +contextual (disch := omega) only [↓AM, ↓AV, AP, CQ, hin, n3, gb1, spl_S, spl_0, spl_00, e4, n4]
    have o4 := o1.keepB w1 f4 (fun z hz => by have : z = h.size := hz; omega)
    have hle := o4.out.le
    rw [List.length_replicate, List.length_nil, Nat.add_zero] at hle
    exact ⟨⟨oa, c, bs, by simp only [imC, zim, Im.wd, Im.hg, Im.bt, Im.pl, List.length_replicate], o4.older (by omega), by rw [show (zim x y b i).pl.length = i from List.length_replicate]; exact hle⟩, f1h.trans f4 fun z hz hy => by have : z = h.size := hy; omega⟩

/-! ### the document's copies -/
theorem c_CopyInts {h : Hp} {a : Option Addr} {c : Nat} {L : List Int} (r : Rd h 1 a L.length (iV L)) (hn : L.length ≤ 1000000) :
    ACalls Tryz.prog 88 [.slice a L.length c] h fun v h' => ∃ oa cap, v = .slice oa L.length cap ∧ Ow h' 1 oa L.length cap (iV L) ∧ Nw h oa ∧ Fm No h h' := by
  refine dioramaref00_CopyInts_ok.snd Af.hm rfl fun w => ?_
  rw [WF_eq, dioramaref00_CopyInts]
  have ow0 := Ow.new (h := h) (z := 1) (n := L.length) (m := 0) (cs := rep L.length [.int .i64 0]) (by simp [rep_iV, iV]) (Nat.zero_le _)
  obtain ⟨h0, e0⟩ : ∃ g, h.new ⟨rep L.length [.int .i64 0], .own⟩ = g := ⟨_, rfl⟩
  have w0 : Wf h0 := e0 ▸ w.new
  have f0 : Fm No h h0 := e0 ▸ Fm.new Fm.refl
  rw [e0] at ow0
  simp +contextual (disch := omega) only [↓AM, ↓AV, AP, CQ, e0]
  refine ⟨by omega, ?_⟩
  refine WL.mk (fun k t h' => ∃ (i : Nat) (oa : Option Addr) (cap : Nat), Wf h' ∧ Fm No h h' ∧ Nw h oa ∧ Ow h' 1 oa i cap (iV (L.take i)) ∧ i ≤ L.length ∧ k = L.length - i ∧
      t = [(0, some (.slice a L.length c)), (3, some (.slice oa i cap)), (4, some (.int .i64 (i : Int)))])
    ⟨L.length, 0, some ⟨h.size, 0, none⟩, L.length, w0, f0, nw_new, by simpa [iV] using ow0, by omega, rfl, rfl⟩ ?_
  rintro k t h1 ⟨i, oa, cap, w1, f1, n1, o1, hi, rfl, rfl⟩
  by_cases hin : i < L.length
  · obtain ⟨b1, p1, s1, rfl, fl1, x, hx, r1⟩ := Rd.int (r.keep w f1 (fun _ _ => id)) hin
    simp +contextual (disch := omega) only [↓AM, ↓AV, AP, CQ, hin, fl1, r1]
    refine o1.push (m := 1) (xs := [.int .i64 x]) w1 rfl (by omega) fun oa' c' h3 o3 w3 f3 n3 => ?_
    obtain ⟨g1, g2⟩ := grown f1 n1 f3 n3
    simp +contextual (disch := omega) only [↓AM, ↓AV, AP, CQ, i64]
    refine ⟨L.length - (i + 1), by omega, i + 1, oa', c', w3, g1, g2, ?_, by omega, rfl, rfl⟩
    rw [List.take_add_one, hx]
    simp only [Option.toList_some, iV_snoc]
    exact o3
  · have hie : i = L.length := by omega
    subst hie
    simp +contextual (disch := omega) only [↓AM, ↓AV, AP, CQ, hin]
    rw [List.take_of_length_le (Nat.le_refl _)] at o1
    exact ⟨oa, cap, rfl, o1, n1, f1⟩
theorem c_CopyRows {h : Hp} {a : Option Addr} {c : Nat} {L : List (List Int)} (r : R2 h a L) (hs : Sm L) :
    ACalls Tryz.prog 66 [.slice a L.length c] h fun v h' => ∃ oa cap bs, v = .slice oa L.length cap ∧ O2 h h' oa cap L bs [] ∧ Fm No h h' := by
  refine dioramaref00_CopyRows_ok.snd Af.hm rfl fun w => ?_
  rw [WF_eq, dioramaref00_CopyRows]
  have hl := hs.1
  have hrl : (rep L.length [Value.slice none 0 0]).length = L.length * 1 := by
    rw [Nat.mul_one]; generalize L.length = n
    induction n with
    | zero => rfl
    | succ n ih => simp only [rep, List.replicate_succ, List.flatten_cons, List.length_append] at ih ⊢; rw [ih]; simp; omega
  have ow0 := Ow.new (h := h) (z := 1) (n := L.length) (m := 0) (cs := rep L.length [.slice none 0 0]) hrl (Nat.zero_le _)
  obtain ⟨h0, e0⟩ : ∃ g, h.new ⟨rep L.length [.slice none 0 0], .own⟩ = g := ⟨_, rfl⟩
  have w0 : Wf h0 := e0 ▸ w.new
  have f0 : Fm No h h0 := e0 ▸ Fm.new Fm.refl
  rw [e0] at ow0
  simp +contextual (disch := omega) only [↓AM, ↓AV, AP, CQ, e0]
  refine ⟨by omega, ?_⟩
  refine WL.mk (fun k t h' => ∃ (i : Nat) (oa : Option Addr) (cap : Nat) (bs : Bl), Wf h' ∧ Fm No h h' ∧ O2 h h' oa cap (L.take i) bs [] ∧ i ≤ L.length ∧ k = L.length - i ∧
      t = [(0, some (.slice a L.length c)), (3, some (.slice oa i cap)), (4, some (.int .i64 (i : Int)))])
    ⟨L.length, 0, some ⟨h.size, 0, none⟩, L.length, [], w0, f0, ⟨rfl, by simpa [mkS] using ow0, (fun i l b h => by simp at h), (fun i j b b' x h => by simp at h), (fun b hb => by cases hb), nw_new, (fun b hb => by cases hb)⟩, by omega, rfl, rfl⟩ ?_
  rintro k t h1 ⟨i, oa, cap, bs, w1, f1, o1, hi, rfl, rfl⟩
  by_cases hin : i < L.length
  · obtain ⟨b1, p1, s1, ob, cc, l, rfl, fl1, hl1, r1, l1, q1⟩ := (r.keep w f1).at hin
    simp +contextual (disch := omega) only [↓AM, ↓AV, AP, CQ, hin, fl1, r1]
    refine (c_CopyInts q1 (hs.2 l (List.mem_of_getElem? hl1))).use ?_
    rintro _ h2 w2 ⟨ob2, cc2, rfl, ow2, nw2, f2⟩
    have htl : (L.take i).length = i := by rw [List.length_take]; omega
    have oo := o1.out.keep w1 f2 (fun _ _ f => f)
    rw [htl, List.length_nil, Nat.add_zero, List.append_nil] at oo
    simp +contextual (disch := omega) only [↓AM, ↓AV, AP, CQ]
    refine oo.push (m := 1) (xs := [.slice ob2 l.length cc2]) w2 rfl (by omega) fun oa' c' h3 o3 w3 f3 n3 => ?_
    simp +contextual (disch := omega) only [↓AM, ↓AV, AP, CQ, i64]
    have f12 := f1.trans f2 fun _ _ x => x
    refine ⟨L.length - (i + 1), by omega, i + 1, oa', c', bs ++ [(ob2, cc2)], w3, Fm.nw f12 f3 o1.nwO, ?_, by omega, rfl, rfl⟩
    rw [List.take_add_one, hl1]
    exact o1.push w1 f1.size f2 w2 ow2 nw2 (by rw [htl]; exact o3) f3 n3
  · have hie : i = L.length := by omega
    subst hie
    simp +contextual (disch := omega) only [↓AM, ↓AV, AP, CQ, hin]
    rw [List.take_of_length_le (Nat.le_refl _)] at o1
    exact ⟨oa, cap, bs, rfl, o1, f1⟩
theorem c_CopyImage {h : Hp} {m : Im} {oa : Option Addr} {c : Nat} (r : R2 h oa m.pl) (hs : Sm m.pl) :
    ACalls Tryz.prog 24 [.agg (imC m oa c).toArray] h fun v h' => OI h h' v m ∧ Fm No h h' := by
  refine dioramaref00_CopyImage_ok.snd Af.hm rfl fun w => ?_
  rw [WF_eq, dioramaref00_CopyImage]
  obtain ⟨ha, ea⟩ : ∃ g, h.new ⟨[.int .i64 m.wd, .int .i64 m.hg, .int .i64 m.bt, .slice oa m.pl.length c], .own⟩ = g := ⟨_, rfl⟩
  have wa : Wf ha := ea ▸ w.new
  have fa : Fm No h ha := ea ▸ Fm.new Fm.refl
  have ga : ha.get h.size = some ⟨[.int .i64 m.wd, .int .i64 m.hg, .int .i64 m.bt, .slice oa m.pl.length c], .own⟩ := ea ▸ gnew
  have sa : ha.size = h.size + 1 := by rw [← ea]; rfl
  obtain ⟨hb, eb⟩ : ∃ g, ha.new ⟨[.int .i64 0, .int .i64 0, .int .i64 0, .slice none 0 0], .own⟩ = g := ⟨_, rfl⟩
  have wb : Wf hb := eb ▸ wa.new
  have fb : Fm No ha hb := eb ▸ Fm.new Fm.refl
  have gb : hb.get ha.size = some ⟨[.int .i64 0, .int .i64 0, .int .i64 0, .slice none 0 0], .own⟩ := eb ▸ gnew
  have sb : hb.size = ha.size + 1 := by rw [← eb]; rfl
  obtain ⟨h0, e0⟩ : ∃ g, hb.new ⟨[.int .i64 m.wd, .int .i64 m.hg, .int .i64 m.bt, .slice oa m.pl.length c], .own⟩ = g := ⟨_, rfl⟩
  have w0 : Wf h0 := e0 ▸ wb.new
  have fc : Fm No hb h0 := e0 ▸ Fm.new Fm.refl
  have gc0 : h0.get hb.size = some ⟨[.int .i64 m.wd, .int .i64 m.hg, .int .i64 m.bt, .slice oa m.pl.length c], .own⟩ := e0 ▸ gnew
  have s0 : h0.size = hb.size + 1 := by rw [← e0]; rfl
  have fac := fb.trans fc fun _ _ x => x
  have ga0 := fac.keep wa ga (fun f => f)
  have gb0 := fc.keep wb gb (fun f => f)
  have f0 : Fm No h h0 := fa.trans fac fun _ _ x => x
  have nb : hb.rdN h.size 0 4 = some [.int .i64 m.wd, .int .i64 m.hg, .int .i64 m.bt, .slice oa m.pl.length c] := rdN_mk (fb.keep wa ga (fun f => f)) (by simp)
  simp +contextual (disch := omega) only [↓AM, ↓AV, AP, CQ, imC, ea, eb, nb, e0, rd_mk ga0]
  refine (c_CopyRows (r.keep w f0) hs).use ?_
  rintro _ h1 w1 ⟨oa1, cap, bs, rfl, o1, f1⟩
  have gc1 := f1.keep w0 gc0 (fun f => f)
  have gb1 := f1.keep w0 gb0 (fun f => f)
  have hs1 := f1.size
  obtain ⟨h2, e2⟩ : ∃ g, h1.put hb.size ⟨[.int .i64 m.wd, .int .i64 m.hg, .int .i64 m.bt, .slice oa1 m.pl.length cap], .own⟩ = g := ⟨_, rfl⟩
  have w2 : Wf h2 := e2 ▸ w1.put (w1.lt gc1)
  have f2 : Fm (fun x => x = hb.size) h1 h2 := e2 ▸ Fm.put Fm.refl fun _ => rfl
  have gc2 : h2.get hb.size = some ⟨[.int .i64 m.wd, .int .i64 m.hg, .int .i64 m.bt, .slice oa1 m.pl.length cap], .own⟩ := e2 ▸ gput
  have gb2 := f2.keep w1 gb1 (fun f => by have : ha.size = hb.size := f; omega)
  obtain ⟨h3, e3⟩ : ∃ g, h2.put ha.size ⟨[.int .i64 m.wd, .int .i64 m.hg, .int .i64 m.bt, .slice oa1 m.pl.length cap], .own⟩ = g := ⟨_, rfl⟩
  have f3 : Fm (fun x => x = ha.size) h2 h3 := e3 ▸ Fm.put Fm.refl fun _ => rfl
  have gb3 : h3.get ha.size = some ⟨[.int .i64 m.wd, .int .i64 m.hg, .int .i64 m.bt, .slice oa1 m.pl.length cap], .own⟩ := e3 ▸ gput
  have n2 : h2.rdN hb.size 0 4 = some [.int .i64 m.wd, .int .i64 m.hg, .int .i64 m.bt, .slice oa1 m.pl.length cap] := rdN_mk gc2 (by simp)
  have n3 : h3.rdN ha.size 0 4 = some [.int .i64 m.wd, .int .i64 m.hg, .int .i64 m.bt, .slice oa1 m.pl.length cap] := rdN_mk gb3 (by simp)
  simp +contextual (disch := omega) only [↓AM, ↓AV, AP, CQ, ea, eb, e0, gc1, spl_S, spl_0, spl_00, e2, n2, gb2, e3, n3]
  have o2 := (o1.keepB w1 f2 (fun z hz => by have : z = hb.size := hz; omega)).keepB w2 f3 (fun z hz => by have : z = ha.size := hz; omega)
  have hle := o2.out.le
  refine ⟨⟨oa1, cap, bs, rfl, o2.older (by omega), by simpa using hle⟩, ?_⟩
  exact ((f0.trans f1 fun _ _ x => x).trans f2 fun z hz hy => by have : z = hb.size := hy; omega).trans f3 fun z hz hy => by have : z = ha.size := hy; omega
end Go.Proofs.YtmkcngcnedjfkaaGreat.It

/- Turned and flipped rows, plain.
   Conditions: none. -/
namespace Go.Proofs.YtmkcngcnedjfkaaGreat.It
set_option linter.unusedVariables false

def rot1 (w h : Nat) (l : List Int) : List Int := (List.range (w * h)).map fun k => l.getD ((h - 1 - k % h) * w + k / h) 0
def flp1 (w h : Nat) (l : List Int) : List Int := (List.range (w * h)).map fun k => l.getD (k / w * w + (w - 1 - k % w)) 0
theorem rot1_len (w h : Nat) (l : List Int) : (rot1 w h l).length = w * h := by simp [rot1]
theorem flp1_len (w h : Nat) (l : List Int) : (flp1 w h l).length = w * h := by simp [flp1]
theorem at_lt {a b x y : Nat} (hx : x < a) (hy : y < b) : y * a + x < a * b := by
  have : (y + 1) * a ≤ b * a := Nat.mul_le_mul_right _ hy
  rw [Nat.add_mul, Nat.one_mul, Nat.mul_comm b a] at this
  omega
theorem at_mod {a x y : Nat} (hx : x < a) : (y * a + x) % a = x := by rw [Nat.mul_comm, Nat.mul_add_mod, Nat.mod_eq_of_lt hx]
theorem at_div {a x y : Nat} (hx : x < a) : (y * a + x) / a = y := by
  rw [Nat.mul_comm, Nat.mul_add_div (by omega), Nat.div_eq_of_lt hx, Nat.add_zero]
theorem at_eq {a k : Nat} : k / a * a + k % a = k := by rw [Nat.mul_comm]; exact Nat.div_add_mod k a
theorem rot1_at {w h x y : Nat} {l : List Int} (hx : x < h) (hy : y < w) : (rot1 w h l)[y * h + x]? = some (l.getD ((h - 1 - x) * w + y) 0) := by
  have hlt : y * h + x < w * h := by have := at_lt hx hy; rw [Nat.mul_comm w h]; exact this
  rw [rot1, List.getElem?_map, List.getElem?_range hlt]
  simp only [Option.map_some]
  rw [at_mod hx, at_div hx]
theorem flp1_at {w h x y : Nat} {l : List Int} (hx : x < w) (hy : y < h) : (flp1 w h l)[y * w + x]? = some (l.getD (y * w + (w - 1 - x)) 0) := by
  have hlt : y * w + x < w * h := at_lt hx hy
  rw [flp1, List.getElem?_map, List.getElem?_range hlt]
  simp only [Option.map_some]
  rw [at_mod hx, at_div hx]
theorem getD_of {l : List Int} {i : Nat} {v : Int} (h : l[i]? = some v) : l.getD i 0 = v := by simp [List.getD, h]
theorem src_lt {w h x y : Nat} (hx : x < h) (hy : y < w) : (h - 1 - x) * w + y < w * h := at_lt hy (by omega)
/-- Lists that agree at all places of a picture. -/
theorem ext_at {w h : Nat} {a b : List Int} (ha : a.length = w * h) (hb : b.length = w * h) (hab : ∀ x y, x < w → y < h → a[y * w + x]? = b[y * w + x]?) : a = b := by
  apply List.ext_getElem?
  intro k
  by_cases hk : k < w * h
  · have hw : 0 < w := by
      rcases Nat.eq_zero_or_pos w with h0 | h0
      · rw [h0, Nat.zero_mul] at hk; omega
      · exact h0
    have := hab (k % w) (k / w) (Nat.mod_lt _ hw) (Nat.div_lt_of_lt_mul hk)
    rwa [at_eq] at this
  · rw [List.getElem?_eq_none (by omega), List.getElem?_eq_none (by omega)]
theorem rot2_at {w h x y : Nat} {l : List Int} (hx : x < w) (hy : y < h) (hl : l.length = w * h) : (rot1 h w (rot1 w h l))[y * w + x]? = l[(h - 1 - y) * w + (w - 1 - x)]? := by
  rw [rot1_at hx hy]
  have h1 : (rot1 w h l)[(w - 1 - x) * h + y]? = some (l.getD ((h - 1 - y) * w + (w - 1 - x)) 0) := rot1_at hy (by omega)
  rw [getD_of h1]
  have hlt : (h - 1 - y) * w + (w - 1 - x) < l.length := by rw [hl]; exact at_lt (by omega) (by omega)
  rw [List.getElem?_eq_getElem hlt, getD_of (List.getElem?_eq_getElem hlt)]
/-- Four quarters are nothing. -/
theorem rot4 {w h : Nat} {l : List Int} (hl : l.length = w * h) : rot1 h w (rot1 w h (rot1 h w (rot1 w h l))) = l := by
  refine ext_at (by rw [rot1_len, Nat.mul_comm]) hl fun x y hx hy => ?_
  have h2 : (rot1 h w (rot1 w h l)).length = w * h := by rw [rot1_len, Nat.mul_comm]
  rw [rot2_at hx hy h2, rot2_at (by omega) (by omega) hl]
  congr 2
  · congr 1; omega
  · omega
theorem flp2 {w h : Nat} {l : List Int} (hl : l.length = w * h) : flp1 w h (flp1 w h l) = l := by
  refine ext_at (flp1_len _ _ _) hl fun x y hx hy => ?_
  rw [flp1_at hx hy]
  have h1 : (flp1 w h l)[y * w + (w - 1 - x)]? = some (l.getD (y * w + (w - 1 - (w - 1 - x))) 0) := flp1_at (by omega) hy
  rw [getD_of h1, show w - 1 - (w - 1 - x) = x by omega]
  have hlt : y * w + x < l.length := by rw [hl]; exact at_lt hx hy
  rw [List.getElem?_eq_getElem hlt, getD_of (List.getElem?_eq_getElem hlt)]
theorem rot1_mem {w h : Nat} {l : List Int} {p : Int → Prop} (hl : l.length = w * h) (hp : ∀ v ∈ l, p v) : ∀ v ∈ rot1 w h l, p v := by
  intro v hv
  obtain ⟨k, hk, rfl⟩ := List.mem_map.1 hv
  have hk := List.mem_range.1 hk
  have hw : 0 < h := by
    rcases Nat.eq_zero_or_pos h with h0 | h0
    · rw [h0, Nat.mul_zero] at hk; omega
    · exact h0
  have hlt : (h - 1 - k % h) * w + k / h < l.length := by rw [hl]; exact src_lt (Nat.mod_lt _ hw) (Nat.div_lt_of_lt_mul (by rw [Nat.mul_comm]; exact hk))
  rw [getD_of (List.getElem?_eq_getElem hlt)]
  exact hp _ (List.getElem_mem hlt)
theorem flp1_mem {w h : Nat} {l : List Int} {p : Int → Prop} (hl : l.length = w * h) (hp : ∀ v ∈ l, p v) : ∀ v ∈ flp1 w h l, p v := by
  intro v hv
  obtain ⟨k, hk, rfl⟩ := List.mem_map.1 hv
  have hk := List.mem_range.1 hk
  have hw : 0 < w := by
    rcases Nat.eq_zero_or_pos w with h0 | h0
    · rw [h0, Nat.zero_mul] at hk; omega
    · exact h0
  have hlt : k / w * w + (w - 1 - k % w) < l.length := by rw [hl]; exact at_lt (by omega) (Nat.div_lt_of_lt_mul hk)
  rw [getD_of (List.getElem?_eq_getElem hlt)]
  exact hp _ (List.getElem_mem hlt)
/-- The first y rows flipped. -/
def flpTo (w h y : Nat) (l : List Int) : List Int := (flp1 w h l).take (y * w) ++ l.drop (y * w)
theorem flpTo_0 {w h : Nat} {l : List Int} : flpTo w h 0 l = l := by simp [flpTo]
theorem flpTo_h {w h : Nat} {l : List Int} (hl : l.length = w * h) : flpTo w h h l = flp1 w h l := by
  unfold flpTo
  rw [Nat.mul_comm h w, List.take_of_length_le (by rw [flp1_len]; exact Nat.le_refl _), List.drop_of_length_le (by rw [hl]; exact Nat.le_refl _), List.append_nil]
theorem flpTo_len {w h y : Nat} {l : List Int} (hl : l.length = w * h) (hy : y ≤ h) : (flpTo w h y l).length = w * h := by
  have : y * w ≤ w * h := by rw [Nat.mul_comm w h]; exact Nat.mul_le_mul_right _ hy
  unfold flpTo
  rw [List.length_append, List.length_take, flp1_len, List.length_drop, hl]
  omega
/-- A row of a picture, flipped. -/
theorem flp_row {w h y : Nat} {l : List Int} (hl : l.length = w * h) (hy : y < h) : ((l.drop (y * w)).take w).reverse = ((flp1 w h l).drop (y * w)).take w := by
  have hle : y * w + w ≤ w * h := by
    have := Nat.mul_le_mul_right w (show y + 1 ≤ h from hy)
    rw [Nat.add_mul, Nat.one_mul, Nat.mul_comm h w] at this
    exact this
  have h1 : ((l.drop (y * w)).take w).length = w := by rw [List.length_take, List.length_drop, hl]; omega
  apply List.ext_getElem?
  intro x
  by_cases hx : x < w
  · rw [List.getElem?_reverse (by omega), h1, List.getElem?_take, if_pos (by omega), List.getElem?_drop, List.getElem?_take, if_pos hx, List.getElem?_drop, flp1_at hx hy]
    have hlt : y * w + (w - 1 - x) < l.length := by rw [hl]; omega
    rw [List.getElem?_eq_getElem hlt, getD_of (List.getElem?_eq_getElem hlt)]
  · rw [List.getElem?_eq_none (by rw [List.length_reverse]; omega), List.getElem?_eq_none (by rw [List.length_take]; omega)]
theorem flp_next {w h y : Nat} {l : List Int} (hl : l.length = w * h) (hy : y < h) : (flpTo w h y l).take (y * w) ++ (((flpTo w h y l).drop (y * w)).take w).reverse ++ (flpTo w h y l).drop (y * w + w) = flpTo w h (y + 1) l := by
  have hle : y * w + w ≤ w * h := by
    have := Nat.mul_le_mul_right w (show y + 1 ≤ h from hy)
    rw [Nat.add_mul, Nat.one_mul, Nat.mul_comm h w] at this
    exact this
  have ht : ((flp1 w h l).take (y * w)).length = y * w := by rw [List.length_take, flp1_len]; omega
  have e1 : (flpTo w h y l).take (y * w) = (flp1 w h l).take (y * w) := by
    unfold flpTo; rw [List.take_append_of_le_length (by rw [ht]; exact Nat.le_refl _), List.take_of_length_le (by rw [ht]; exact Nat.le_refl _)]
  have e2 : (flpTo w h y l).drop (y * w) = l.drop (y * w) := by
    unfold flpTo; rw [List.drop_append, ht, Nat.sub_self, List.drop_of_length_le (by rw [ht]; exact Nat.le_refl _), List.drop_zero, List.nil_append]
  have e3 : (flpTo w h y l).drop (y * w + w) = l.drop (y * w + w) := by rw [← List.drop_drop, e2, List.drop_drop]
  rw [e1, e2, e3, flp_row hl hy]
  unfold flpTo
  rw [show (y + 1) * w = y * w + w by rw [Nat.add_mul, Nat.one_mul], List.take_add]
/-- Turned planes: the first p are done, of the next one k numbers. -/
def stg (w h : Nat) (pl : List (List Int)) (p k : Nat) : List (List Int) :=
  ((pl.map (rot1 w h)).take p ++ List.replicate (pl.length - p) (List.replicate (w * h) 0)).set p ((rot1 w h (pl.getD p [])).take k ++ List.replicate (w * h - k) 0)
theorem stg_len {w h p k : Nat} {pl : List (List Int)} (hp : p ≤ pl.length) : (stg w h pl p k).length = pl.length := by
  simp [stg]; omega
theorem stg_get {w h p k : Nat} {pl : List (List Int)} (hp : p < pl.length) : (stg w h pl p k)[p]? = some ((rot1 w h (pl.getD p [])).take k ++ List.replicate (w * h - k) 0) := by
  rw [stg, List.getElem?_set_self (by simp; omega)]
theorem part_len {w h k : Nat} {l : List Int} (hk : k ≤ w * h) : ((rot1 w h l).take k ++ List.replicate (w * h - k) 0).length = w * h := by
  rw [List.length_append, List.length_take, rot1_len, List.length_replicate]; omega
theorem part_step {w h k : Nat} {l : List Int} {v : Int} (hv : (rot1 w h l)[k]? = some v) : ((rot1 w h l).take k ++ List.replicate (w * h - k) 0).set k v = (rot1 w h l).take (k + 1) ++ List.replicate (w * h - (k + 1)) 0 := by
  have hk : k < w * h := by have := (List.getElem?_eq_some_iff.1 hv).1; rwa [rot1_len] at this
  have hl : ((rot1 w h l).take k).length = k := by rw [List.length_take, rot1_len]; omega
  rw [List.set_append_right _ _ (by omega), hl, Nat.sub_self, List.take_add_one, hv, show w * h - k = (w * h - (k + 1)) + 1 by omega, List.replicate_succ, List.set_cons_zero]
  simp
theorem stg_step {w h p k : Nat} {pl : List (List Int)} {v : Int} (hp : p < pl.length) (hv : (rot1 w h (pl.getD p []))[k]? = some v) :
    (stg w h pl p k).set p (((rot1 w h (pl.getD p [])).take k ++ List.replicate (w * h - k) 0).set k v) = stg w h pl p (k + 1) := by
  rw [part_step hv, stg, List.set_set, stg]
theorem stg_next {w h p : Nat} {pl : List (List Int)} (hp : p < pl.length) : stg w h pl p (w * h) = stg w h pl (p + 1) 0 := by
  have ht : ((pl.map (rot1 w h)).take p).length = p := by rw [List.length_take, List.length_map]; omega
  have ht1 : ((pl.map (rot1 w h)).take (p + 1)).length = p + 1 := by rw [List.length_take, List.length_map]; omega
  have hg : pl[p]? = some (pl.getD p []) := by rw [List.getElem?_eq_getElem hp]; simp [List.getD, List.getElem?_eq_getElem hp]
  have hr : (rot1 w h (pl.getD p [])).take (w * h) = rot1 w h (pl.getD p []) := List.take_of_length_le (by rw [rot1_len]; exact Nat.le_refl _)
  have e1 : (pl.map (rot1 w h)).take (p + 1) = (pl.map (rot1 w h)).take p ++ [rot1 w h (pl.getD p [])] := by rw [List.take_add_one, List.getElem?_map, hg]; rfl
  have e2 : List.replicate (pl.length - p) (List.replicate (w * h) (0 : Int)) = List.replicate (w * h) 0 :: List.replicate (pl.length - (p + 1)) (List.replicate (w * h) 0) := by
    rw [show pl.length - p = (pl.length - (p + 1)) + 1 by omega, List.replicate_succ]
  unfold stg
  rw [List.set_append_right _ _ (by omega), ht, Nat.sub_self, e2, List.set_cons_zero, hr, Nat.sub_self, List.replicate_zero, List.append_nil, List.set_append_right _ _ (by omega), ht1, Nat.sub_self, List.take_zero, List.nil_append, Nat.sub_zero, e1, List.append_assoc, List.singleton_append]
  cases hn : pl.length - (p + 1) with
  | zero => simp
  | succ n => simp [List.replicate_succ]
theorem stg_0 {w h : Nat} {pl : List (List Int)} : stg w h pl 0 0 = List.replicate pl.length (List.replicate (w * h) 0) := by
  unfold stg
  simp only [List.take_zero, List.nil_append, Nat.sub_zero]
  generalize pl.length = n
  cases n with
  | zero => simp
  | succ n => simp [List.replicate_succ]
theorem stg_end {w h : Nat} {pl : List (List Int)} : stg w h pl pl.length 0 = pl.map (rot1 w h) := by
  unfold stg
  rw [Nat.sub_self, List.replicate_zero, List.append_nil, List.take_of_length_le (by simp), List.set_eq_of_length_le (by simp)]
end Go.Proofs.YtmkcngcnedjfkaaGreat.It

/- Pictures turned and flipped, plain.
   Conditions: none. -/
namespace Go.Proofs.YtmkcngcnedjfkaaGreat.It
open Go Go.RowKit Go.Proofs.YtmkcngcnedjfkaaGreat.Am Go.Proofs.YtmkcngcnedjfkaaGreat.Af Go.Proofs.YtmkcngcnedjfkaaGreat.Md
set_option linter.unusedVariables false

/-- A valid picture. -/
structure Good (m : Im) : Prop where
  dim : dimOk m
  len : ∀ l ∈ m.pl, (l.length : Int) = m.wd * m.hg
  pix : ∀ l ∈ m.pl, ∀ v ∈ l, badPix m.bt v = false
theorem pchk_good {m : Im} : pchk m = 0 ↔ Good m := by
  unfold pchk
  constructor
  · intro h
    by_cases h1 : dimOk m
    · rw [if_neg (fun q => q h1)] at h
      by_cases h2 : m.pl.any (badLen m) = true
      · rw [if_pos h2] at h; cases h
      · rw [if_neg h2] at h
        by_cases h3 : (m.pl.any fun l => l.any (badPix m.bt)) = true
        · rw [if_pos h3] at h; cases h
        · refine ⟨h1, fun l hl => ?_, fun l hl v hv => ?_⟩
          · have : badLen m l = false := by
              cases hb : badLen m l
              · rfl
              · exact absurd (List.any_eq_true.2 ⟨l, hl, hb⟩) h2
            have := of_decide_eq_false this
            exact Decidable.not_not.1 this
          · cases hb : badPix m.bt v
            · rfl
            · exact absurd (List.any_eq_true.2 ⟨l, hl, List.any_eq_true.2 ⟨v, hv, hb⟩⟩) h3
    · rw [if_pos h1] at h; cases h
  · intro g
    rw [if_neg (fun q => q g.dim), if_neg, if_neg]
    · intro h
      obtain ⟨l, hl, h2⟩ := List.any_eq_true.1 h
      obtain ⟨v, hv, h3⟩ := List.any_eq_true.1 h2
      rw [g.pix l hl v hv] at h3
      cases h3
    · intro h
      obtain ⟨l, hl, h2⟩ := List.any_eq_true.1 h
      exact absurd (g.len l hl) (of_decide_eq_true h2)
theorem pchk_range (m : Im) : pchk m = 0 ∨ pchk m = 1 ∨ pchk m = 4 := by
  unfold pchk
  split
  · exact .inr (.inl rfl)
  · split
    · exact .inr (.inr rfl)
    · split
      · exact .inr (.inl rfl)
      · exact .inl rfl
def Im.w (m : Im) : Nat := m.wd.toNat
def Im.h (m : Im) : Nat := m.hg.toNat
theorem Good.w_eq {m : Im} (g : Good m) : m.wd = (m.w : Int) ∧ 1 ≤ m.w ∧ m.w ≤ 64 := by have := g.dim.1.1; unfold Im.w; omega
theorem Good.h_eq {m : Im} (g : Good m) : m.hg = (m.h : Int) ∧ 1 ≤ m.h ∧ m.h ≤ 64 := by have := g.dim.1.2; unfold Im.h; omega
theorem Good.len_eq {m : Im} (g : Good m) {l : List Int} (hl : l ∈ m.pl) : l.length = m.w * m.h := by
  have := g.len l hl
  rw [g.w_eq.1, g.h_eq.1] at this
  exact Int.ofNat.inj (by rw [Int.ofNat_eq_natCast, this, Int.ofNat_eq_natCast, Int.natCast_mul])
theorem Good.sz {m : Im} (g : Good m) : m.w * m.h ≤ 4096 := Nat.mul_le_mul g.w_eq.2.2 g.h_eq.2.2
def rot (m : Im) : Im := (m.hg, m.wd, m.bt, m.pl.map (rot1 m.w m.h))
def rotN : Nat → Im → Im
  | 0, m => m
  | n + 1, m => rot (rotN n m)
def flpI (m : Im) : Im := (m.wd, m.hg, m.bt, m.pl.map (flp1 m.w m.h))
def turnS (m : Im) (q : Nat) (f : Bool) : Im := if f then flpI (rotN q m) else rotN q m
theorem rot_w (m : Im) : (rot m).w = m.h := rfl
theorem rot_h (m : Im) : (rot m).h = m.w := rfl
theorem Good.rot {m : Im} (g : Good m) : Good (rot m) := by
  refine ⟨⟨⟨g.dim.1.2, g.dim.1.1⟩, g.dim.2.1, ?_⟩, fun l hl => ?_, fun l hl => ?_⟩
  · have := g.dim.2.2
    show 1 ≤ (((m.pl.map (rot1 m.w m.h)).length : Nat) : Int) ∧ (((m.pl.map (rot1 m.w m.h)).length : Nat) : Int) ≤ 4
    rw [List.length_map]
    exact this
  · obtain ⟨l0, h0, rfl⟩ := List.mem_map.1 hl
    rw [rot1_len]
    show ((m.w * m.h : Nat) : Int) = m.hg * m.wd
    rw [g.w_eq.1, g.h_eq.1, Int.natCast_mul, Int.mul_comm]
  · obtain ⟨l0, h0, rfl⟩ := List.mem_map.1 hl
    exact rot1_mem (g.len_eq h0) (g.pix l0 h0)
theorem Good.flp {m : Im} (g : Good m) : Good (flpI m) := by
  refine ⟨⟨g.dim.1, g.dim.2.1, ?_⟩, fun l hl => ?_, fun l hl => ?_⟩
  · have := g.dim.2.2
    show 1 ≤ (((m.pl.map (flp1 m.w m.h)).length : Nat) : Int) ∧ (((m.pl.map (flp1 m.w m.h)).length : Nat) : Int) ≤ 4
    rw [List.length_map]
    exact this
  · obtain ⟨l0, h0, rfl⟩ := List.mem_map.1 hl
    rw [flp1_len]
    show ((m.w * m.h : Nat) : Int) = m.wd * m.hg
    rw [g.w_eq.1, g.h_eq.1, Int.natCast_mul]
  · obtain ⟨l0, h0, rfl⟩ := List.mem_map.1 hl
    exact flp1_mem (g.len_eq h0) (g.pix l0 h0)
theorem Good.rotN {m : Im} (g : Good m) : ∀ n, Good (rotN n m)
  | 0 => g
  | n + 1 => (g.rotN n).rot
theorem rotN_add (m : Im) (a : Nat) : ∀ k, rotN k (rotN a m) = rotN (a + k) m
  | 0 => rfl
  | k + 1 => by show rot (rotN k (rotN a m)) = rot (rotN (a + k) m); rw [rotN_add m a k]
theorem rotN_4 {m : Im} (g : Good m) : rotN 4 m = m := by
  obtain ⟨w, h, b, pl⟩ := m
  have : rotN 4 (w, h, b, pl) = (w, h, b, ((((pl.map (rot1 w.toNat h.toNat)).map (rot1 h.toNat w.toNat)).map (rot1 w.toNat h.toNat)).map (rot1 h.toNat w.toNat))) := rfl
  rw [this]
  congr 3
  simp only [List.map_map]
  conv => rhs; rw [← List.map_id pl]
  apply List.map_congr_left
  intro l hl
  exact rot4 (g.len_eq hl)
theorem rotN_mod {m : Im} (g : Good m) : ∀ n, rotN n m = rotN (n % 4) m := by
  intro n
  induction n using Nat.strongRecOn with
  | _ n ih =>
    by_cases h : n < 4
    · rw [Nat.mod_eq_of_lt h]
    · have e : n = (n - 4) + 4 := by omega
      rw [e, ← rotN_add, rotN_4 (g.rotN _), ih (n - 4) (by omega)]
      congr 1
      omega
theorem flpI_2 {m : Im} (g : Good m) : flpI (flpI m) = m := by
  obtain ⟨w, h, b, pl⟩ := m
  have : flpI (flpI (w, h, b, pl)) = (w, h, b, (pl.map (flp1 w.toNat h.toNat)).map (flp1 w.toNat h.toNat)) := rfl
  rw [this]
  congr 3
  simp only [List.map_map]
  conv => rhs; rw [← List.map_id pl]
  apply List.map_congr_left
  intro l hl
  exact flp2 (g.len_eq hl)
end Go.Proofs.YtmkcngcnedjfkaaGreat.It

/- Rows reversed in place. Plain theorems over the abstract machine.
   Conditions: none. -/
namespace Go.Proofs.YtmkcngcnedjfkaaGreat.It
open Go Go.RowKit Go.Proofs.YtmkcngcnedjfkaaGreat.Am Go.Proofs.YtmkcngcnedjfkaaGreat.Af Go.Proofs.YtmkcngcnedjfkaaGreat.Md
set_option linter.unusedVariables false
set_option linter.unusedSimpArgs false
set_option linter.defProp false
set_option maxRecDepth 20000
set_option maxHeartbeats 1000000

/-- The first i and the last i numbers exchanged. -/
def rvTo (i : Nat) (L : List Int) : List Int := (List.range L.length).map fun t => if t < i ∨ L.length - i ≤ t then L.getD (L.length - 1 - t) 0 else L.getD t 0
theorem rvTo_len (i : Nat) (L : List Int) : (rvTo i L).length = L.length := by simp [rvTo]
theorem rvTo_get {i t : Nat} {L : List Int} (ht : t < L.length) : (rvTo i L)[t]? = some (if t < i ∨ L.length - i ≤ t then L.getD (L.length - 1 - t) 0 else L.getD t 0) := by
  rw [rvTo, List.getElem?_map, List.getElem?_range ht]; rfl
theorem rvTo_0 (L : List Int) : rvTo 0 L = L := by
  apply List.ext_getElem?
  intro t
  by_cases ht : t < L.length
  · rw [rvTo_get ht, if_neg (by omega), List.getElem?_eq_getElem ht, getD_of (List.getElem?_eq_getElem ht)]
  · rw [List.getElem?_eq_none (by rw [rvTo_len]; omega), List.getElem?_eq_none (by omega)]
theorem rvTo_end {i : Nat} {L : List Int} (h : L.length ≤ 2 * i + 1) : rvTo i L = L.reverse := by
  apply List.ext_getElem?
  intro t
  by_cases ht : t < L.length
  · rw [rvTo_get ht, List.getElem?_reverse ht]
    have h1 : L.length - 1 - t < L.length := by omega
    rw [List.getElem?_eq_getElem h1]
    by_cases hc : t < i ∨ L.length - i ≤ t
    · rw [if_pos hc, getD_of (List.getElem?_eq_getElem h1)]
    · rw [if_neg hc]
      have he : t = L.length - 1 - t := by omega
      rw [← getD_of (List.getElem?_eq_getElem h1), ← he]
  · rw [List.getElem?_eq_none (by rw [rvTo_len]; omega), List.getElem?_eq_none (by rw [List.length_reverse]; omega)]
theorem rvTo_S {i : Nat} {L : List Int} (h : i < L.length - 1 - i) : ((rvTo i L).set i (L.getD (L.length - 1 - i) 0)).set (L.length - 1 - i) (L.getD i 0) = rvTo (i + 1) L := by
  apply List.ext_getElem?
  intro t
  by_cases ht : t < L.length
  · rw [rvTo_get ht, List.getElem?_set, List.getElem?_set, List.length_set, rvTo_len]
    by_cases h1 : L.length - 1 - i = t
    · rw [if_pos h1, if_pos (by omega), if_pos (by omega), ← h1]
      congr 2
      omega
    · rw [if_neg h1]
      by_cases h2 : i = t
      · rw [if_pos h2, if_pos (by omega), if_pos (by omega), h2]
      · rw [if_neg h2, rvTo_get ht]
        by_cases h3 : t < i ∨ L.length - i ≤ t
        · rw [if_pos h3, if_pos (by omega)]
        · rw [if_neg h3, if_neg (by omega)]
  · rw [List.getElem?_eq_none (by simp [rvTo_len]; omega), List.getElem?_eq_none (by rw [rvTo_len]; omega)]
theorem mid_get {pre post : List Value} {S : List Int} {t : Nat} {v : Int} (hv : S[t]? = some v) : (pre ++ iV S ++ post)[pre.length + t]? = some (.int .i64 v) := by
  have ht : t < S.length := (List.getElem?_eq_some_iff.1 hv).1
  rw [List.append_assoc, List.getElem?_append_right (by omega), Nat.add_sub_cancel_left, List.getElem?_append_left (by rw [iV_len]; exact ht)]
  simp [iV, List.getElem?_map, hv]
theorem mid_set {pre post : List Value} {S : List Int} {t : Nat} {v : Int} (ht : t < S.length) : spl (pre ++ iV S ++ post) (pre.length + t) [.int .i64 v] = pre ++ iV (S.set t v) ++ post := by
  rw [spl_one _ _ _ (by simp [iV_len]; omega), List.append_assoc, List.set_append_right _ _ (by omega), Nat.add_sub_cancel_left, List.set_append_left _ _ (by rw [iV_len]; exact ht), iV_set, List.append_assoc]
theorem c_Reverse {h : Hp} {b c : Nat} {sp : Option Nat} {md : Md} {pre post : List Value} {L : List Int} (hmd : (md = .ro) = False) (hf : flagOk sp = true) (hg : h.get b = some ⟨pre ++ iV L ++ post, md⟩) (hn : L.length ≤ 1000000) :
    ACalls Tryz.prog 108 [.slice (some ⟨b, pre.length, sp⟩) L.length c] h fun v h' => h'.get b = some ⟨pre ++ iV L.reverse ++ post, md⟩ ∧ Fm (fun x => x = b) h h' := by
  refine slices_Reverse___int_int__ok.snd Af.hm rfl fun w => ?_
  rw [WF_eq, slices_Reverse___int_int_]
  simp +contextual (disch := omega) only [↓AM, ↓AV, AP, CQ, i64]
  refine WL.mk (fun k t h' => ∃ i : Nat, Wf h' ∧ h'.get b = some ⟨pre ++ iV (rvTo i L) ++ post, md⟩ ∧ Fm (fun x => x = b) h h' ∧ 2 * i ≤ L.length + 1 ∧ k = L.length - i ∧
      t = [(0, some (.slice (some ⟨b, pre.length, sp⟩) L.length c)), (2, some (.int .i64 (i : Int))), (3, some (.int .i64 ((L.length : Int) - 1 - (i : Int))))])
    ⟨L.length, 0, w, by rw [rvTo_0]; exact hg, Fm.refl, by omega, rfl, by simp⟩ ?_
  rintro k t h1 ⟨i, w1, g1, f1, hi, rfl, rfl⟩
  by_cases hin : (i : Int) < (L.length : Int) - 1 - (i : Int)
  · have hi1 : i < L.length := by omega
    have hj1 : L.length - 1 - i < L.length := by omega
    have hj : (L.length : Int) - 1 - (i : Int) = ((L.length - 1 - i : Nat) : Int) := by omega
    have hvi : (rvTo i L)[i]? = some (L.getD i 0) := by rw [rvTo_get hi1, if_neg (by omega)]
    have hvj : (rvTo i L)[L.length - 1 - i]? = some (L.getD (L.length - 1 - i) 0) := by rw [rvTo_get hj1, if_neg (by omega)]
    have ri : h1.rd b (pre.length + i) = some (.int .i64 (L.getD i 0)) := by rw [rd_mk g1]; exact mid_get hvi
    have rj : h1.rd b (pre.length + (L.length - 1 - i)) = some (.int .i64 (L.getD (L.length - 1 - i) 0)) := by rw [rd_mk g1]; exact mid_get hvj
    have l1 : leIs (pre.length + i + 1) (pre ++ iV (rvTo i L) ++ post) = true := by rw [← leIs_p]; simp [iV_len, rvTo_len]; omega
    have s1 : spl (pre ++ iV (rvTo i L) ++ post) (pre.length + i) [.int .i64 (L.getD (L.length - 1 - i) 0)] = pre ++ iV ((rvTo i L).set i (L.getD (L.length - 1 - i) 0)) ++ post := mid_set (by rw [rvTo_len]; exact hi1)
    have l2 : leIs (pre.length + (L.length - 1 - i) + 1) (pre ++ iV ((rvTo i L).set i (L.getD (L.length - 1 - i) 0)) ++ post) = true := by rw [← leIs_p]; simp [iV_len, rvTo_len]; omega
    have s2 : spl (pre ++ iV ((rvTo i L).set i (L.getD (L.length - 1 - i) 0)) ++ post) (pre.length + (L.length - 1 - i)) [.int .i64 (L.getD i 0)] = pre ++ iV (rvTo (i + 1) L) ++ post := by
      rw [mid_set (by rw [List.length_set, rvTo_len]; exact hj1), rvTo_S (by omega)]
    rw [hj]
    have hin2 : i < L.length - 1 - i := by omega
    simp +contextual (disch := omega) only [↓AM, ↓AV, AP, CQ, hin2, hf, hi1, hj1, ri, rj, g1, l1, hmd, s1, put_put, l2, s2, i64]
    refine ⟨L.length - (i + 1), by omega, i + 1, w1.put (w1.lt g1), rfl, f1.put fun _ => rfl, by omega, rfl, ?_⟩
    rw [show ((L.length - 1 - i : Nat) : Int) - 1 = (L.length : Int) - 1 - ((i + 1 : Nat) : Int) by omega]
  · simp +contextual (disch := omega) only [↓AM, ↓AV, AP, CQ, hin]
    rw [rvTo_end (by omega)] at g1
    exact ⟨g1, f1⟩
/-- What a row of one's own lies in. -/
theorem Ow.re {h : Hp} {oa : Option Addr} {cap : Nat} {L : List Int} (o : Ow h 1 oa L.length cap (iV L)) (hn : 0 < L.length) :
    ∃ b sp md post, oa = some ⟨b, 0, sp⟩ ∧ flagOk sp = true ∧ h.get b = some ⟨iV L ++ post, md⟩ ∧ (md = .ro) = False ∧
      ∀ (h' : Hp) (L' : List Int), L'.length = L.length → h'.get b = some ⟨iV L' ++ post, md⟩ → Ow h' 1 oa L'.length cap (iV L') := by
  rcases oa with _ | ⟨b, off, sp⟩
  · have := o.nil rfl; have := o.le; omega
  · obtain ⟨h0, ob, hg, hmd, hcap, htake, hsp⟩ := o.at_ _ rfl
    have h0 : off = 0 := h0
    subst h0
    obtain ⟨ocs, omd⟩ := ob
    have hcap : cap ≤ ocs.length := by simpa using hcap
    have htake : ocs.take L.length = iV L := by simpa using htake
    have hle := o.le
    refine ⟨b, sp, omd, ocs.drop L.length, rfl, ?_, ?_, by simpa using hmd, fun h' L' hl hg' => ⟨by simp [iV], by omega, (fun e => by cases e), fun a e => ?_⟩⟩
    · rcases hsp with h | h
      · have h : sp = none := h
        subst h; rfl
      · have h : sp = some 0 := h.1
        subst h; rfl
    · rw [← htake, List.take_append_drop]; exact hg
    · cases e
      refine ⟨rfl, _, hg', hmd, ?_, ?_, hsp⟩
      · show cap * 1 ≤ (iV L' ++ ocs.drop L.length).length
        simp [iV]; omega
      · show (iV L' ++ ocs.drop L.length).take _ = _
        rw [List.take_append_of_le_length (by simp [iV]), List.take_of_length_le (by simp [iV])]
end Go.Proofs.YtmkcngcnedjfkaaGreat.It

/- The program turns a picture. Plain theorems over the abstract machine.
   Conditions: none. -/
namespace Go.Proofs.YtmkcngcnedjfkaaGreat.It
open Go Go.RowKit Go.Proofs.YtmkcngcnedjfkaaGreat.Am Go.Proofs.YtmkcngcnedjfkaaGreat.Af Go.Proofs.YtmkcngcnedjfkaaGreat.Md
set_option linter.unusedVariables false
set_option linter.unusedSimpArgs false
set_option linter.defProp false
set_option maxRecDepth 20000
set_option maxHeartbeats 2000000

theorem nmul (a b : Nat) : (a : Int) * (b : Int) = ((a * b : Nat) : Int) := (Int.natCast_mul a b).symm
theorem nsubc {a b : Nat} (h : b ≤ a) : (a : Int) - (b : Int) = ((a - b : Nat) : Int) := by omega
theorem nsubc1 {a : Nat} (h : 1 ≤ a) : (a : Int) - 1 = ((a - 1 : Nat) : Int) := by omega
theorem Good.sm {m : Im} (g : Good m) : Sm m.pl := ⟨by have := g.dim.2.2; omega, fun l hl => by rw [g.len_eq hl]; have := g.sz; omega⟩
/-- The blocks of rows. -/
def InB (bs : Bl) : Nat → Prop := fun x => ∃ b ∈ bs, At b.1 x
theorem c_turned {h : Hp} {m : Im} {oa : Option Addr} {c q : Nat} {f : Bool} (g : Good m) (r : R2 h oa m.pl) (hc : m.pl.length ≤ c) (hq : q ≤ 3) :
    ACalls Tryz.prog 49 [.agg (imC m oa c).toArray, .int .i64 (q : Int), .bool f] h fun v h' => OI h h' v (turnS m q f) ∧ Fm No h h' := by
  refine item_turned_ok.snd Af.hm rfl fun w => ?_
  rw [WF_eq, item_turned]
  obtain ⟨ha, ea⟩ : ∃ g, h.new ⟨[.int .i64 m.wd, .int .i64 m.hg, .int .i64 m.bt, .slice oa m.pl.length c], .own⟩ = g := ⟨_, rfl⟩
  have wa : Wf ha := ea ▸ w.new
  have fa : Fm No h ha := ea ▸ Fm.new Fm.refl
  have ga : ha.get h.size = some ⟨[.int .i64 m.wd, .int .i64 m.hg, .int .i64 m.bt, .slice oa m.pl.length c], .own⟩ := ea ▸ gnew
  have sa : ha.size = h.size + 1 := by rw [← ea]; rfl
  obtain ⟨hb, eb⟩ : ∃ g, ha.new ⟨[.int .i64 0, .int .i64 0, .int .i64 0, .slice none 0 0], .own⟩ = g := ⟨_, rfl⟩
  have wb : Wf hb := eb ▸ wa.new
  have fb : Fm No ha hb := eb ▸ Fm.new Fm.refl
  have gb : hb.get ha.size = some ⟨[.int .i64 0, .int .i64 0, .int .i64 0, .slice none 0 0], .own⟩ := eb ▸ gnew
  have sb : hb.size = ha.size + 1 := by rw [← eb]; rfl
  have fab : Fm No h hb := fa.trans fb fun _ _ x => x
  have na : hb.rdN h.size 0 4 = some [.int .i64 m.wd, .int .i64 m.hg, .int .i64 m.bt, .slice oa m.pl.length c] := rdN_mk (fb.keep wa ga (fun f => f)) (by simp)
  simp +contextual (disch := omega) only [↓AM, ↓AV, AP, CQ, imC, ea, eb, na]
  refine (c_clone (r.keep w fab) hc g.sm).use ?_
  rintro _ h1 w1 ⟨⟨oa1, c1, bs1, rfl, o1, lc1⟩, f1⟩
  have hs1 := f1.size
  obtain ⟨h2, e2⟩ : ∃ g, h1.new ⟨[.int .i64 m.wd, .int .i64 m.hg, .int .i64 m.bt, .slice oa1 m.pl.length c1], .own⟩ = g := ⟨_, rfl⟩
  have w2 : Wf h2 := e2 ▸ w1.new
  have f2 : Fm No h1 h2 := e2 ▸ Fm.new Fm.refl
  have g2 : h2.get h1.size = some ⟨[.int .i64 m.wd, .int .i64 m.hg, .int .i64 m.bt, .slice oa1 m.pl.length c1], .own⟩ := e2 ▸ gnew
  have s2 : h2.size = h1.size + 1 := by rw [← e2]; rfl
  have f12 : Fm No hb h2 := f1.trans f2 fun _ _ x => x
  simp +contextual (disch := omega) only [↓AM, ↓AV, AP, CQ, imC, ea, eb, e2]
  refine WL.mk (fun k t h' => ∃ (i : Nat) (oa : Option Addr) (c : Nat) (bs : Bl), Wf h' ∧ O2 hb h' oa c (rotN i m).pl bs [] ∧ ((∀ x, At oa x → x ≠ h1.size) ∧ ∀ b ∈ bs, ∀ x, At b.1 x → x ≠ h1.size) ∧ h'.get h1.size = some ⟨imC (rotN i m) oa c, .own⟩ ∧
      Fm No hb h' ∧ h2.size ≤ h'.size ∧ i ≤ q ∧ k = q - i ∧ t = [(2, some (.bool f)), (6, some (.pointer (some ⟨ha.size, 0, none⟩))), (7, some (.pointer (some ⟨h1.size, 0, none⟩))), (18, some (.int .i64 (q : Int))), (19, some (.int .i64 (i : Int)))])
    ⟨q, 0, oa1, c1, bs1, w2, o1.keepN w1 f2, ⟨fun x hx e => by have := o1.out.lt w1 x hx; omega, fun b hb' x hx e => by
      obtain ⟨j, hj⟩ := List.getElem?_of_mem hb'
      have hjl : j < m.pl.length := by rw [← o1.bl]; exact (List.getElem?_eq_some_iff.1 hj).1
      have := (o1.inn j _ b (List.getElem?_eq_getElem hjl) hj).lt w1 x hx
      omega⟩, g2, f12, Nat.le_refl _, by omega, rfl, rfl⟩ ?_
  rintro k t hA ⟨i, oa0, c0, bs0, wA, oA, ⟨x1, x2⟩, gA, fA, szA, hi, rfl, rfl⟩
  have gi := g.rotN i
  obtain ⟨hW, hW1, hW2⟩ := gi.w_eq
  obtain ⟨hH, hH1, hH2⟩ := gi.h_eq
  have hsz := gi.sz
  by_cases hin : i < q
  · have hlen4 : (rotN i m).pl.length ≤ 4 := by have := gi.dim.2.2; omega
    have hleq : ∀ l ∈ (rotN i m).pl, l.length = (rotN i m).w * (rotN i m).h := fun l hl => gi.len_eq hl
    have rot_eq : rotN (i + 1) m = (((rotN i m).h : Int), ((rotN i m).w : Int), (rotN i m).bt, (rotN i m).pl.map (rot1 (rotN i m).w (rotN i m).h)) := by
      show rot (rotN i m) = _
      rw [rot, hW, hH]
    generalize hgm : rotN i m = mi at *
    obtain ⟨wi, hgi, bi, pl⟩ := mi
    simp only [Im.wd, Im.hg, Im.bt, Im.pl] at *
    generalize (Im.w (wi, hgi, bi, pl)) = W at *
    generalize (Im.h (wi, hgi, bi, pl)) = H at *
    subst hW hH
    have rA := oA.r2
    have c0A : pl.length ≤ c0 := by have := oA.out.le; simpa using this
    simp only [imC, Im.wd, Im.hg, Im.bt, Im.pl] at gA
    simp +contextual (disch := omega) only [↓AM, ↓AV, AP, CQ, hin, rd_mk gA]
    refine (c_blank (h := hA) (x := (H : Int)) (y := (W : Int)) (b := bi) (n := pl.length) (by omega) (by omega) (by omega)).use ?_
    rintro _ hB wB ⟨⟨on, cn, bsn, rfl, oB, lcn⟩, fB⟩
    have hsB := fB.size
    have hZ : (zim (H : Int) (W : Int) bi pl.length).pl = stg W H pl 0 0 := by
      rw [stg_0]
      show List.replicate pl.length (List.replicate ((H : Int) * (W : Int)).toNat 0) = _
      rw [nmul, Int.toNat_natCast, Nat.mul_comm]
    have hZl : (zim (H : Int) (W : Int) bi pl.length).pl.length = pl.length := by rw [hZ, stg_len (Nat.zero_le _)]
    rw [hZ] at oB
    obtain ⟨hC, eC⟩ : ∃ g, hB.new ⟨[.int .i64 (H : Int), .int .i64 (W : Int), .int .i64 bi, .slice on pl.length cn], .own⟩ = g := ⟨_, rfl⟩
    have wC : Wf hC := eC ▸ wB.new
    have fC : Fm No hB hC := eC ▸ Fm.new Fm.refl
    have gC : hC.get hB.size = some ⟨[.int .i64 (H : Int), .int .i64 (W : Int), .int .i64 bi, .slice on pl.length cn], .own⟩ := eC ▸ gnew
    have sC : hC.size = hB.size + 1 := by rw [← eC]; rfl
    have oC := oB.keepN wB fC
    have fAC : Fm No hA hC := fB.trans fC fun _ _ x => x
    have inlt : ∀ x, InB bsn x → hA.size ≤ x ∧ x < hB.size := fun x ⟨b, hb', hx⟩ => by
      refine ⟨oB.nwI b hb' x hx, ?_⟩
      obtain ⟨j, hj⟩ := List.getElem?_of_mem hb'
      have hjl : j < (stg W H pl 0 0).length := by rw [← oB.bl]; exact (List.getElem?_eq_some_iff.1 hj).1
      exact (oB.inn j _ b (List.getElem?_eq_getElem hjl) hj).lt wB x hx
    have keepA : ∀ g, Fm (InB bsn) hC g → R2 g oa0 pl ∧ g.get h1.size = some ⟨[.int .i64 (W : Int), .int .i64 (H : Int), .int .i64 bi, .slice oa0 pl.length c0], .own⟩ ∧ g.get hB.size = some ⟨[.int .i64 (H : Int), .int .i64 (W : Int), .int .i64 bi, .slice on pl.length cn], .own⟩ := fun g fg => by
      have f' : Fm (InB bsn) hA g := (fAC.mono fun _ _ f => f.elim).trans fg fun _ _ x => x
      have hno : ∀ x, x < hA.size → ¬ InB bsn x := fun x hx f => by have := inlt x f; omega
      exact ⟨rA.keepW wA f' hno, f'.keep wA gA (hno _ (wA.lt gA)), fg.keep wC gC (fun f => by have := inlt _ f; omega)⟩
    have e8 : Value.agg (imC (zim (H : Int) (W : Int) bi pl.length) on cn).toArray = .agg #[.int .i64 (H : Int), .int .i64 (W : Int), .int .i64 bi, .slice on pl.length cn] := by
      unfold imC; rw [hZl]; rfl
    rw [e8]
    have gCA := (keepA hC Fm.refl).2.1
    simp +contextual (disch := omega) only [↓AM, ↓AV, AP, CQ, eC, rd_mk gCA]
    refine WL.mk (fun k t h' => ∃ (p : Nat), Wf h' ∧ O2 hA h' on cn (stg W H pl p 0) bsn [] ∧ Fm (InB bsn) hC h' ∧ p ≤ pl.length ∧ k = pl.length - p ∧
        t = [(2, some (.bool f)), (6, some (.pointer (some ⟨ha.size, 0, none⟩))), (7, some (.pointer (some ⟨h1.size, 0, none⟩))), (8, some (.pointer (some ⟨hB.size, 0, none⟩))), (18, some (.int .i64 (q : Int))), (19, some (.int .i64 (i : Int))),
          (32, some (.slice oa0 pl.length c0)), (33, some (.int .i64 (pl.length : Int))), (34, some (.int .i64 (p : Int)))])
      ⟨pl.length, 0, wC, oC, Fm.refl, by omega, rfl, rfl⟩ ?_
    rintro k t hp1 ⟨p, wp1, op1, fp1, hp, rfl, rfl⟩
    obtain ⟨rp, gp7, gp8⟩ := keepA hp1 fp1
    by_cases hpn : p < pl.length
    · obtain ⟨b1, o1', s1, obl, cl, l, eo1, fl1, hl1, rl1, ll1, ql1⟩ := rp.at hpn
      have hll := hleq l (List.mem_of_getElem? hl1)
      have hgd : pl.getD p [] = l := by simp [List.getD, hl1]
      simp +contextual (disch := omega) only [↓AM, ↓AV, AP, CQ, hpn, eo1, fl1, rl1, rd_mk gp8]
      refine WL.mk (fun k t h' => ∃ (y : Nat), Wf h' ∧ O2 hA h' on cn (stg W H pl p (y * H)) bsn [] ∧ Fm (InB bsn) hC h' ∧ y ≤ W ∧ k = W - y ∧
          t = [(2, some (.bool f)), (6, some (.pointer (some ⟨ha.size, 0, none⟩))), (7, some (.pointer (some ⟨h1.size, 0, none⟩))), (8, some (.pointer (some ⟨hB.size, 0, none⟩))), (9, some (.int .i64 (p : Int))), (10, some (.slice obl l.length cl)), (18, some (.int .i64 (q : Int))), (19, some (.int .i64 (i : Int))),
            (32, some (.slice oa0 pl.length c0)), (33, some (.int .i64 (pl.length : Int))), (34, some (.int .i64 (p : Int))), (40, some (.int .i64 (W : Int))), (41, some (.int .i64 (y : Int)))])
        ⟨W, 0, wp1, by rw [Nat.zero_mul]; exact op1, fp1, by omega, rfl, by rw [eo1]; rfl⟩ ?_
      rintro k t hy1 ⟨y, wy1, oy1, fy1, hy, rfl, rfl⟩
      obtain ⟨ry, gy7, gy8⟩ := keepA hy1 fy1
      by_cases hyn : y < W
      · simp +contextual (disch := omega) only [↓AM, ↓AV, AP, CQ, hyn, rd_mk gy8]
        refine WL.mk (fun k t h' => ∃ (x : Nat), Wf h' ∧ O2 hA h' on cn (stg W H pl p (y * H + x)) bsn [] ∧ Fm (InB bsn) hC h' ∧ x ≤ H ∧ k = H - x ∧
            t = [(2, some (.bool f)), (6, some (.pointer (some ⟨ha.size, 0, none⟩))), (7, some (.pointer (some ⟨h1.size, 0, none⟩))), (8, some (.pointer (some ⟨hB.size, 0, none⟩))), (9, some (.int .i64 (p : Int))), (10, some (.slice obl l.length cl)), (11, some (.int .i64 (y : Int))), (18, some (.int .i64 (q : Int))), (19, some (.int .i64 (i : Int))),
              (32, some (.slice oa0 pl.length c0)), (33, some (.int .i64 (pl.length : Int))), (34, some (.int .i64 (p : Int))), (40, some (.int .i64 (W : Int))), (41, some (.int .i64 (y : Int))), (45, some (.int .i64 (H : Int))), (46, some (.int .i64 (x : Int)))])
          ⟨H, 0, wy1, oy1, fy1, by omega, rfl, rfl⟩ ?_
        rintro k t hx1 ⟨x, wx1, ox1, fx1, hx, rfl, rfl⟩
        obtain ⟨rx, gx7, gx8⟩ := keepA hx1 fx1
        by_cases hxn : x < H
        · have hdst : y * H + x < W * H := by have := at_lt hxn hyn; rw [Nat.mul_comm H W] at this; exact this
          have hsrc : (H - 1 - x) * W + y < W * H := src_lt hxn hyn
          have hyH : y * H ≤ W * H := Nat.mul_le_mul_right _ hy
          have hxW : (H - 1 - x) * W ≤ W * H := by rw [Nat.mul_comm W H]; exact Nat.mul_le_mul_right _ (by omega)
          obtain ⟨bo, spo, lp, ob, cc, eo, fo, hlp, hbp, ro, iw⟩ := ox1.at wx1 (p := p) (by rw [stg_len hp]; exact hpn)
          rw [stg_get hpn, hgd] at hlp
          cases hlp
          have hpl := part_len (w := W) (h := H) (l := l) (Nat.le_of_lt hdst)
          rw [hpl] at ro
          obtain ⟨b2, sp2, obj, v2, e2', f2', g2', m2', le2', _, _, put2⟩ := iw.cell wx1 (i := y * H + x) (by rw [hpl]; exact hdst)
          have qlx : Rd hx1 1 obl l.length (iV l) := by
            obtain ⟨b3, o3, s3, obl', cl', l', e3, _, hl3, rl3, _, ql3⟩ := rx.at hpn
            rw [hl1] at hl3
            cases hl3
            rw [eo1] at e3
            cases e3
            have h1' : hp1.rd b1 (o1' + p) = hx1.rd b1 (o1' + p) := by
              have hbA : b1 < hA.size := by
                obtain ⟨cs, rr, _⟩ := rA
                obtain ⟨bb, oo, ss, vv, ee, _, _, hrd⟩ := rr.one hpn
                rw [eo1] at ee
                cases ee
                unfold Hp.rd at hrd
                split at hrd
                · rename_i ob hob; exact wA.lt hob
                · cases hrd
              have hno : ¬ InB bsn b1 := fun f => by have := inlt _ f; omega
              have hbC : b1 < hC.size := by have := fAC.size; omega
              unfold Hp.rd
              rw [fp1.get b1 hbC hno, fx1.get b1 hbC hno]
            rw [← h1', rl1] at rl3
            cases rl3
            exact ql3
          obtain ⟨b4, o4, s4, e4, f4, v, hv, r4⟩ := Rd.int qlx (i := (H - 1 - x) * W + y) (by rw [hll]; exact hsrc)
          have hrv : (rot1 W H l)[y * H + x]? = some v := by rw [rot1_at hxn hyn, getD_of hv]
          have hsl : (H - 1 - x) * W + y < l.length := by rw [hll]; exact hsrc
          subst eo e4 e2'
          simp +contextual (disch := omega) only [↓AM, ↓AV, AP, CQ, hxn, rd_mk gx8, rd_mk gx7, hpn, fo, ro, nmul, nsubc, nsubc1, i64, hsl, f4, r4, hdst, f2', g2', m2', le2']
          obtain ⟨q1, q2, q3, q4⟩ := put2 (.int .i64 v)
          rw [iV_set] at q2
          have hpl2 : (((rot1 W H l).take (y * H + x) ++ List.replicate (W * H - (y * H + x)) 0).set (y * H + x) v).length = W * H := by rw [List.length_set, hpl]
          have o5 := ox1.upd wx1 (p := p) (l := (rot1 W H l).take (y * H + x) ++ List.replicate (W * H - (y * H + x)) 0) (by rw [stg_get hpn, hgd]) hbp q4 (by rw [List.length_set]; exact q2) (by rw [List.length_set])
          rw [← hgd, stg_step hpn (by rw [hgd]; exact hrv)] at o5
          exact ⟨H - (x + 1), by omega, x + 1, q3, o5, fx1.trans q4 fun z hz hat => ⟨_, List.mem_of_getElem? hbp, hat⟩, by omega, rfl, rfl⟩
        · have hxe : x = H := by omega
          subst hxe
          simp +contextual (disch := omega) only [↓AM, ↓AV, AP, CQ, hxn, i64]
          exact ⟨W - (y + 1), by omega, y + 1, wx1, by rw [Nat.add_mul, Nat.one_mul]; exact ox1, fx1, by omega, rfl, rfl⟩
      · have hye : y = W := by omega
        subst hye
        rw [stg_next hpn] at oy1
        simp +contextual (disch := omega) only [↓AM, ↓AV, AP, CQ, hyn, i64]
        exact ⟨pl.length - (p + 1), by omega, p + 1, wy1, oy1, fy1, by omega, rfl, by rw [eo1]⟩
    · have hpe : p = pl.length := by omega
      subst hpe
      rw [stg_end] at op1
      have n8 : hp1.rdN hB.size 0 4 = some [.int .i64 (H : Int), .int .i64 (W : Int), .int .i64 bi, .slice on pl.length cn] := rdN_mk gp8 (by simp)
      obtain ⟨hD, eD⟩ : ∃ g, hp1.put h1.size ⟨[.int .i64 (H : Int), .int .i64 (W : Int), .int .i64 bi, .slice on pl.length cn], .own⟩ = g := ⟨_, rfl⟩
      have wD : Wf hD := eD ▸ wp1.put (wp1.lt gp7)
      have fD : Fm (fun x => x = h1.size) hp1 hD := eD ▸ Fm.put Fm.refl fun _ => rfl
      have gD : hD.get h1.size = some ⟨[.int .i64 (H : Int), .int .i64 (W : Int), .int .i64 bi, .slice on pl.length cn], .own⟩ := eD ▸ gput
      simp +contextual (disch := omega) only [↓AM, ↓AV, AP, CQ, hpn, n8, gp7, spl_S, spl_0, spl_00, eD, i64]
      have h1A := wA.lt gA
      have oD := op1.keepB wp1 fD (fun z hz => by have : z = h1.size := hz; omega)
      have hsAC := fAC.size
      have hsCp := fp1.size
      have hsD := fD.size
      have fAp : Fm No hA hp1 := fAC.trans fp1 fun z hz hy => by have := inlt z hy; omega
      have fAD : Fm (fun x => x = h1.size) hA hD := (fAp.mono fun _ _ f => f.elim).trans fD fun _ _ x => x
      refine ⟨q - (i + 1), by omega, i + 1, on, cn, bsn, wD, ?_, ⟨fun x hx e => by have := oD.nwO x hx; omega, fun b hb' x hx e => by have := oD.nwI b hb' x hx; omega⟩, ?_, fA.trans fAD fun z hz hy => by have : z = h1.size := hy; omega, by omega, by omega, rfl, rfl⟩
      · rw [rot_eq]
        exact oD.older fA.size
      · rw [rot_eq]
        simp [imC, Im.wd, Im.hg, Im.bt, Im.pl]
  · have hie : i = q := by omega
    subst hie
    have gb2 := fA.keep wb gb (fun f => f)
    have hlen4 : (rotN i m).pl.length ≤ 4 := by have := gi.dim.2.2; omega
    have hleq : ∀ l ∈ (rotN i m).pl, l.length = (rotN i m).w * (rotN i m).h := fun l hl => gi.len_eq hl
    have szA2 := fA.size
    generalize hgm : rotN i m = mi at *
    have hts : turnS m i f = if f then flpI mi else mi := by unfold turnS; rw [hgm]
    obtain ⟨wi, hgi, bi, pl⟩ := mi
    have hfl : flpI (wi, hgi, bi, pl) = (wi, hgi, bi, pl.map (flp1 (Im.w (wi, hgi, bi, pl)) (Im.h (wi, hgi, bi, pl)))) := rfl
    rw [hfl] at hts
    simp only [Im.wd, Im.hg, Im.bt, Im.pl] at *
    generalize (Im.w (wi, hgi, bi, pl)) = W at *
    generalize (Im.h (wi, hgi, bi, pl)) = H at *
    subst hW hH
    have c0A : pl.length ≤ c0 := by have := oA.out.le; simpa using this
    simp only [imC, Im.wd, Im.hg, Im.bt, Im.pl] at gA
    have inlt : ∀ x, InB bs0 x → hb.size ≤ x ∧ x ≠ h1.size := fun x ⟨b, hb', hx⟩ => ⟨oA.nwI b hb' x hx, x2 b hb' x hx⟩
    have keepA : ∀ g, Fm (InB bs0) hA g → g.get h1.size = some ⟨[.int .i64 (W : Int), .int .i64 (H : Int), .int .i64 bi, .slice oa0 pl.length c0], .own⟩ ∧ g.get ha.size = some ⟨[.int .i64 0, .int .i64 0, .int .i64 0, .slice none 0 0], .own⟩ ∧ Fm No h g := fun g fg => by
      refine ⟨fg.keep wA gA fun f => (inlt _ f).2 rfl, fg.keep wA gb2 fun f => by have := (inlt _ f).1; omega, ?_⟩
      exact (fab.trans fA fun _ _ x => x).trans fg fun z hz hy => by have := (inlt z hy).1; omega
    -- what is left: the result is laid down
    have fin : ∀ (g : Hp) (pl' : List (List Int)), Wf g → O2 hb g oa0 c0 pl' bs0 [] → pl'.length = pl.length → Fm (InB bs0) hA g → ∃ g', g.put ha.size ⟨[.int .i64 (W : Int), .int .i64 (H : Int), .int .i64 bi, .slice oa0 pl.length c0], .own⟩ = g' ∧
        g.rdN h1.size 0 4 = some [.int .i64 (W : Int), .int .i64 (H : Int), .int .i64 bi, .slice oa0 pl.length c0] ∧ g'.rdN ha.size 0 4 = some [.int .i64 (W : Int), .int .i64 (H : Int), .int .i64 bi, .slice oa0 pl.length c0] ∧
        OI h g' (.agg #[.int .i64 (W : Int), .int .i64 (H : Int), .int .i64 bi, .slice oa0 pl.length c0]) ((W : Int), (H : Int), bi, pl') ∧ Fm No h g' := fun g pl' wg og hlp fg => by
      obtain ⟨k1, k2, k3⟩ := keepA g fg
      have fp : Fm (fun x => x = ha.size) g (g.put ha.size ⟨[.int .i64 (W : Int), .int .i64 (H : Int), .int .i64 bi, .slice oa0 pl.length c0], .own⟩) := Fm.put Fm.refl fun _ => rfl
      refine ⟨_, rfl, rdN_mk k1 (by simp), rdN_mk gput (by simp), ⟨oa0, c0, bs0, by simp [imC, Im.wd, Im.hg, Im.bt, Im.pl, hlp], (og.keepB wg fp fun z hz => by have : z = ha.size := hz; omega).older (by omega), by show pl'.length ≤ c0; omega⟩, k3.trans fp fun z hz hy => by have : z = ha.size := hy; omega⟩
    cases f with
    | false =>
      obtain ⟨g', eg, n1, n2, oi, fm⟩ := fin hA pl wA oA rfl Fm.refl
      simp +contextual (disch := omega) only [↓AM, ↓AV, AP, CQ, hin, n1, gb2, spl_S, spl_0, spl_00, eg, n2]
      rw [hts]
      exact ⟨oi, fm⟩
    | true =>
      simp +contextual (disch := omega) only [↓AM, ↓AV, AP, CQ, hin, rd_mk gA]
      have stp : ∀ p, p < pl.length → pl[p]? = some (pl.getD p []) := fun p hp => by simp [List.getD, List.getElem?_eq_getElem hp]
      refine WL.mk (fun k t h' => ∃ (p : Nat), Wf h' ∧ O2 hb h' oa0 c0 ((pl.map (flp1 W H)).take p ++ pl.drop p) bs0 [] ∧ Fm (InB bs0) hA h' ∧ p ≤ pl.length ∧ k = pl.length - p ∧
          t = [(6, some (.pointer (some ⟨ha.size, 0, none⟩))), (7, some (.pointer (some ⟨h1.size, 0, none⟩))), (81, some (.slice oa0 pl.length c0)), (82, some (.int .i64 (pl.length : Int))), (83, some (.int .i64 (p : Int)))])
        ⟨pl.length, 0, wA, by simpa using oA, Fm.refl, by omega, rfl, rfl⟩ ?_
      rintro k t hp1 ⟨p, wp1, op1, fp1, hp, rfl, rfl⟩
      obtain ⟨gp7, gp6, _⟩ := keepA hp1 fp1
      by_cases hpn : p < pl.length
      · have htk : ((pl.map (flp1 W H)).take p).length = p := by rw [List.length_take, List.length_map]; omega
        have hlp : ((pl.map (flp1 W H)).take p ++ pl.drop p).length = pl.length := by rw [List.length_append, htk, List.length_drop]; omega
        have hlg : ((pl.map (flp1 W H)).take p ++ pl.drop p)[p]? = some (pl.getD p []) := by rw [List.getElem?_append_right (by omega), htk, Nat.sub_self, List.getElem?_drop, Nat.add_zero]; exact stp p hpn
        obtain ⟨bo, spo, l, ob, cc, eo, fo, hl1, hbp, ro, iw⟩ := op1.at wp1 (p := p) (by rw [hlp]; exact hpn)
        rw [hlg] at hl1
        have hl1 : pl.getD p [] = l := Option.some.inj hl1
        have hll : l.length = W * H := by rw [← hl1]; exact hleq _ (List.mem_of_getElem? (stp p hpn))
        subst eo
        simp +contextual (disch := omega) only [↓AM, ↓AV, AP, CQ, hpn, fo, ro, rd_mk gp7]
        refine WL.mk (fun k t h' => ∃ (y : Nat), Wf h' ∧ O2 hb h' (some ⟨bo, 0, spo⟩) c0 (((pl.map (flp1 W H)).take p ++ pl.drop p).set p (flpTo W H y l)) bs0 [] ∧ Fm (InB bs0) hA h' ∧ y ≤ H ∧ k = H - y ∧
            t = [(6, some (.pointer (some ⟨ha.size, 0, none⟩))), (7, some (.pointer (some ⟨h1.size, 0, none⟩))), (14, some (.slice ob l.length cc)), (81, some (.slice (some ⟨bo, 0, spo⟩) pl.length c0)), (82, some (.int .i64 (pl.length : Int))), (83, some (.int .i64 (p : Int))),
              (88, some (.int .i64 (H : Int))), (89, some (.int .i64 (y : Int)))])
          ⟨H, 0, wp1, by
            rw [flpTo_0, ← hl1]
            have : ((pl.map (flp1 W H)).take p ++ pl.drop p).set p (pl.getD p []) = (pl.map (flp1 W H)).take p ++ pl.drop p := by
              apply List.ext_getElem?
              intro j
              rw [List.getElem?_set]
              by_cases hj : p = j
              · subst hj; rw [if_pos rfl, if_pos (by omega), hlg]
              · rw [if_neg hj]
            rw [this]
            exact op1, fp1, by omega, rfl, rfl⟩ ?_
        rintro k t hy1 ⟨y, wy1, oy1, fy1, hy, rfl, rfl⟩
        obtain ⟨gy7, gy6, _⟩ := keepA hy1 fy1
        by_cases hyn : y < H
        · have hyW : y * W + W ≤ W * H := by
            have := Nat.mul_le_mul_right W (show y + 1 ≤ H from hyn)
            rw [Nat.add_mul, Nat.one_mul, Nat.mul_comm H W] at this
            exact this
          have hyS : (y + 1) * W = y * W + W := by rw [Nat.add_mul, Nat.one_mul]
          have hfl2 := flpTo_len (y := y) hll hy
          have iy := oy1.inn p (flpTo W H y l) (ob, cc) (by rw [List.getElem?_set_self (by omega)]) hbp
          have hcc := iy.le
          obtain ⟨b2, sp2, md2, post, eo2, f2', g2', m2', re⟩ := Ow.re iy (by rw [hfl2]; exact Nat.mul_pos (by omega) (by omega))
          have eo2 : ob = some ⟨b2, 0, sp2⟩ := eo2
          subst eo2
          have cap2 : capOk sp2 l.length cc := by
            cases sp2
            · trivial
            · show l.length ≤ cc; omega
          have hadr : slAddr b2 0 sp2 1 (y * W) cc true = ⟨b2, y * W, sp2⟩ := by
            cases sp2 with
            | none => show (⟨b2, if cc = y * W then 0 else 0 + y * W * 1, none⟩ : Addr) = _; rw [if_neg (by omega)]; simp
            | some k0 => show (if cc = y * W then (⟨b2, 0, some (y * W * 1)⟩ : Addr) else ⟨b2, 0 + y * W * 1, some k0⟩) = _; rw [if_neg (by omega)]; simp
          have hbd1 : (0 : Int) ≤ ((y * W : Nat) : Int) := by omega
          have hbd : ((0 : Int) ≤ ((y * W : Nat) : Int) ∧ ((y * W : Nat) : Int) ≤ ((y * W + W : Nat) : Int) ∧ ((y * W + W : Nat) : Int) ≤ (cc : Int)) := by omega
          have hsub : y * W + W - y * W = W := by omega
          simp +contextual (disch := omega) only [↓AM, ↓AV, AP, CQ, hyn, rd_mk gy7, nmul, i64, hyS, f2', cap2, bnds, hbd, hadr, hsub, Int.toNat_natCast]
          have hpre : (iV ((flpTo W H y l).take (y * W))).length = y * W := by rw [iV_len, List.length_take]; omega
          have hmid : (((flpTo W H y l).drop (y * W)).take W).length = W := by rw [List.length_take, List.length_drop]; omega
          have hsplit : iV (flpTo W H y l) ++ post = iV ((flpTo W H y l).take (y * W)) ++ iV (((flpTo W H y l).drop (y * W)).take W) ++ (iV ((flpTo W H y l).drop (y * W + W)) ++ post) := by
            have e1 : flpTo W H y l = (flpTo W H y l).take (y * W) ++ (((flpTo W H y l).drop (y * W)).take W ++ (flpTo W H y l).drop (y * W + W)) := by
              rw [← List.drop_drop, List.take_append_drop, List.take_append_drop]
            conv => lhs; rw [e1]
            simp only [iV, List.map_append, List.append_assoc]
          rw [hsplit] at g2'
          have cR := c_Reverse (h := hy1) (b := b2) (c := cc - y * W) (sp := sp2) (md := md2) m2' f2' g2' (by rw [hmid]; omega)
          rw [hpre, hmid] at cR
          refine ⟨by omega, cR.use ?_⟩
          rintro _ h9 w9 ⟨g9, f9⟩
          have hj9 : iV ((flpTo W H y l).take (y * W)) ++ iV (((flpTo W H y l).drop (y * W)).take W).reverse ++ (iV ((flpTo W H y l).drop (y * W + W)) ++ post) = iV (flpTo W H (y + 1) l) ++ post := by
            rw [← flp_next hll hyn]
            simp only [iV, List.map_append, List.append_assoc]
          rw [hj9] at g9
          have hfl3 := flpTo_len (y := y + 1) hll (by omega)
          have i9 := re h9 (flpTo W H (y + 1) l) (by rw [hfl2, hfl3]) g9
          have at9 : ∀ z, z = b2 → At (some ⟨b2, 0, sp2⟩) z := fun z hz => by rw [At.some]; exact hz.symm
          have o9 := oy1.upd wy1 (p := p) (l := flpTo W H y l) (l' := flpTo W H (y + 1) l) (by rw [List.getElem?_set_self (by omega)]) hbp (f9.mono fun z _ hz => at9 z hz) i9 (by rw [hfl2, hfl3])
          rw [List.set_set] at o9
          simp +contextual (disch := omega) only [↓AM, ↓AV, AP, CQ, i64]
          exact ⟨H - (y + 1), by omega, y + 1, w9, o9, fy1.trans f9 fun z hz hat => ⟨_, List.mem_of_getElem? hbp, at9 z hat⟩, by omega, rfl, rfl⟩
        · have hye : y = H := by omega
          subst hye
          simp +contextual (disch := omega) only [↓AM, ↓AV, AP, CQ, hyn, i64]
          refine ⟨pl.length - (p + 1), by omega, p + 1, wy1, ?_, fy1, by omega, rfl, rfl⟩
          rw [flpTo_h hll] at oy1
          have e1 : (pl.map (flp1 W y)).take (p + 1) ++ pl.drop (p + 1) = ((pl.map (flp1 W y)).take p ++ pl.drop p).set p (flp1 W y l) := by
            rw [List.set_append_right _ _ (by omega), htk, Nat.sub_self, List.drop_eq_getElem_cons hpn, List.set_cons_zero, List.take_add_one, List.getElem?_map, stp p hpn, hl1]
            simp
          rw [e1]
          exact oy1
      · have hpe : p = pl.length := by omega
        subst hpe
        rw [List.take_of_length_le (by simp), List.drop_of_length_le (Nat.le_refl _), List.append_nil] at op1
        obtain ⟨g', eg, n1, n2, oi, fm⟩ := fin hp1 _ wp1 op1 (by simp) fp1
        simp +contextual (disch := omega) only [↓AM, ↓AV, AP, CQ, hpn, n1, gp6, spl_S, spl_0, spl_00, eg, n2]
        rw [hts]
        exact ⟨oi, fm⟩
end Go.Proofs.YtmkcngcnedjfkaaGreat.It

/- The document turns a picture. Plain theorems over the abstract machine.
   Conditions: none. -/
namespace Go.Proofs.YtmkcngcnedjfkaaGreat.It
open Go Go.RowKit Go.Proofs.YtmkcngcnedjfkaaGreat.Am Go.Proofs.YtmkcngcnedjfkaaGreat.Af Go.Proofs.YtmkcngcnedjfkaaGreat.Md
set_option linter.unusedVariables false
set_option linter.unusedSimpArgs false
set_option linter.defProp false
set_option maxRecDepth 20000
set_option maxHeartbeats 2000000

/-- Rows that are there whatever is written to the block t. -/
def KR (h : Hp) (t : Nat) (oa : Option Addr) (ls : List (List Int)) : Prop := ∀ g, Fm (fun x => x = t) h g → R2 g oa ls
theorem KR.of {h : Hp} {t : Nat} {oa : Option Addr} {ls : List (List Int)} (r : R2 h oa ls) (w : Wf h) (ht : h.size ≤ t) : KR h t oa ls := fun g f => r.keepW w f fun x hx e => by have : x = t := e; omega
theorem KR.keep {h h' : Hp} {t : Nat} {oa : Option Addr} {ls : List (List Int)} (k : KR h t oa ls) (f : Fm (fun x => x = t) h h') : KR h' t oa ls := fun g fg => k g (f.trans fg fun _ _ x => x)
theorem KR.r2 {h : Hp} {t : Nat} {oa : Option Addr} {ls : List (List Int)} (k : KR h t oa ls) : R2 h oa ls := k h Fm.refl
theorem O2.kr {h0 h : Hp} {t : Nat} {oa : Option Addr} {c : Nat} {ls : List (List Int)} {bs : Bl} (o : O2 h0 h oa c ls bs []) (w : Wf h) (ht : t < h0.size) : KR h t oa ls := fun g f => (o.keepB w f fun x hx => by have : x = t := hx; omega).r2
theorem take_S {L : List Int} {k : Nat} {v : Int} (h : L[k]? = some v) : iV (L.take (k + 1)) = iV (L.take k) ++ [.int .i64 v] := by
  rw [List.take_add_one, h]; exact iV_snoc _ _
theorem c_rturned {h : Hp} {m : Im} {oa : Option Addr} {c q : Nat} {f : Bool} (g : Good m) (r : R2 h oa m.pl) (hq : q ≤ 3) :
    ACalls Tryz.prog 51 [.agg (imC m oa c).toArray, .int .i64 (q : Int), .bool f] h fun v h' => OI h h' v (turnS m q f) ∧ Fm No h h' := by
  refine dioramaref15_turned_ok.snd Af.hm rfl fun w => ?_
  rw [WF_eq, dioramaref15_turned]
  obtain ⟨ha, ea⟩ : ∃ g, h.new ⟨[.int .i64 m.wd, .int .i64 m.hg, .int .i64 m.bt, .slice oa m.pl.length c], .own⟩ = g := ⟨_, rfl⟩
  have wa : Wf ha := ea ▸ w.new
  have fa : Fm No h ha := ea ▸ Fm.new Fm.refl
  have ga : ha.get h.size = some ⟨[.int .i64 m.wd, .int .i64 m.hg, .int .i64 m.bt, .slice oa m.pl.length c], .own⟩ := ea ▸ gnew
  have sa : ha.size = h.size + 1 := by rw [← ea]; rfl
  obtain ⟨hb, eb⟩ : ∃ g, ha.new ⟨[.int .i64 0, .int .i64 0, .int .i64 0, .slice none 0 0], .own⟩ = g := ⟨_, rfl⟩
  have wb : Wf hb := eb ▸ wa.new
  have fb : Fm No ha hb := eb ▸ Fm.new Fm.refl
  have gb : hb.get ha.size = some ⟨[.int .i64 0, .int .i64 0, .int .i64 0, .slice none 0 0], .own⟩ := eb ▸ gnew
  have gab := fb.keep wa ga (fun f => f)
  have sb : hb.size = ha.size + 1 := by rw [← eb]; rfl
  have fab : Fm No h hb := fa.trans fb fun _ _ x => x
  have kr0 : KR hb h.size oa m.pl := (KR.of r w (Nat.le_refl _)).keep (fab.mono fun _ _ f => f.elim)
  simp +contextual (disch := omega) only [↓AM, ↓AV, AP, CQ, imC, ea, eb]
  refine WL.mk (fun k t h' => ∃ (i : Nat) (oa : Option Addr) (c : Nat), Wf h' ∧ KR h' h.size oa (rotN i m).pl ∧ h'.get h.size = some ⟨imC (rotN i m) oa c, .own⟩ ∧
      Fm (fun x => x = h.size) hb h' ∧ i ≤ q ∧ k = q - i ∧ t = [(1, some (.int .i64 (q : Int))), (2, some (.bool f)), (3, some (.pointer (some ⟨h.size, 0, none⟩))), (6, some (.pointer (some ⟨ha.size, 0, none⟩))), (7, some (.int .i64 (i : Int)))])
    ⟨q, 0, oa, c, wb, kr0, gab, Fm.refl, by omega, rfl, rfl⟩ ?_
  rintro k t hA ⟨i, oa0, c0, wA, krA, gA, fA, hi, rfl, rfl⟩
  have gi := g.rotN i
  obtain ⟨hW, hW1, hW2⟩ := gi.w_eq
  obtain ⟨hH, hH1, hH2⟩ := gi.h_eq
  have hsz := gi.sz
  have szA := fA.size
  have hlen4 : (rotN i m).pl.length ≤ 4 := by have := gi.dim.2.2; omega
  have hleq : ∀ l ∈ (rotN i m).pl, l.length = (rotN i m).w * (rotN i m).h := fun l hl => gi.len_eq hl
  by_cases hin : i < q
  · have rot_eq : rotN (i + 1) m = (((rotN i m).h : Int), ((rotN i m).w : Int), (rotN i m).bt, (rotN i m).pl.map (rot1 (rotN i m).w (rotN i m).h)) := by
      show rot (rotN i m) = _
      rw [rot, hW, hH]
    generalize hgm : rotN i m = mi at *
    obtain ⟨wi, hgi, bi, pl⟩ := mi
    simp only [Im.wd, Im.hg, Im.bt, Im.pl] at *
    generalize (Im.w (wi, hgi, bi, pl)) = W at *
    generalize (Im.h (wi, hgi, bi, pl)) = H at *
    subst hW hH
    simp only [imC, Im.wd, Im.hg, Im.bt, Im.pl] at gA
    obtain ⟨hC, eC⟩ : ∃ g, hA.new ⟨[.int .i64 (H : Int), .int .i64 (W : Int), .int .i64 bi, .slice none 0 0], .own⟩ = g := ⟨_, rfl⟩
    have wC : Wf hC := eC ▸ wA.new
    have fC : Fm No hA hC := eC ▸ Fm.new Fm.refl
    have gC : hC.get hA.size = some ⟨[.int .i64 (H : Int), .int .i64 (W : Int), .int .i64 bi, .slice none 0 0], .own⟩ := eC ▸ gnew
    have sC : hC.size = hA.size + 1 := by rw [← eC]; rfl
    have keepA : ∀ g, Fm No hA g → R2 g oa0 pl ∧ g.get h.size = some ⟨[.int .i64 (W : Int), .int .i64 (H : Int), .int .i64 bi, .slice oa0 pl.length c0], .own⟩ := fun g fg => ⟨krA g (fg.mono fun _ _ f => f.elim), fg.keep wA gA (fun f => f)⟩
    simp +contextual (disch := omega) only [↓AM, ↓AV, AP, CQ, hin, rd_mk gA, eC]
    refine WL.mk (fun k t h' => ∃ (p : Nat) (on : Option Addr) (cn : Nat) (bsn : Bl), Wf h' ∧ O2 hC h' on cn ((pl.map (rot1 W H)).take p) bsn [] ∧ Fm No hA h' ∧ hC.size ≤ h'.size ∧ h'.get hA.size = some ⟨[.int .i64 (H : Int), .int .i64 (W : Int), .int .i64 bi, .slice on p cn], .own⟩ ∧ p ≤ pl.length ∧ k = pl.length - p ∧
        t = [(1, some (.int .i64 (q : Int))), (2, some (.bool f)), (3, some (.pointer (some ⟨h.size, 0, none⟩))), (6, some (.pointer (some ⟨ha.size, 0, none⟩))), (7, some (.int .i64 (i : Int))), (8, some (.pointer (some ⟨hA.size, 0, none⟩))), (9, some (.int .i64 (p : Int)))])
      ⟨pl.length, 0, none, 0, [], wC, by simpa using O2.nil, fC, Nat.le_refl _, gC, by omega, rfl, rfl⟩ ?_
    rintro k t hp1 ⟨p, on, cn, bsn, wp1, op1, fp1, szp, gp8, hp, rfl, rfl⟩
    obtain ⟨rp, gp3⟩ := keepA hp1 fp1
    by_cases hpn : p < pl.length
    · have stp : pl[p]? = some (pl.getD p []) := by simp [List.getD, List.getElem?_eq_getElem hpn]
      obtain ⟨l, hl⟩ : ∃ l, pl.getD p [] = l := ⟨_, rfl⟩
      rw [hl] at stp
      have hll : l.length = W * H := hleq l (List.mem_of_getElem? stp)
      simp +contextual (disch := omega) only [↓AM, ↓AV, AP, CQ, hpn, rd_mk gp3]
      refine WL.mk (fun k t h' => ∃ (y : Nat) (ob : Option Addr) (cc : Nat), Wf h' ∧ Ow h' 1 ob (y * H) cc (iV ((rot1 W H l).take (y * H))) ∧ Nw hp1 ob ∧ Fm No hp1 h' ∧ y ≤ W ∧ k = W - y ∧
          t = [(1, some (.int .i64 (q : Int))), (2, some (.bool f)), (3, some (.pointer (some ⟨h.size, 0, none⟩))), (6, some (.pointer (some ⟨ha.size, 0, none⟩))), (7, some (.int .i64 (i : Int))), (8, some (.pointer (some ⟨hA.size, 0, none⟩))), (9, some (.int .i64 (p : Int))), (10, some (.slice ob (y * H) cc)), (11, some (.int .i64 (y : Int)))])
        ⟨W, 0, none, 0, wp1, by simpa [iV] using Ow.mk0, Nw.none, Fm.refl, by omega, rfl, by simp⟩ ?_
      rintro k t hy1 ⟨y, ob, cc, wy1, owy, nwy, fy1, hy, rfl, rfl⟩
      have fAy : Fm No hA hy1 := fp1.trans fy1 fun _ _ x => x
      obtain ⟨ry, gy3⟩ := keepA hy1 fAy
      by_cases hyn : y < W
      · simp +contextual (disch := omega) only [↓AM, ↓AV, AP, CQ, hyn, rd_mk gy3, nsubc1]
        refine WL.mk (fun k t h' => ∃ (x : Nat) (ob : Option Addr) (cc : Nat), Wf h' ∧ Ow h' 1 ob (y * H + x) cc (iV ((rot1 W H l).take (y * H + x))) ∧ Nw hp1 ob ∧ Fm No hp1 h' ∧ x ≤ H ∧ k = H - x ∧
            t = [(1, some (.int .i64 (q : Int))), (2, some (.bool f)), (3, some (.pointer (some ⟨h.size, 0, none⟩))), (6, some (.pointer (some ⟨ha.size, 0, none⟩))), (7, some (.int .i64 (i : Int))), (8, some (.pointer (some ⟨hA.size, 0, none⟩))), (9, some (.int .i64 (p : Int))), (10, some (.slice ob (y * H + x) cc)), (11, some (.int .i64 (y : Int))),
              (12, some (.int .i64 ((H : Int) - 1 - (x : Int))))])
          ⟨H, 0, ob, cc, wy1, owy, nwy, fy1, by omega, rfl, by rw [i64 (by omega), ← nsubc1 hH1]; simp⟩ ?_
        rintro k t hx1 ⟨x, ob, cc, wx1, owx, nwx, fx1, hx, rfl, rfl⟩
        have fAx : Fm No hA hx1 := fp1.trans fx1 fun _ _ x => x
        obtain ⟨rx, gx3⟩ := keepA hx1 fAx
        by_cases hxn : x < H
        · have hdst : y * H + x < W * H := by have := at_lt hxn hyn; rw [Nat.mul_comm H W] at this; exact this
          have hsrc : (H - 1 - x) * W + y < W * H := src_lt hxn hyn
          have hxW : (H - 1 - x) * W ≤ W * H := by rw [Nat.mul_comm W H]; exact Nat.mul_le_mul_right _ (by omega)
          have hj : (H : Int) - 1 - (x : Int) = ((H - 1 - x : Nat) : Int) := by omega
          obtain ⟨b1, o1, s1, ob1, c1, l1, e1, f1, hl1, r1, lc1, q1⟩ := rx.at hpn
          rw [stp] at hl1
          cases hl1
          obtain ⟨b4, o4, s4, e4, f4, v, hv, r4⟩ := Rd.int q1 (i := (H - 1 - x) * W + y) (by rw [hll]; exact hsrc)
          have hrv : (rot1 W H l)[y * H + x]? = some v := by rw [rot1_at hxn hyn, getD_of hv]
          have hsl : (H - 1 - x) * W + y < l.length := by rw [hll]; exact hsrc
          rw [e4] at r1
          rw [hj]
          simp +contextual (disch := omega) only [↓AM, ↓AV, AP, CQ, e1, rd_mk gx3, hpn, f1, r1, nmul, i64, hsl, f4, r4]
          refine owx.push (m := 1) (xs := [.int .i64 v]) wx1 rfl (by omega) fun oa' c' h3 o3 w3 f3 n3 => ?_
          obtain ⟨k1, k2⟩ := grown fx1 nwx f3 n3
          simp +contextual (disch := omega) only [↓AM, ↓AV, AP, CQ, i64]
          refine ⟨H - (x + 1), by omega, x + 1, oa', c', w3, by rw [show y * H + (x + 1) = y * H + x + 1 by omega, take_S hrv]; exact o3, k2, k1, by omega, rfl, ?_⟩
          rw [show ((H - 1 - x : Nat) : Int) - 1 = (H : Int) - 1 - ((x + 1 : Nat) : Int) by omega, show y * H + (x + 1) = y * H + x + 1 by omega]
        · have hxe : x = H := by omega
          subst hxe
          have hneg : ¬ (0 : Int) ≤ (x : Int) - 1 - (x : Int) := by omega
          simp +contextual (disch := omega) only [↓AM, ↓AV, AP, CQ, hneg, i64]
          refine ⟨W - (y + 1), by omega, y + 1, ob, cc, wx1, by rw [Nat.add_mul, Nat.one_mul]; exact owx, nwx, fx1, by omega, rfl, by rw [Nat.add_mul, Nat.one_mul]⟩
      · have hye : y = W := by omega
        subst hye
        have gy8 := fy1.keep wp1 gp8 (fun f => f)
        have htl : ((pl.map (rot1 y H)).take p).length = p := by rw [List.length_take, List.length_map]; omega
        have oo := op1.out.keep wp1 fy1 (fun _ _ f => f)
        rw [htl, List.length_nil, Nat.add_zero, List.append_nil] at oo
        simp +contextual (disch := omega) only [↓AM, ↓AV, AP, CQ, hyn, rd_mk gy3, rd_mk gy8]
        refine oo.push (bytes := 24) (m := 1) (xs := [.slice ob (y * H) cc]) wy1 rfl (by omega) fun oa' c' h3 o3 w3 f3 n3 => ?_
        have hrl := rot1_len y H l
        have htf : (rot1 y H l).take (y * H) = rot1 y H l := List.take_of_length_le (by rw [hrl]; exact Nat.le_refl _)
        rw [htf] at owy
        have o5 := op1.push (l := rot1 y H l) (ob := ob) (cc := cc) wp1 szp fy1 wy1 (by rw [hrl]; exact owy) nwy (by rw [htl, hrl]; exact o3) f3 n3
        have g3 := f3.keep wy1 gy8 (fun f => by have := op1.nwO _ f; omega)
        obtain ⟨hE, eE⟩ : ∃ g, h3.put hA.size ⟨[.int .i64 (H : Int), .int .i64 (y : Int), .int .i64 bi, .slice oa' (p + 1) c'], .own⟩ = g := ⟨_, rfl⟩
        have wE : Wf hE := eE ▸ w3.put (w3.lt g3)
        have fE : Fm (fun z => z = hA.size) h3 hE := eE ▸ Fm.put Fm.refl fun _ => rfl
        have gE : hE.get hA.size = some ⟨[.int .i64 (H : Int), .int .i64 (y : Int), .int .i64 bi, .slice oa' (p + 1) c'], .own⟩ := eE ▸ gput
        simp +contextual (disch := omega) only [↓AM, ↓AV, AP, CQ, g3, spl_S, spl_0, spl_00, eE, i64]
        have oE := o5.keepB w3 fE (fun z hz => by have : z = hA.size := hz; omega)
        have f03 : Fm No hA h3 := fAy.trans f3 fun z hz hy => by have := op1.nwO z hy; omega
        have s3 := f3.size
        have sE := fE.size
        have sy := fy1.size
        refine ⟨pl.length - (p + 1), by omega, p + 1, oa', c', bsn ++ [(ob, cc)], wE, ?_, f03.trans fE fun z hz hy => by have : z = hA.size := hy; omega, by omega, rfl, by omega, rfl, rfl⟩
        rw [List.take_add_one, List.getElem?_map, stp]
        exact oE
    · have hpe : p = pl.length := by omega
      subst hpe
      rw [List.take_of_length_le (by simp)] at op1
      have n8 : hp1.rdN hA.size 0 4 = some [.int .i64 (H : Int), .int .i64 (W : Int), .int .i64 bi, .slice on pl.length cn] := rdN_mk gp8 (by simp)
      obtain ⟨hD, eD⟩ : ∃ g, hp1.put h.size ⟨[.int .i64 (H : Int), .int .i64 (W : Int), .int .i64 bi, .slice on pl.length cn], .own⟩ = g := ⟨_, rfl⟩
      have wD : Wf hD := eD ▸ wp1.put (wp1.lt gp3)
      have fD : Fm (fun x => x = h.size) hp1 hD := eD ▸ Fm.put Fm.refl fun _ => rfl
      have gD : hD.get h.size = some ⟨[.int .i64 (H : Int), .int .i64 (W : Int), .int .i64 bi, .slice on pl.length cn], .own⟩ := eD ▸ gput
      simp +contextual (disch := omega) only [↓AM, ↓AV, AP, CQ, hpn, rd_mk gp3, n8, gp3, spl_S, spl_0, spl_00, eD, i64]
      have krD : KR hD h.size on (pl.map (rot1 W H)) := (op1.kr wp1 (by omega)).keep fD
      refine ⟨q - (i + 1), by omega, i + 1, on, cn, wD, by rw [rot_eq]; exact krD, ?_, (fA.trans (fp1.mono fun _ _ f => f.elim) fun _ _ x => x).trans fD fun _ _ x => x, by omega, rfl, rfl⟩
      rw [rot_eq]
      simp [imC, Im.wd, Im.hg, Im.bt, Im.pl]
  · have hie : i = q := by omega
    subst hie
    have fhA : Fm No h hA := fab.trans fA fun z hz hy => by have : z = h.size := hy; omega
    have gb2 := fA.keep wb gb (fun f => by have : ha.size = h.size := f; omega)
    have smi := gi.sm
    cases f with
    | false =>
      have n3 : hA.rdN h.size 0 4 = some (imC (rotN i m) oa0 c0) := rdN_mk gA (by simp [imC])
      simp +contextual (disch := omega) only [↓AM, ↓AV, AP, CQ, hin, n3]
      refine (c_CopyImage krA.r2 smi).use ?_
      rintro _ hB wB ⟨⟨oc, cc, bsc, rfl, oB, lcB⟩, fB⟩
      have gB := fB.keep wA gb2 (fun f => f)
      have sB := fB.size
      obtain ⟨hD, eD⟩ : ∃ g, hB.put ha.size ⟨imC (rotN i m) oc cc, .own⟩ = g := ⟨_, rfl⟩
      have fD : Fm (fun x => x = ha.size) hB hD := eD ▸ Fm.put Fm.refl fun _ => rfl
      have gD : hD.get ha.size = some ⟨imC (rotN i m) oc cc, .own⟩ := eD ▸ gput
      have nD : hD.rdN ha.size 0 4 = some (imC (rotN i m) oc cc) := rdN_mk gD (by simp [imC])
      simp only [imC] at eD nD
      simp +contextual (disch := omega) only [↓AM, ↓AV, AP, CQ, imC, gB, spl_S, spl_0, spl_00, eD, nD]
      refine ⟨⟨oc, cc, bsc, rfl, (oB.keepB wB fD fun z hz => by have : z = ha.size := hz; omega).older fhA.size, lcB⟩, (fhA.trans fB fun _ _ x => x).trans fD fun z hz hy => by have : z = ha.size := hy; omega⟩
    | true =>
      have hts : turnS m i true = flpI (rotN i m) := rfl
      generalize hgm : rotN i m = mi at *
      obtain ⟨wi, hgi, bi, pl⟩ := mi
      have hfl : flpI (wi, hgi, bi, pl) = (wi, hgi, bi, pl.map (flp1 (Im.w (wi, hgi, bi, pl)) (Im.h (wi, hgi, bi, pl)))) := rfl
      rw [hfl] at hts
      simp only [Im.wd, Im.hg, Im.bt, Im.pl] at *
      generalize (Im.w (wi, hgi, bi, pl)) = W at *
      generalize (Im.h (wi, hgi, bi, pl)) = H at *
      subst hW hH
      simp only [imC, Im.wd, Im.hg, Im.bt, Im.pl] at gA
      obtain ⟨hC, eC⟩ : ∃ g, hA.new ⟨[.int .i64 (W : Int), .int .i64 (H : Int), .int .i64 bi, .slice none 0 0], .own⟩ = g := ⟨_, rfl⟩
      have wC : Wf hC := eC ▸ wA.new
      have fC : Fm No hA hC := eC ▸ Fm.new Fm.refl
      have gC : hC.get hA.size = some ⟨[.int .i64 (W : Int), .int .i64 (H : Int), .int .i64 bi, .slice none 0 0], .own⟩ := eC ▸ gnew
      have sC : hC.size = hA.size + 1 := by rw [← eC]; rfl
      have keepA : ∀ g, Fm No hA g → R2 g oa0 pl ∧ g.get h.size = some ⟨[.int .i64 (W : Int), .int .i64 (H : Int), .int .i64 bi, .slice oa0 pl.length c0], .own⟩ := fun g fg => ⟨krA g (fg.mono fun _ _ f => f.elim), fg.keep wA gA (fun f => f)⟩
      simp +contextual (disch := omega) only [↓AM, ↓AV, AP, CQ, hin, rd_mk gA, eC]
      refine WL.mk (fun k t h' => ∃ (p : Nat) (on : Option Addr) (cn : Nat) (bsn : Bl), Wf h' ∧ O2 hC h' on cn ((pl.map (flp1 W H)).take p) bsn [] ∧ Fm No hA h' ∧ hC.size ≤ h'.size ∧ h'.get hA.size = some ⟨[.int .i64 (W : Int), .int .i64 (H : Int), .int .i64 bi, .slice on p cn], .own⟩ ∧ p ≤ pl.length ∧ k = pl.length - p ∧
          t = [(3, some (.pointer (some ⟨h.size, 0, none⟩))), (6, some (.pointer (some ⟨ha.size, 0, none⟩))), (13, some (.pointer (some ⟨hA.size, 0, none⟩))), (14, some (.int .i64 (p : Int)))])
        ⟨pl.length, 0, none, 0, [], wC, by simpa using O2.nil, fC, Nat.le_refl _, gC, by omega, rfl, rfl⟩ ?_
      rintro k t hp1 ⟨p, on, cn, bsn, wp1, op1, fp1, szp, gp8, hp, rfl, rfl⟩
      obtain ⟨rp, gp3⟩ := keepA hp1 fp1
      by_cases hpn : p < pl.length
      · have stp : pl[p]? = some (pl.getD p []) := by simp [List.getD, List.getElem?_eq_getElem hpn]
        obtain ⟨l, hl⟩ : ∃ l, pl.getD p [] = l := ⟨_, rfl⟩
        rw [hl] at stp
        have hll : l.length = W * H := hleq l (List.mem_of_getElem? stp)
        simp +contextual (disch := omega) only [↓AM, ↓AV, AP, CQ, hpn, rd_mk gp3]
        refine WL.mk (fun k t h' => ∃ (y : Nat) (ob : Option Addr) (cc : Nat), Wf h' ∧ Ow h' 1 ob (y * W) cc (iV ((flp1 W H l).take (y * W))) ∧ Nw hp1 ob ∧ Fm No hp1 h' ∧ y ≤ H ∧ k = H - y ∧
            t = [(3, some (.pointer (some ⟨h.size, 0, none⟩))), (6, some (.pointer (some ⟨ha.size, 0, none⟩))), (13, some (.pointer (some ⟨hA.size, 0, none⟩))), (14, some (.int .i64 (p : Int))), (15, some (.slice ob (y * W) cc)), (16, some (.int .i64 (y : Int)))])
          ⟨H, 0, none, 0, wp1, by simpa [iV] using Ow.mk0, Nw.none, Fm.refl, by omega, rfl, by simp⟩ ?_
        rintro k t hy1 ⟨y, ob, cc, wy1, owy, nwy, fy1, hy, rfl, rfl⟩
        have fAy : Fm No hA hy1 := fp1.trans fy1 fun _ _ x => x
        obtain ⟨ry, gy3⟩ := keepA hy1 fAy
        by_cases hyn : y < H
        · simp +contextual (disch := omega) only [↓AM, ↓AV, AP, CQ, hyn, rd_mk gy3, nsubc1]
          refine WL.mk (fun k t h' => ∃ (x : Nat) (ob : Option Addr) (cc : Nat), Wf h' ∧ Ow h' 1 ob (y * W + x) cc (iV ((flp1 W H l).take (y * W + x))) ∧ Nw hp1 ob ∧ Fm No hp1 h' ∧ x ≤ W ∧ k = W - x ∧
              t = [(3, some (.pointer (some ⟨h.size, 0, none⟩))), (6, some (.pointer (some ⟨ha.size, 0, none⟩))), (13, some (.pointer (some ⟨hA.size, 0, none⟩))), (14, some (.int .i64 (p : Int))), (15, some (.slice ob (y * W + x) cc)), (16, some (.int .i64 (y : Int))),
                (17, some (.int .i64 ((W : Int) - 1 - (x : Int))))])
            ⟨W, 0, ob, cc, wy1, owy, nwy, fy1, by omega, rfl, by rw [i64 (by omega), ← nsubc1 hW1]; simp⟩ ?_
          rintro k t hx1 ⟨x, ob, cc, wx1, owx, nwx, fx1, hx, rfl, rfl⟩
          have fAx : Fm No hA hx1 := fp1.trans fx1 fun _ _ x => x
          obtain ⟨rx, gx3⟩ := keepA hx1 fAx
          by_cases hxn : x < W
          · have hdst : y * W + x < W * H := at_lt hxn hyn
            have hsrc : y * W + (W - 1 - x) < W * H := at_lt (by omega) hyn
            have hj : (W : Int) - 1 - (x : Int) = ((W - 1 - x : Nat) : Int) := by omega
            obtain ⟨b1, o1, s1, ob1, c1, l1, e1, f1, hl1, r1, lc1, q1⟩ := rx.at hpn
            rw [stp] at hl1
            cases hl1
            obtain ⟨b4, o4, s4, e4, f4, v, hv, r4⟩ := Rd.int q1 (i := y * W + (W - 1 - x)) (by rw [hll]; exact hsrc)
            have hrv : (flp1 W H l)[y * W + x]? = some v := by rw [flp1_at hxn hyn, getD_of hv]
            have hsl : y * W + (W - 1 - x) < l.length := by rw [hll]; exact hsrc
            rw [e4] at r1
            rw [hj]
            simp +contextual (disch := omega) only [↓AM, ↓AV, AP, CQ, e1, rd_mk gx3, hpn, f1, r1, nmul, i64, hsl, f4, r4]
            refine owx.push (m := 1) (xs := [.int .i64 v]) wx1 rfl (by omega) fun oa' c' h3 o3 w3 f3 n3 => ?_
            obtain ⟨k1, k2⟩ := grown fx1 nwx f3 n3
            simp +contextual (disch := omega) only [↓AM, ↓AV, AP, CQ, i64]
            refine ⟨W - (x + 1), by omega, x + 1, oa', c', w3, by rw [show y * W + (x + 1) = y * W + x + 1 by omega, take_S hrv]; exact o3, k2, k1, by omega, rfl, ?_⟩
            rw [show ((W - 1 - x : Nat) : Int) - 1 = (W : Int) - 1 - ((x + 1 : Nat) : Int) by omega, show y * W + (x + 1) = y * W + x + 1 by omega]
          · have hxe : x = W := by omega
            subst hxe
            have hneg : ¬ (0 : Int) ≤ (x : Int) - 1 - (x : Int) := by omega
            simp +contextual (disch := omega) only [↓AM, ↓AV, AP, CQ, hneg, i64]
            refine ⟨H - (y + 1), by omega, y + 1, ob, cc, wx1, by rw [Nat.add_mul, Nat.one_mul]; exact owx, nwx, fx1, by omega, rfl, by rw [Nat.add_mul, Nat.one_mul]⟩
        · have hye : y = H := by omega
          subst hye
          have gy8 := fy1.keep wp1 gp8 (fun f => f)
          have htl : ((pl.map (flp1 W y)).take p).length = p := by rw [List.length_take, List.length_map]; omega
          have oo := op1.out.keep wp1 fy1 (fun _ _ f => f)
          rw [htl, List.length_nil, Nat.add_zero, List.append_nil] at oo
          simp +contextual (disch := omega) only [↓AM, ↓AV, AP, CQ, hyn, rd_mk gy3, rd_mk gy8]
          refine oo.push (bytes := 24) (m := 1) (xs := [.slice ob (y * W) cc]) wy1 rfl (by omega) fun oa' c' h3 o3 w3 f3 n3 => ?_
          have hrl : (flp1 W y l).length = y * W := by rw [flp1_len, Nat.mul_comm]
          have htf : (flp1 W y l).take (y * W) = flp1 W y l := List.take_of_length_le (by rw [hrl]; exact Nat.le_refl _)
          rw [htf] at owy
          have o5 := op1.push (l := flp1 W y l) (ob := ob) (cc := cc) wp1 szp fy1 wy1 (by rw [hrl]; exact owy) nwy (by rw [htl, hrl]; exact o3) f3 n3
          have g3 := f3.keep wy1 gy8 (fun f => by have := op1.nwO _ f; omega)
          obtain ⟨hE, eE⟩ : ∃ g, h3.put hA.size ⟨[.int .i64 (W : Int), .int .i64 (y : Int), .int .i64 bi, .slice oa' (p + 1) c'], .own⟩ = g := ⟨_, rfl⟩
          have wE : Wf hE := eE ▸ w3.put (w3.lt g3)
          have fE : Fm (fun z => z = hA.size) h3 hE := eE ▸ Fm.put Fm.refl fun _ => rfl
          have gE : hE.get hA.size = some ⟨[.int .i64 (W : Int), .int .i64 (y : Int), .int .i64 bi, .slice oa' (p + 1) c'], .own⟩ := eE ▸ gput
          simp +contextual (disch := omega) only [↓AM, ↓AV, AP, CQ, g3, spl_S, spl_0, spl_00, eE, i64]
          have oE := o5.keepB w3 fE (fun z hz => by have : z = hA.size := hz; omega)
          have f03 : Fm No hA h3 := fAy.trans f3 fun z hz hy => by have := op1.nwO z hy; omega
          have s3 := f3.size
          have sE := fE.size
          have sy := fy1.size
          refine ⟨pl.length - (p + 1), by omega, p + 1, oa', c', bsn ++ [(ob, cc)], wE, ?_, f03.trans fE fun z hz hy => by have : z = hA.size := hy; omega, by omega, rfl, by omega, rfl, rfl⟩
          rw [List.take_add_one, List.getElem?_map, stp]
          exact oE
      · have hpe : p = pl.length := by omega
        subst hpe
        rw [List.take_of_length_le (by simp)] at op1
        have gp6 := fp1.keep wA gb2 (fun f => f)
        have n8 : hp1.rdN hA.size 0 4 = some [.int .i64 (W : Int), .int .i64 (H : Int), .int .i64 bi, .slice on pl.length cn] := rdN_mk gp8 (by simp)
        obtain ⟨hD, eD⟩ : ∃ g, hp1.put ha.size ⟨[.int .i64 (W : Int), .int .i64 (H : Int), .int .i64 bi, .slice on pl.length cn], .own⟩ = g := ⟨_, rfl⟩
        have fD : Fm (fun x => x = ha.size) hp1 hD := eD ▸ Fm.put Fm.refl fun _ => rfl
        have gD : hD.get ha.size = some ⟨[.int .i64 (W : Int), .int .i64 (H : Int), .int .i64 bi, .slice on pl.length cn], .own⟩ := eD ▸ gput
        have nD : hD.rdN ha.size 0 4 = some [.int .i64 (W : Int), .int .i64 (H : Int), .int .i64 bi, .slice on pl.length cn] := rdN_mk gD (by simp)
        simp +contextual (disch := omega) only [↓AM, ↓AV, AP, CQ, hpn, rd_mk gp3, n8, gp6, spl_S, spl_0, spl_00, eD, nD, i64]
        have hle := op1.out.le
        rw [List.length_map, List.length_nil, Nat.add_zero] at hle
        rw [hts]
        refine ⟨⟨on, cn, bsn, by simp [imC, Im.wd, Im.hg, Im.bt, Im.pl], (op1.keepB wp1 fD fun z hz => by have : z = ha.size := hz; omega).older (by have := fhA.size; omega), by show (pl.map (flp1 W H)).length ≤ cn; rw [List.length_map]; exact hle⟩, (fhA.trans fp1 fun _ _ x => x).trans fD fun z hz hy => by have : z = ha.size := hy; omega⟩
end Go.Proofs.YtmkcngcnedjfkaaGreat.It

/- Turn, the program's and the document's. Plain theorems over the abstract machine.
   Conditions: none. -/
namespace Go.Proofs.YtmkcngcnedjfkaaGreat.It
open Go Go.RowKit Go.Proofs.YtmkcngcnedjfkaaGreat.Am Go.Proofs.YtmkcngcnedjfkaaGreat.Af Go.Proofs.YtmkcngcnedjfkaaGreat.Md
set_option linter.unusedVariables false
set_option linter.unusedSimpArgs false
set_option linter.defProp false
set_option maxRecDepth 20000
set_option maxHeartbeats 2000000

def zIm : Im := (0, 0, 0, [])
theorem oi_zero {h0 h : Hp} : OI h0 h (.agg #[.int .i64 0, .int .i64 0, .int .i64 0, .slice none 0 0]) zIm := ⟨none, 0, [], rfl, O2.nil, Nat.le_refl _⟩
theorem OI.keep {h0 h h' : Hp} {v : Value} {x : Im} {F : Nat → Prop} (o : OI h0 h v x) (w : Wf h) (f : Fm F h h') (hF : ∀ y, F y → y < h0.size) : OI h0 h' v x := by
  obtain ⟨oa, c, bs, e, o, l⟩ := o
  exact ⟨oa, c, bs, e, o.keepB w f hF, l⟩
theorem OI.older {h0 h1 h : Hp} {v : Value} {x : Im} (o : OI h1 h v x) (hs : h0.size ≤ h1.size) : OI h0 h v x := by
  obtain ⟨oa, c, bs, e, o, l⟩ := o
  exact ⟨oa, c, bs, e, o.older hs, l⟩
/-- The error of a turn. -/
def turnE (m : Im) (q : Int) : Int := if pchk m = 0 then (if 0 ≤ q ∧ q ≤ 3 then 0 else 1) else pchk m
def turnR (m : Im) (q : Int) (f : Bool) : Im := if turnE m q = 0 then turnS m q.toNat f else zIm
theorem turnE_0 {m : Im} {q : Int} : turnE m q = 0 ↔ Good m ∧ 0 ≤ q ∧ q ≤ 3 := by
  unfold turnE
  constructor
  · intro h
    by_cases h1 : pchk m = 0
    · rw [if_pos h1] at h
      by_cases h2 : 0 ≤ q ∧ q ≤ 3
      · exact ⟨pchk_good.1 h1, h2⟩
      · rw [if_neg h2] at h; cases h
    · rw [if_neg h1] at h; exact absurd h h1
  · rintro ⟨g, h2⟩
    rw [if_pos (pchk_good.2 g), if_pos h2]
theorem turnR_ok {m : Im} {q : Nat} {f : Bool} (g : Good m) (hq : q ≤ 3) : turnE m (q : Int) = 0 ∧ turnR m (q : Int) f = turnS m q f := by
  have h := turnE_0.2 ⟨g, (by omega : (0 : Int) ≤ (q : Int) ∧ (q : Int) ≤ 3)⟩
  exact ⟨h, by unfold turnR; rw [if_pos h, Int.toNat_natCast]⟩
theorem c_Turn {h : Hp} {m : Im} {oa : Option Addr} {c : Nat} {q : Int} {f : Bool} (r : R2 h oa m.pl) (hc : m.pl.length ≤ c) (hz : Sz m.pl) :
    ACalls Tryz.prog 13 [.agg (imC m oa c).toArray, .int .i64 q, .bool f] h fun v h' => (∃ u, v = .tuple #[u, .int .i64 (turnE m q)] ∧ OI h h' u (turnR m q f)) ∧ Fm No h h' := by
  refine item_Turn_ok.snd Af.hm rfl fun w => ?_
  rw [WF_eq, item_Turn]
  obtain ⟨ha, ea⟩ : ∃ g, h.new ⟨[.int .i64 m.wd, .int .i64 m.hg, .int .i64 m.bt, .slice oa m.pl.length c], .own⟩ = g := ⟨_, rfl⟩
  have wa : Wf ha := ea ▸ w.new
  have fa : Fm No h ha := ea ▸ Fm.new Fm.refl
  have ga : ha.get h.size = some ⟨[.int .i64 m.wd, .int .i64 m.hg, .int .i64 m.bt, .slice oa m.pl.length c], .own⟩ := ea ▸ gnew
  have sa : ha.size = h.size + 1 := by rw [← ea]; rfl
  obtain ⟨hb, eb⟩ : ∃ g, ha.new ⟨[.int .i64 0, .int .i64 0, .int .i64 0, .slice none 0 0], .own⟩ = g := ⟨_, rfl⟩
  have wb : Wf hb := eb ▸ wa.new
  have fb : Fm No ha hb := eb ▸ Fm.new Fm.refl
  have gb : hb.get ha.size = some ⟨[.int .i64 0, .int .i64 0, .int .i64 0, .slice none 0 0], .own⟩ := eb ▸ gnew
  have gab := fb.keep wa ga (fun f => f)
  have sb : hb.size = ha.size + 1 := by rw [← eb]; rfl
  have fab : Fm No h hb := fa.trans fb fun _ _ x => x
  have na : ∀ g, Fm No hb g → g.rdN h.size 0 4 = some [.int .i64 m.wd, .int .i64 m.hg, .int .i64 m.bt, .slice oa m.pl.length c] := fun g fg => rdN_mk (fg.keep wb gab (fun f => f)) (by simp)
  have put : ∀ (g : Hp) (x : List Value), Wf g → Fm No hb g → x.length = 4 → ∃ g', g.put ha.size ⟨x, .own⟩ = g' ∧ g.get ha.size = some ⟨[.int .i64 0, .int .i64 0, .int .i64 0, .slice none 0 0], .own⟩ ∧ g'.rdN ha.size 0 4 = some x ∧ Fm (fun z => z = ha.size) g g' ∧ Fm No h g' := fun g x wg fg hx => by
    have fp : Fm (fun z => z = ha.size) g (g.put ha.size ⟨x, .own⟩) := Fm.put Fm.refl fun _ => rfl
    refine ⟨_, rfl, fg.keep wb gb (fun f => f), ?_, fp, (fab.trans fg fun _ _ x => x).trans fp fun z hz hy => by have : z = ha.size := hy; omega⟩
    rw [rdN_mk gput (by simp [hx])]
    simp [← hx]
  simp +contextual (disch := omega) only [↓AM, ↓AV, AP, CQ, imC, ea, eb, na hb Fm.refl]
  refine (c_pcheck (r.keep w fab) hz).use ?_
  rintro _ h1 w1 ⟨rfl, f1⟩
  by_cases hp : pchk m = 0
  case neg =>
    obtain ⟨g', e1, e2, e3, e4, e5⟩ := put h1 [.int .i64 0, .int .i64 0, .int .i64 0, .slice none 0 0] w1 f1 rfl
    simp +contextual (disch := omega) only [↓AM, ↓AV, AP, CQ, ea, eb, EqI, hp, e1, e2, spl_S, spl_0, spl_00, e3]
    have he : turnE m q = pchk m := if_neg hp
    have hne : turnE m q ≠ 0 := fun e => hp (he ▸ e)
    exact ⟨⟨_, by rw [he], by unfold turnR; rw [if_neg hne]; exact oi_zero⟩, e5⟩
  simp +contextual (disch := omega) only [↓AM, ↓AV, AP, CQ, ea, eb, EqI, hp]
  refine c_iw.use ?_
  rintro _ h1 _ ⟨rfl, rfl⟩
  by_cases hq : 0 ≤ q ∧ q ≤ 3
  case neg =>
    obtain ⟨g', e1, e2, e3, e4, e5⟩ := put h1 [.int .i64 0, .int .i64 0, .int .i64 0, .slice none 0 0] w1 f1 rfl
    simp +contextual (disch := omega) only [↓AM, ↓AV, AP, CQ, ea, eb, hq, e1, e2, spl_S, spl_0, spl_00, e3]
    have he : turnE m q = 1 := by unfold turnE; rw [if_pos hp, if_neg hq]
    exact ⟨⟨_, by rw [he], by unfold turnR; rw [if_neg (by rw [he]; decide)]; exact oi_zero⟩, e5⟩
  have g := pchk_good.1 hp
  have he := turnE_0.2 ⟨g, hq⟩
  simp +contextual (disch := omega) only [↓AM, ↓AV, AP, CQ, ea, eb, hq, na h1 f1]
  have f01 := fab.trans f1 fun _ _ x => x
  obtain ⟨qn, rfl⟩ : ∃ qn : Nat, q = qn := ⟨q.toNat, by omega⟩
  refine (c_turned (f := f) g (r.keep w f01) hc (by omega : qn ≤ 3)).use ?_
  rintro _ h2 w2 ⟨oi, f2⟩
  obtain ⟨oc, cc, bsc, rfl, o2, l2⟩ := oi
  have f12 := f1.trans f2 fun _ _ x => x
  obtain ⟨g', e1, e2, e3, e4, e5⟩ := put h2 (imC (turnS m qn f) oc cc) w2 f12 rfl
  simp only [imC] at e1 e3
  simp +contextual (disch := omega) only [↓AM, ↓AV, AP, CQ, imC, ea, eb, e1, e2, spl_S, spl_0, spl_00, e3]
  refine ⟨⟨_, by rw [he], ?_⟩, e5⟩
  rw [(turnR_ok g (by omega)).2]
  exact ⟨oc, cc, bsc, rfl, (o2.keepB w2 e4 fun z hz => by have : z = ha.size := hz; have := f1.size; omega).older f01.size, l2⟩
theorem c_rTurn {h : Hp} {m : Im} {oa : Option Addr} {c : Nat} {q : Int} {f : Bool} (r : R2 h oa m.pl) (hz : Sz m.pl) :
    ACalls Tryz.prog 14 [.agg (imC m oa c).toArray, .int .i64 q, .bool f] h fun v h' => (∃ u, v = .tuple #[u, .int .i64 (turnE m q)] ∧ OI h h' u (turnR m q f)) ∧ Fm No h h' := by
  refine dioramaref15_Turn_ok.snd Af.hm rfl fun w => ?_
  rw [WF_eq, dioramaref15_Turn]
  obtain ⟨ha, ea⟩ : ∃ g, h.new ⟨[.int .i64 m.wd, .int .i64 m.hg, .int .i64 m.bt, .slice oa m.pl.length c], .own⟩ = g := ⟨_, rfl⟩
  have wa : Wf ha := ea ▸ w.new
  have fa : Fm No h ha := ea ▸ Fm.new Fm.refl
  have ga : ha.get h.size = some ⟨[.int .i64 m.wd, .int .i64 m.hg, .int .i64 m.bt, .slice oa m.pl.length c], .own⟩ := ea ▸ gnew
  have sa : ha.size = h.size + 1 := by rw [← ea]; rfl
  obtain ⟨hb, eb⟩ : ∃ g, ha.new ⟨[.int .i64 0, .int .i64 0, .int .i64 0, .slice none 0 0], .own⟩ = g := ⟨_, rfl⟩
  have wb : Wf hb := eb ▸ wa.new
  have fb : Fm No ha hb := eb ▸ Fm.new Fm.refl
  have gb : hb.get ha.size = some ⟨[.int .i64 0, .int .i64 0, .int .i64 0, .slice none 0 0], .own⟩ := eb ▸ gnew
  have gab := fb.keep wa ga (fun f => f)
  have sb : hb.size = ha.size + 1 := by rw [← eb]; rfl
  have fab : Fm No h hb := fa.trans fb fun _ _ x => x
  have na : ∀ g, Fm No hb g → g.rdN h.size 0 4 = some [.int .i64 m.wd, .int .i64 m.hg, .int .i64 m.bt, .slice oa m.pl.length c] := fun g fg => rdN_mk (fg.keep wb gab (fun f => f)) (by simp)
  have put : ∀ (g : Hp) (x : List Value), Wf g → Fm No hb g → x.length = 4 → ∃ g', g.put ha.size ⟨x, .own⟩ = g' ∧ g.get ha.size = some ⟨[.int .i64 0, .int .i64 0, .int .i64 0, .slice none 0 0], .own⟩ ∧ g'.rdN ha.size 0 4 = some x ∧ Fm (fun z => z = ha.size) g g' ∧ Fm No h g' := fun g x wg fg hx => by
    have fp : Fm (fun z => z = ha.size) g (g.put ha.size ⟨x, .own⟩) := Fm.put Fm.refl fun _ => rfl
    refine ⟨_, rfl, fg.keep wb gb (fun f => f), ?_, fp, (fab.trans fg fun _ _ x => x).trans fp fun z hz hy => by have : z = ha.size := hy; omega⟩
    rw [rdN_mk gput (by simp [hx])]
    simp [← hx]
  simp +contextual (disch := omega) only [↓AM, ↓AV, AP, CQ, imC, ea, eb, na hb Fm.refl]
  refine (c_rcheck (r.keep w fab) hz).use ?_
  rintro _ h1 w1 ⟨rfl, f1⟩
  by_cases hp : pchk m = 0
  case neg =>
    obtain ⟨g', e1, e2, e3, e4, e5⟩ := put h1 [.int .i64 0, .int .i64 0, .int .i64 0, .slice none 0 0] w1 f1 rfl
    simp +contextual (disch := omega) only [↓AM, ↓AV, AP, CQ, ea, eb, EqI, hp, e1, e2, spl_S, spl_0, spl_00, e3]
    have he : turnE m q = pchk m := if_neg hp
    have hne : turnE m q ≠ 0 := fun e => hp (he ▸ e)
    exact ⟨⟨_, by rw [he], by unfold turnR; rw [if_neg hne]; exact oi_zero⟩, e5⟩
  simp +contextual (disch := omega) only [↓AM, ↓AV, AP, CQ, ea, eb, EqI, hp]
  refine c_in15.use ?_
  rintro _ h1 _ ⟨rfl, rfl⟩
  by_cases hq : 0 ≤ q ∧ q ≤ 3
  case neg =>
    obtain ⟨g', e1, e2, e3, e4, e5⟩ := put h1 [.int .i64 0, .int .i64 0, .int .i64 0, .slice none 0 0] w1 f1 rfl
    simp +contextual (disch := omega) only [↓AM, ↓AV, AP, CQ, ea, eb, hq, e1, e2, spl_S, spl_0, spl_00, e3]
    have he : turnE m q = 1 := by unfold turnE; rw [if_pos hp, if_neg hq]
    exact ⟨⟨_, by rw [he], by unfold turnR; rw [if_neg (by rw [he]; decide)]; exact oi_zero⟩, e5⟩
  have g := pchk_good.1 hp
  have he := turnE_0.2 ⟨g, hq⟩
  simp +contextual (disch := omega) only [↓AM, ↓AV, AP, CQ, ea, eb, hq, na h1 f1]
  have f01 := fab.trans f1 fun _ _ x => x
  obtain ⟨qn, rfl⟩ : ∃ qn : Nat, q = qn := ⟨q.toNat, by omega⟩
  refine (c_rturned (f := f) g (r.keep w f01) (by omega : qn ≤ 3)).use ?_
  rintro _ h2 w2 ⟨oi, f2⟩
  obtain ⟨oc, cc, bsc, rfl, o2, l2⟩ := oi
  have f12 := f1.trans f2 fun _ _ x => x
  obtain ⟨g', e1, e2, e3, e4, e5⟩ := put h2 (imC (turnS m qn f) oc cc) w2 f12 rfl
  simp only [imC] at e1 e3
  simp +contextual (disch := omega) only [↓AM, ↓AV, AP, CQ, imC, ea, eb, e1, e2, spl_S, spl_0, spl_00, e3]
  refine ⟨⟨_, by rw [he], ?_⟩, e5⟩
  rw [(turnR_ok g (by omega)).2]
  exact ⟨oc, cc, bsc, rfl, (o2.keepB w2 e4 fun z hz => by have : z = ha.size := hz; have := f1.size; omega).older f01.size, l2⟩
theorem c_Within4 {h : Hp} {b : Int} : ACalls Tryz.prog 17 [.int .i64 b, .int .i64 4] h fun v h' => (∃ k : Nat, v = .int .i64 (k : Int) ∧ k ≤ 3) ∧ h' = h := by
  refine dioramaref00_Within_ok.snd Af.hm rfl fun w => ?_
  rw [WF_eq, dioramaref00_Within]
  have e4 : IntKind.u64.wrap 4 = 4 := by decide
  simp +contextual (disch := omega) only [↓AM, ↓AV, AP, CQ, e4]
  have hu : 0 ≤ IntKind.u64.wrap b := by
    have : IntKind.u64.wrap b = b % 18446744073709551616 := by simp [IntKind.wrap, IntKind.bits, IntKind.signed]
    rw [this]
    omega
  have hm : (IntKind.u64.wrap b).tmod 4 = IntKind.u64.wrap b % 4 := Int.tmod_eq_emod_of_nonneg hu
  refine ⟨by decide, ⟨(IntKind.u64.wrap b % 4).toNat, ?_, by omega⟩⟩
  rw [hm, i64 (by omega)]
  congr 1
  omega
end Go.Proofs.YtmkcngcnedjfkaaGreat.It

/- A picture drawn on another, plain.
   Conditions: none. -/
namespace Go.Proofs.YtmkcngcnedjfkaaGreat.It
set_option linter.unusedVariables false

/-- A plane of W by H on which the first n numbers of a plane of w by h are drawn at (x, y). -/
def drw (W H w h : Nat) (x y : Int) (n : Nat) (c l : List Int) : List Int :=
  (List.range (W * H)).map fun t => if 0 ≤ ((t % W : Nat) : Int) - x ∧ ((t % W : Nat) : Int) - x < w ∧ 0 ≤ ((t / W : Nat) : Int) - y ∧ ((t / W : Nat) : Int) - y < h ∧ (((t / W : Nat) : Int) - y).toNat * w + (((t % W : Nat) : Int) - x).toNat < n
    then l.getD ((((t / W : Nat) : Int) - y).toNat * w + (((t % W : Nat) : Int) - x).toNat) 0 else c.getD t 0
theorem drw_len {W H w h : Nat} {x y : Int} {n : Nat} {c l : List Int} : (drw W H w h x y n c l).length = W * H := by simp [drw]
theorem drw_0 {W H w h : Nat} {x y : Int} {c l : List Int} (hc : c.length = W * H) : drw W H w h x y 0 c l = c := by
  apply List.ext_getElem?
  intro t
  by_cases ht : t < W * H
  · rw [drw, List.getElem?_map, List.getElem?_range ht, Option.map_some, if_neg (by omega), List.getElem?_eq_getElem (by omega)]
    simp [List.getD, List.getElem?_eq_getElem (show t < c.length by omega)]
  · rw [List.getElem?_eq_none (by rw [drw_len]; omega), List.getElem?_eq_none (by omega)]
theorem dm_lt {w i j i' j' : Nat} (hi : i < w) (hi' : i' < w) (h : j * w + i = j' * w + i') : i = i' ∧ j = j' := by
  have h1 : (j * w + i) % w = i := at_mod hi
  have h2 : (j' * w + i') % w = i' := at_mod hi'
  have h3 : (j * w + i) / w = j := at_div hi
  have h4 : (j' * w + i') / w = j' := at_div hi'
  rw [h] at h1 h3
  exact ⟨h1.symm.trans h2, h3.symm.trans h4⟩
theorem drw_in {W H w h : Nat} {x y : Int} {i j : Nat} {c l : List Int} (hi : i < w) (hj : j < h) (a1 : 0 ≤ x + i) (a2 : x + i < W) (b1 : 0 ≤ y + j) (b2 : y + j < H) :
    (drw W H w h x y (j * w + i) c l).set ((y + j).toNat * W + (x + i).toNat) (l.getD (j * w + i) 0) = drw W H w h x y (j * w + i + 1) c l := by
  apply List.ext_getElem?
  intro t
  by_cases ht : t < W * H
  · rw [List.getElem?_set]
    by_cases he : (y + j).toNat * W + (x + i).toNat = t
    · have m1 : t % W = (x + i).toNat := by rw [← he]; exact at_mod (by omega)
      have m2 : t / W = (y + j).toNat := by rw [← he]; exact at_div (by omega)
      rw [if_pos he, if_pos (by rw [drw_len]; omega), drw, List.getElem?_map, List.getElem?_range ht, Option.map_some, m1, m2]
      have e1 : (((x + i).toNat : Nat) : Int) - x = i := by omega
      have e2 : (((y + j).toNat : Nat) : Int) - y = j := by omega
      rw [e1, e2, Int.toNat_natCast, Int.toNat_natCast, if_pos (by omega)]
    · rw [if_neg he, drw, drw, List.getElem?_map, List.getElem?_map, List.getElem?_range ht, Option.map_some, Option.map_some]
      congr 1
      generalize hu : ((t % W : Nat) : Int) - x = u
      generalize hv : ((t / W : Nat) : Int) - y = v
      by_cases hr : 0 ≤ u ∧ u < w ∧ 0 ≤ v ∧ v < h
      · by_cases hn : v.toNat * w + u.toNat < j * w + i
        · rw [if_pos ⟨hr.1, hr.2.1, hr.2.2.1, hr.2.2.2, hn⟩, if_pos ⟨hr.1, hr.2.1, hr.2.2.1, hr.2.2.2, by omega⟩]
        · have hne : v.toNat * w + u.toNat ≠ j * w + i := fun e => by
            obtain ⟨e1, e2⟩ := dm_lt (by omega) hi e
            apply he
            have : t = t / W * W + t % W := at_eq.symm
            rw [this]
            have q1 : (x + i).toNat = t % W := by omega
            have q2 : (y + j).toNat = t / W := by omega
            rw [q1, q2]
          rw [if_neg (fun q => hn q.2.2.2.2), if_neg (fun q => hne (by have := q.2.2.2.2; omega))]
      · rw [if_neg (fun q => hr ⟨q.1, q.2.1, q.2.2.1, q.2.2.2.1⟩), if_neg (fun q => hr ⟨q.1, q.2.1, q.2.2.1, q.2.2.2.1⟩)]
  · rw [List.getElem?_eq_none (by rw [List.length_set, drw_len]; omega), List.getElem?_eq_none (by rw [drw_len]; omega)]
theorem drw_out {W H w h : Nat} {x y : Int} {i j : Nat} {c l : List Int} (hi : i < w) (hj : j < h) (a : ¬ (0 ≤ x + i ∧ x + i < W ∧ 0 ≤ y + j ∧ y + j < H)) :
    drw W H w h x y (j * w + i) c l = drw W H w h x y (j * w + i + 1) c l := by
  apply List.ext_getElem?
  intro t
  by_cases ht : t < W * H
  · have hW : 0 < W := by
      rcases Nat.eq_zero_or_pos W with h0 | h0
      · rw [h0, Nat.zero_mul] at ht; omega
      · exact h0
    have tm : t % W < W := Nat.mod_lt _ hW
    have td : t / W < H := Nat.div_lt_of_lt_mul ht
    rw [drw, drw, List.getElem?_map, List.getElem?_map, List.getElem?_range ht, Option.map_some, Option.map_some]
    congr 1
    generalize hu : ((t % W : Nat) : Int) - x = u
    generalize hv : ((t / W : Nat) : Int) - y = v
    by_cases hr : 0 ≤ u ∧ u < w ∧ 0 ≤ v ∧ v < h
    · by_cases hn : v.toNat * w + u.toNat < j * w + i
      · rw [if_pos ⟨hr.1, hr.2.1, hr.2.2.1, hr.2.2.2, hn⟩, if_pos ⟨hr.1, hr.2.1, hr.2.2.1, hr.2.2.2, by omega⟩]
      · have hne : v.toNat * w + u.toNat ≠ j * w + i := fun e => by
          obtain ⟨e1, e2⟩ := dm_lt (by omega) hi e
          apply a
          generalize t % W = tm' at *
          generalize t / W = td' at *
          refine ⟨?_, ?_, ?_, ?_⟩ <;> omega
        rw [if_neg (fun q => hn q.2.2.2.2), if_neg (fun q => hne (by have := q.2.2.2.2; omega))]
    · rw [if_neg (fun q => hr ⟨q.1, q.2.1, q.2.2.1, q.2.2.2.1⟩), if_neg (fun q => hr ⟨q.1, q.2.1, q.2.2.1, q.2.2.2.1⟩)]
  · rw [List.getElem?_eq_none (by rw [drw_len]; omega), List.getElem?_eq_none (by rw [drw_len]; omega)]
/-- Planes: of the first p all is drawn, of the next one n numbers. -/
def stD (W H w h : Nat) (x y : Int) (cs ls : List (List Int)) (p n : Nat) : List (List Int) :=
  (List.range cs.length).map fun k => if k < p then drw W H w h x y (w * h) (cs.getD k []) (ls.getD k []) else if k = p then drw W H w h x y n (cs.getD k []) (ls.getD k []) else cs.getD k []
theorem stD_len {W H w h : Nat} {x y : Int} {cs ls : List (List Int)} {p n : Nat} : (stD W H w h x y cs ls p n).length = cs.length := by simp [stD]
theorem getD_mem {cs : List (List Int)} {k : Nat} (hk : k < cs.length) : cs.getD k [] ∈ cs := by
  simp [List.getD, List.getElem?_eq_getElem hk]
theorem getD_at {cs : List (List Int)} {k : Nat} (hk : k < cs.length) : cs[k]? = some (cs.getD k []) := by
  simp [List.getD, List.getElem?_eq_getElem hk]
theorem stD_0 {W H w h : Nat} {x y : Int} {cs ls : List (List Int)} (hc : ∀ c ∈ cs, c.length = W * H) : stD W H w h x y cs ls 0 0 = cs := by
  apply List.ext_getElem?
  intro k
  by_cases hk : k < cs.length
  · rw [stD, List.getElem?_map, List.getElem?_range hk, Option.map_some, if_neg (by omega), getD_at hk]
    split
    · rw [drw_0 (hc _ (getD_mem hk))]
    · rfl
  · rw [List.getElem?_eq_none (by rw [stD_len]; omega), List.getElem?_eq_none (by omega)]
theorem stD_get {W H w h : Nat} {x y : Int} {cs ls : List (List Int)} {p n : Nat} (hp : p < cs.length) : (stD W H w h x y cs ls p n)[p]? = some (drw W H w h x y n (cs.getD p []) (ls.getD p [])) := by
  rw [stD, List.getElem?_map, List.getElem?_range hp, Option.map_some, if_neg (by omega), if_pos rfl]
theorem stD_step {W H w h : Nat} {x y : Int} {cs ls : List (List Int)} {p n n' : Nat} (hp : p < cs.length) : (stD W H w h x y cs ls p n).set p (drw W H w h x y n' (cs.getD p []) (ls.getD p [])) = stD W H w h x y cs ls p n' := by
  apply List.ext_getElem?
  intro k
  rw [List.getElem?_set]
  by_cases hk : k < cs.length
  · by_cases e : p = k
    · subst e
      rw [if_pos rfl, if_pos (by rw [stD_len]; exact hk), stD_get hk]
    · rw [if_neg e, stD, stD, List.getElem?_map, List.getElem?_map, List.getElem?_range hk, Option.map_some, Option.map_some, if_neg (fun q : k = p => e q.symm), if_neg (fun q : k = p => e q.symm)]
  · rw [if_neg (by omega), List.getElem?_eq_none (by rw [stD_len]; omega), List.getElem?_eq_none (by rw [stD_len]; omega)]
theorem stD_next {W H w h : Nat} {x y : Int} {cs ls : List (List Int)} {p : Nat} (hc : ∀ c ∈ cs, c.length = W * H) : stD W H w h x y cs ls p (w * h) = stD W H w h x y cs ls (p + 1) 0 := by
  apply List.ext_getElem?
  intro k
  by_cases hk : k < cs.length
  · rw [stD, stD, List.getElem?_map, List.getElem?_map, List.getElem?_range hk, Option.map_some, Option.map_some]
    congr 1
    rcases Nat.lt_trichotomy k p with h1 | h1 | h1
    · rw [if_pos h1, if_pos (by omega)]
    · rw [if_neg (by omega), if_pos h1, if_pos (by omega)]
    · rw [if_neg (by omega), if_neg (by omega), if_neg (by omega)]
      split
      · rw [drw_0 (hc _ (getD_mem hk))]
      · rfl
  · rw [List.getElem?_eq_none (by rw [stD_len]; omega), List.getElem?_eq_none (by rw [stD_len]; omega)]
theorem stD_lens {W H w h : Nat} {x y : Int} {cs ls : List (List Int)} {p n : Nat} (hc : ∀ c ∈ cs, c.length = W * H) : ∀ c ∈ stD W H w h x y cs ls p n, c.length = W * H := by
  intro c hm
  obtain ⟨k, hk, rfl⟩ := List.mem_map.1 hm
  have hk := List.mem_range.1 hk
  split
  · exact drw_len
  split
  · exact drw_len
  · exact hc _ (getD_mem hk)
/-- A part as a whole: the planes drawn on zeros, etc. The drawn planes. -/
def drA (W H w h : Nat) (x y : Int) (cs ls : List (List Int)) : List (List Int) := stD W H w h x y cs ls cs.length 0
end Go.Proofs.YtmkcngcnedjfkaaGreat.It

/- The program draws a picture on another. Plain theorems over the abstract machine.
   Conditions: none. -/
namespace Go.Proofs.YtmkcngcnedjfkaaGreat.It
open Go Go.RowKit Go.Proofs.YtmkcngcnedjfkaaGreat.Am Go.Proofs.YtmkcngcnedjfkaaGreat.Af Go.Proofs.YtmkcngcnedjfkaaGreat.Md
set_option linter.unusedVariables false
set_option linter.unusedSimpArgs false
set_option linter.defProp false
set_option maxRecDepth 20000
set_option maxHeartbeats 2000000

theorem O2.inlt {h0 h : Hp} {oa : Option Addr} {c : Nat} {ls : List (List Int)} {bs : Bl} {rest : List Value} (o : O2 h0 h oa c ls bs rest) (w : Wf h) : ∀ x, InB bs x → h0.size ≤ x ∧ x < h.size := fun x ⟨b, hb', hx⟩ => by
  refine ⟨o.nwI b hb' x hx, ?_⟩
  obtain ⟨j, hj⟩ := List.getElem?_of_mem hb'
  have hjl : j < ls.length := by rw [← o.bl]; exact (List.getElem?_eq_some_iff.1 hj).1
  exact (o.inn j _ b (List.getElem?_eq_getElem hjl) hj).lt w x hx
theorem stD_out {W H w h : Nat} {x y : Int} {cs ls : List (List Int)} {p i j : Nat} (hi : i < w) (hj : j < h) (hp : p < cs.length) (a : ¬ (0 ≤ x + i ∧ x + i < W ∧ 0 ≤ y + j ∧ y + j < H)) : stD W H w h x y cs ls p (j * w + i) = stD W H w h x y cs ls p (j * w + (i + 1)) := by
  have := stD_step (W := W) (H := H) (w := w) (h := h) (x := x) (y := y) (cs := cs) (ls := ls) (p := p) (n := j * w + i) (n' := j * w + i + 1) hp
  rw [← drw_out hi hj a, stD_step hp] at this
  exact this
theorem c_put' {h0 h : Hp} {cv m : Im} {oa ob : Option Addr} {c d : Nat} {bs : Bl} {W H w hh : Nat} {x y : Int} (o : O2 h0 h oa c cv.pl bs []) (hW : cv.wd = W) (hH : cv.hg = H) (hw : m.wd = w) (hh' : m.hg = hh)
    (sW : W ≤ 64) (sH : H ≤ 64) (sw : w ≤ 64) (sh : hh ≤ 64) (hml : ∀ l ∈ m.pl, l.length = w * hh) (hcl : ∀ l ∈ cv.pl, l.length = W * H) (hle : m.pl.length = cv.pl.length) (hsm : cv.pl.length ≤ 1000)
    (hx : -10000 ≤ x ∧ x ≤ 10000) (hy : -10000 ≤ y ∧ y ≤ 10000) (hk : ∀ g, Fm (InB bs) h g → R2 g ob m.pl) :
    ACalls Tryz.prog 68 [.agg (imC cv oa c).toArray, .agg (imC m ob d).toArray, .int .i64 x, .int .i64 y] h fun v h' => O2 h0 h' oa c (drA W H w hh x y cv.pl m.pl) bs [] ∧ Fm (InB bs) h h' := by
  refine item_put_ok.snd Af.hm rfl fun wf => ?_
  rw [WF_eq, item_put]
  obtain ⟨wi, hgi, bi, pl⟩ := m
  obtain ⟨wc, hgc, bc, cl⟩ := cv
  simp only [Im.wd, Im.hg, Im.bt, Im.pl] at *
  subst hW hH hw hh'
  obtain ⟨ha, ea⟩ : ∃ g, h.new ⟨[.int .i64 (W : Int), .int .i64 (H : Int), .int .i64 bc, .slice oa cl.length c], .own⟩ = g := ⟨_, rfl⟩
  have wa : Wf ha := ea ▸ wf.new
  have fa : Fm No h ha := ea ▸ Fm.new Fm.refl
  have ga : ha.get h.size = some ⟨[.int .i64 (W : Int), .int .i64 (H : Int), .int .i64 bc, .slice oa cl.length c], .own⟩ := ea ▸ gnew
  have sa : ha.size = h.size + 1 := by rw [← ea]; rfl
  obtain ⟨hb, eb⟩ : ∃ g, ha.new ⟨[.int .i64 (w : Int), .int .i64 (hh : Int), .int .i64 bi, .slice ob pl.length d], .own⟩ = g := ⟨_, rfl⟩
  have wb : Wf hb := eb ▸ wa.new
  have fb : Fm No ha hb := eb ▸ Fm.new Fm.refl
  have gb : hb.get ha.size = some ⟨[.int .i64 (w : Int), .int .i64 (hh : Int), .int .i64 bi, .slice ob pl.length d], .own⟩ := eb ▸ gnew
  have gab := fb.keep wa ga (fun f => f)
  have sb : hb.size = ha.size + 1 := by rw [← eb]; rfl
  have fab : Fm No h hb := fa.trans fb fun _ _ x => x
  have inlt := o.inlt wf
  have keepA : ∀ g, Fm (InB bs) hb g → R2 g ob pl ∧ g.get h.size = some ⟨[.int .i64 (W : Int), .int .i64 (H : Int), .int .i64 bc, .slice oa cl.length c], .own⟩ ∧ g.get ha.size = some ⟨[.int .i64 (w : Int), .int .i64 (hh : Int), .int .i64 bi, .slice ob pl.length d], .own⟩ := fun g fg => by
    refine ⟨hk g ((fab.mono fun _ _ f => f.elim).trans fg fun _ _ x => x), fg.keep wb gab fun f => ?_, fg.keep wb gb fun f => ?_⟩
    · have := (inlt _ f).2; omega
    · have := (inlt _ f).2; omega
  obtain ⟨_, n4, n5⟩ := keepA hb Fm.refl
  simp +contextual (disch := omega) only [↓AM, ↓AV, AP, CQ, imC, Im.wd, Im.hg, Im.bt, Im.pl, ea, eb, rd_mk n5]
  have ob2 := o.keepN wf fab
  refine WL.mk (fun k t h' => ∃ (p : Nat), Wf h' ∧ O2 h0 h' oa c (stD W H w hh x y cl pl p 0) bs [] ∧ Fm (InB bs) hb h' ∧ p ≤ pl.length ∧ k = pl.length - p ∧
      t = [(2, some (.int .i64 x)), (3, some (.int .i64 y)), (4, some (.pointer (some ⟨h.size, 0, none⟩))), (5, some (.pointer (some ⟨ha.size, 0, none⟩))), (13, some (.int .i64 (pl.length : Int))), (14, some (.int .i64 (p : Int)))])
    ⟨pl.length, 0, wb, by rw [stD_0 hcl]; exact ob2, Fm.refl, by omega, rfl, rfl⟩ ?_
  rintro k t hp1 ⟨p, wp1, op1, fp1, hp, rfl, rfl⟩
  obtain ⟨rp, gp4, gp5⟩ := keepA hp1 fp1
  by_cases hpn : p < pl.length
  · have hpc : p < cl.length := by omega
    simp +contextual (disch := omega) only [↓AM, ↓AV, AP, CQ, hpn, rd_mk gp5]
    refine WL.mk (fun k t h' => ∃ (j : Nat), Wf h' ∧ O2 h0 h' oa c (stD W H w hh x y cl pl p (j * w)) bs [] ∧ Fm (InB bs) hb h' ∧ j ≤ hh ∧ k = hh - j ∧
        t = [(2, some (.int .i64 x)), (3, some (.int .i64 y)), (4, some (.pointer (some ⟨h.size, 0, none⟩))), (5, some (.pointer (some ⟨ha.size, 0, none⟩))), (8, some (.int .i64 (p : Int))), (13, some (.int .i64 (pl.length : Int))), (14, some (.int .i64 (p : Int))), (18, some (.int .i64 (hh : Int))), (19, some (.int .i64 (j : Int)))])
      ⟨hh, 0, wp1, by rw [Nat.zero_mul]; exact op1, fp1, by omega, rfl, rfl⟩ ?_
    rintro k t hj1 ⟨j, wj1, oj1, fj1, hj, rfl, rfl⟩
    obtain ⟨rj, gj4, gj5⟩ := keepA hj1 fj1
    by_cases hjn : j < hh
    · simp +contextual (disch := omega) only [↓AM, ↓AV, AP, CQ, hjn, rd_mk gj5]
      refine WL.mk (fun k t h' => ∃ (i : Nat), Wf h' ∧ O2 h0 h' oa c (stD W H w hh x y cl pl p (j * w + i)) bs [] ∧ Fm (InB bs) hb h' ∧ i ≤ w ∧ k = w - i ∧
          t = [(2, some (.int .i64 x)), (3, some (.int .i64 y)), (4, some (.pointer (some ⟨h.size, 0, none⟩))), (5, some (.pointer (some ⟨ha.size, 0, none⟩))), (8, some (.int .i64 (p : Int))), (9, some (.int .i64 (j : Int))), (13, some (.int .i64 (pl.length : Int))), (14, some (.int .i64 (p : Int))), (18, some (.int .i64 (hh : Int))), (19, some (.int .i64 (j : Int))), (23, some (.int .i64 (w : Int))), (24, some (.int .i64 (i : Int)))])
        ⟨w, 0, wj1, oj1, fj1, by omega, rfl, rfl⟩ ?_
      rintro k t hi1 ⟨i, wi1, oi1, fi1, hi, rfl, rfl⟩
      obtain ⟨ri, gi4, gi5⟩ := keepA hi1 fi1
      by_cases hin : i < w
      · simp +contextual (disch := omega) only [↓AM, ↓AV, AP, CQ, hin, rd_mk gi4, i64]
        refine c_iw.use ?_
        rintro _ h9 _ ⟨rfl, e9⟩
        subst e9
        by_cases c1 : 0 ≤ x + (i : Int) ∧ x + (i : Int) ≤ (W : Int) - 1
        · simp +contextual (disch := omega) only [↓AM, ↓AV, AP, CQ, c1, rd_mk gi4, i64]
          refine c_iw.use ?_
          rintro _ h9 _ ⟨rfl, e9⟩
          subst e9
          by_cases c2 : 0 ≤ y + (j : Int) ∧ y + (j : Int) ≤ (H : Int) - 1
          · obtain ⟨X, hX⟩ : ∃ X : Nat, x + (i : Int) = X := ⟨(x + i).toNat, by omega⟩
            obtain ⟨Y, hY⟩ : ∃ Y : Nat, y + (j : Int) = Y := ⟨(y + j).toNat, by omega⟩
            have hXW : X < W := by omega
            have hYH : Y < H := by omega
            have hdst : Y * W + X < W * H := at_lt hXW hYH
            have hsrc : j * w + i < w * hh := at_lt hin hjn
            have hWH : W * H ≤ 4096 := Nat.mul_le_mul sW sH
            have hwh : w * hh ≤ 4096 := Nat.mul_le_mul sw sh
            have hix : ((Y * W : Nat) : Int) + x + (i : Int) = ((Y * W + X : Nat) : Int) := by omega
            have c1' : 0 ≤ (X : Int) ∧ (X : Int) ≤ (W : Int) - 1 := by omega
            have c2' : 0 ≤ (Y : Int) ∧ (Y : Int) ≤ (H : Int) - 1 := by omega
            obtain ⟨b1, o1', s1, obl, cl', l, eo1, fl1, hl1, rl1, ll1, ql1⟩ := ri.at hpn
            have hll := hml l (List.mem_of_getElem? hl1)
            have hgd : pl.getD p [] = l := by simp [List.getD, hl1]
            obtain ⟨b4, o4, s4, e4, f4, v, hv, r4⟩ := Rd.int ql1 (i := j * w + i) (by rw [hll]; exact hsrc)
            obtain ⟨bo, spo, lp, ob', cc, eo, fo, hlp, hbp, ro, iw⟩ := oi1.at wi1 (p := p) (by rw [stD_len]; exact hpc)
            rw [stD_get hpc, hgd] at hlp
            cases hlp
            rw [drw_len] at ro
            obtain ⟨b2, sp2, obj, v2, e2', f2', g2', m2', le2', _, _, put2⟩ := iw.cell wi1 (i := Y * W + X) (by rw [drw_len]; exact hdst)
            have hsl : j * w + i < l.length := by rw [hll]; exact hsrc
            subst eo e4 e2' eo1
            simp +contextual (disch := omega) only [↓AM, ↓AV, AP, CQ, hX, hY, hix, c1', c2', rd_mk gi4, rd_mk gi5, hpn, hpc, fo, fl1, ro, rl1, nmul, i64, hsl, f4, r4, hdst, f2', g2', m2', le2']
            obtain ⟨q1, q2, q3, q4⟩ := put2 (.int .i64 v)
            rw [iV_set] at q2
            have o5 := oi1.upd wi1 (p := p) (l := drw W H w hh x y (j * w + i) (cl.getD p []) l) (by rw [stD_get hpc, hgd]) hbp q4 (by rw [List.length_set]; exact q2) (by rw [List.length_set])
            have step := drw_in (W := W) (H := H) (w := w) (h := hh) (x := x) (y := y) (c := cl.getD p []) (l := l) hin hjn (by omega) (by omega) (by omega) (by omega)
            rw [hX, hY, Int.toNat_natCast, Int.toNat_natCast, getD_of hv] at step
            rw [step, ← hgd, stD_step hpc] at o5
            exact ⟨w - (i + 1), by omega, i + 1, q3, o5, fi1.trans q4 fun z hz hat => ⟨_, List.mem_of_getElem? hbp, hat⟩, by omega, rfl, rfl⟩
          · simp +contextual (disch := omega) only [↓AM, ↓AV, AP, CQ, c1, c2, rd_mk gi4, i64]
            rw [stD_out hin hjn hpc (fun q => c2 (by omega))] at oi1
            exact ⟨w - (i + 1), by omega, i + 1, wi1, oi1, fi1, by omega, rfl, rfl⟩
        · simp +contextual (disch := omega) only [↓AM, ↓AV, AP, CQ, c1, rd_mk gi4, i64]
          rw [stD_out hin hjn hpc (fun q => c1 (by omega))] at oi1
          exact ⟨w - (i + 1), by omega, i + 1, wi1, oi1, fi1, by omega, rfl, rfl⟩
      · have hie : i = w := by omega
        subst hie
        simp +contextual (disch := omega) only [↓AM, ↓AV, AP, CQ, hin, i64]
        exact ⟨hh - (j + 1), by omega, j + 1, wi1, by rw [Nat.add_mul, Nat.one_mul]; exact oi1, fi1, by omega, rfl, rfl⟩
    · have hje : j = hh := by omega
      subst hje
      rw [Nat.mul_comm, stD_next hcl] at oj1
      simp +contextual (disch := omega) only [↓AM, ↓AV, AP, CQ, hjn, i64]
      exact ⟨pl.length - (p + 1), by omega, p + 1, wj1, oj1, fj1, by omega, rfl, rfl⟩
  · have hpe : p = cl.length := by omega
    subst hpe
    simp +contextual (disch := omega) only [↓AM, ↓AV, AP, CQ, hpn, i64]
    exact ⟨op1, (fab.mono fun _ _ f => f.elim).trans fp1 fun _ _ x => x⟩
/-- A picture whose sizes are small and whose planes have them. -/
structure Fit (m : Im) : Prop where
  we : m.wd = (m.w : Int) ∧ 1 ≤ m.w ∧ m.w ≤ 64
  he : m.hg = (m.h : Int) ∧ 1 ≤ m.h ∧ m.h ≤ 64
  len : ∀ l ∈ m.pl, l.length = m.w * m.h
  np : m.pl.length ≤ 1000
theorem Good.fit {m : Im} (g : Good m) : Fit m := ⟨g.w_eq, g.h_eq, fun l hl => g.len_eq hl, by have := g.dim.2.2; omega⟩
theorem Fit.sz {m : Im} (f : Fit m) : m.w * m.h ≤ 4096 := Nat.mul_le_mul f.we.2.2 f.he.2.2
theorem Fit.sm {m : Im} (f : Fit m) : Sm m.pl := ⟨f.np, fun l hl => by rw [f.len l hl]; have := f.sz; omega⟩
def drI (cv m : Im) (x y : Int) : Im := (cv.wd, cv.hg, cv.bt, drA cv.w cv.h m.w m.h x y cv.pl m.pl)
theorem drI_len {cv m : Im} {x y : Int} : (drI cv m x y).pl.length = cv.pl.length := stD_len
theorem drI_fit {cv m : Im} {x y : Int} (f : Fit cv) : Fit (drI cv m x y) := ⟨f.we, f.he, fun l hl => stD_lens f.len l hl, by rw [drI_len]; exact f.np⟩
theorem c_put {h0 h : Hp} {cv m : Im} {oa ob : Option Addr} {c d : Nat} {bs : Bl} {x y : Int} (o : O2 h0 h oa c cv.pl bs []) (fc : Fit cv) (fm : Fit m) (hle : m.pl.length = cv.pl.length)
    (hx : -10000 ≤ x ∧ x ≤ 10000) (hy : -10000 ≤ y ∧ y ≤ 10000) (hk : ∀ g, Fm (InB bs) h g → R2 g ob m.pl) :
    ACalls Tryz.prog 68 [.agg (imC cv oa c).toArray, .agg (imC m ob d).toArray, .int .i64 x, .int .i64 y] h fun v h' => O2 h0 h' oa c (drI cv m x y).pl bs [] ∧ Fm (InB bs) h h' :=
  c_put' o fc.we.1 fc.he.1 fm.we.1 fm.he.1 fc.we.2.2 fc.he.2.2 fm.we.2.2 fm.he.2.2 fm.len fc.len hle fc.np hx hy hk
end Go.Proofs.YtmkcngcnedjfkaaGreat.It

/- The document draws a picture on another. Plain theorems over the abstract machine.
   Conditions: none. -/
namespace Go.Proofs.YtmkcngcnedjfkaaGreat.It
open Go Go.RowKit Go.Proofs.YtmkcngcnedjfkaaGreat.Am Go.Proofs.YtmkcngcnedjfkaaGreat.Af Go.Proofs.YtmkcngcnedjfkaaGreat.Md
set_option linter.unusedVariables false
set_option linter.unusedSimpArgs false
set_option linter.defProp false
set_option maxRecDepth 20000
set_option maxHeartbeats 2000000

theorem tmodN (a b : Nat) : (a : Int).tmod (b : Int) = ((a % b : Nat) : Int) := by rw [Int.tmod_eq_emod_of_nonneg (by omega)]; exact (Int.natCast_emod a b).symm
theorem tdivN (a b : Nat) : (a : Int).tdiv (b : Int) = ((a / b : Nat) : Int) := by rw [Int.tdiv_eq_ediv_of_nonneg (by omega)]; exact (Int.natCast_ediv a b).symm
theorem c_drawn' {h : Hp} {cv m : Im} {oa ob : Option Addr} {c d : Nat} {W H w hh : Nat} {x y : Int} (r : R2 h oa cv.pl) (rm : R2 h ob m.pl) (hW : cv.wd = W) (hH : cv.hg = H) (hw : m.wd = w) (hh' : m.hg = hh)
    (sW : W ≤ 64) (sH : H ≤ 64) (sw : w ≤ 64) (sh : hh ≤ 64) (pw : 1 ≤ w) (hml : ∀ l ∈ m.pl, l.length = w * hh) (hcl : ∀ l ∈ cv.pl, l.length = W * H) (hle : m.pl.length = cv.pl.length) (hsm : Sm cv.pl)
    (hx : -10000 ≤ x ∧ x ≤ 10000) (hy : -10000 ≤ y ∧ y ≤ 10000) :
    ACalls Tryz.prog 69 [.agg (imC cv oa c).toArray, .agg (imC m ob d).toArray, .int .i64 x, .int .i64 y] h fun v h' => OI h h' v (cv.wd, cv.hg, cv.bt, drA W H w hh x y cv.pl m.pl) ∧ Fm No h h' := by
  refine dioramaref15_drawn_ok.snd Af.hm rfl fun wf => ?_
  rw [WF_eq, dioramaref15_drawn]
  obtain ⟨wi, hgi, bi, pl⟩ := m
  obtain ⟨wc, hgc, bc, cl⟩ := cv
  simp only [Im.wd, Im.hg, Im.bt, Im.pl] at *
  subst hW hH hw hh'
  obtain ⟨ha, ea⟩ : ∃ g, h.new ⟨[.int .i64 (W : Int), .int .i64 (H : Int), .int .i64 bc, .slice oa cl.length c], .own⟩ = g := ⟨_, rfl⟩
  have wa : Wf ha := ea ▸ wf.new
  have fa : Fm No h ha := ea ▸ Fm.new Fm.refl
  have ga : ha.get h.size = some ⟨[.int .i64 (W : Int), .int .i64 (H : Int), .int .i64 bc, .slice oa cl.length c], .own⟩ := ea ▸ gnew
  have sa : ha.size = h.size + 1 := by rw [← ea]; rfl
  obtain ⟨hb, eb⟩ : ∃ g, ha.new ⟨[.int .i64 (w : Int), .int .i64 (hh : Int), .int .i64 bi, .slice ob pl.length d], .own⟩ = g := ⟨_, rfl⟩
  have wb : Wf hb := eb ▸ wa.new
  have fb : Fm No ha hb := eb ▸ Fm.new Fm.refl
  have gb : hb.get ha.size = some ⟨[.int .i64 (w : Int), .int .i64 (hh : Int), .int .i64 bi, .slice ob pl.length d], .own⟩ := eb ▸ gnew
  have gab := fb.keep wa ga (fun f => f)
  have sb : hb.size = ha.size + 1 := by rw [← eb]; rfl
  obtain ⟨hc, ec⟩ : ∃ g, hb.new ⟨[.int .i64 0, .int .i64 0, .int .i64 0, .slice none 0 0], .own⟩ = g := ⟨_, rfl⟩
  have wc : Wf hc := ec ▸ wb.new
  have fc : Fm No hb hc := ec ▸ Fm.new Fm.refl
  have gc : hc.get hb.size = some ⟨[.int .i64 0, .int .i64 0, .int .i64 0, .slice none 0 0], .own⟩ := ec ▸ gnew
  have gac := fc.keep wb gab (fun f => f)
  have gbc := fc.keep wb gb (fun f => f)
  have sc : hc.size = hb.size + 1 := by rw [← ec]; rfl
  have fac : Fm No h hc := (fa.trans fb fun _ _ x => x).trans fc fun _ _ x => x
  have n4 : hc.rdN h.size 0 4 = some [.int .i64 (W : Int), .int .i64 (H : Int), .int .i64 bc, .slice oa cl.length c] := rdN_mk gac (by simp)
  simp +contextual (disch := omega) only [↓AM, ↓AV, AP, CQ, imC, Im.wd, Im.hg, Im.bt, Im.pl, ea, eb, ec, n4]
  refine (c_CopyImage (m := ((W : Int), (H : Int), bc, cl)) (r.keep wf fac) hsm).use ?_
  rintro _ h1 w1 ⟨⟨oa1, c1, bs, rfl, o1, lc1⟩, f1⟩
  have hs1 := f1.size
  have inlt := o1.inlt w1
  obtain ⟨h2, e2⟩ : ∃ g, h1.new ⟨[.int .i64 (W : Int), .int .i64 (H : Int), .int .i64 bc, .slice oa1 cl.length c1], .own⟩ = g := ⟨_, rfl⟩
  have w2 : Wf h2 := e2 ▸ w1.new
  have f2 : Fm No h1 h2 := e2 ▸ Fm.new Fm.refl
  have g2 : h2.get h1.size = some ⟨[.int .i64 (W : Int), .int .i64 (H : Int), .int .i64 bc, .slice oa1 cl.length c1], .own⟩ := e2 ▸ gnew
  have s2 : h2.size = h1.size + 1 := by rw [← e2]; rfl
  have fc2 : Fm No hc h2 := f1.trans f2 fun _ _ x => x
  have keepA : ∀ g, Fm (InB bs) h2 g → R2 g ob pl ∧ g.get ha.size = some ⟨[.int .i64 (w : Int), .int .i64 (hh : Int), .int .i64 bi, .slice ob pl.length d], .own⟩ ∧ g.get h1.size = some ⟨[.int .i64 (W : Int), .int .i64 (H : Int), .int .i64 bc, .slice oa1 cl.length c1], .own⟩ ∧ g.get hb.size = some ⟨[.int .i64 0, .int .i64 0, .int .i64 0, .slice none 0 0], .own⟩ ∧ Fm No h g := fun g fg => by
    have f' : Fm (InB bs) hc g := (fc2.mono fun _ _ f => f.elim).trans fg fun _ _ x => x
    refine ⟨(rm.keep wf fac).keepW wc f' fun z hz f => ?_, f'.keep wc gbc fun f => ?_, fg.keep w2 g2 fun f => ?_, f'.keep wc gc fun f => ?_, fac.trans f' fun z hz f => ?_⟩
    · have := (inlt _ f).1; omega
    · have := (inlt _ f).1; omega
    · have := (inlt _ f).2; omega
    · have := (inlt _ f).1; omega
    · have := (inlt _ f).1; omega
  simp +contextual (disch := omega) only [↓AM, ↓AV, AP, CQ, imC, Im.wd, Im.hg, Im.bt, Im.pl, ea, eb, ec, e2]
  refine WL.mk (fun k t h' => ∃ (p : Nat), Wf h' ∧ O2 hc h' oa1 c1 (stD W H w hh x y cl pl p 0) bs [] ∧ Fm (InB bs) h2 h' ∧ p ≤ pl.length ∧ k = pl.length - p ∧
      t = [(2, some (.int .i64 x)), (3, some (.int .i64 y)), (5, some (.pointer (some ⟨ha.size, 0, none⟩))), (8, some (.pointer (some ⟨hb.size, 0, none⟩))), (9, some (.pointer (some ⟨h1.size, 0, none⟩))), (10, some (.int .i64 (p : Int)))])
    ⟨pl.length, 0, w2, by rw [stD_0 hcl]; exact o1.keepN w1 f2, Fm.refl, by omega, rfl, rfl⟩ ?_
  rintro k t hp1 ⟨p, wp1, op1, fp1, hp, rfl, rfl⟩
  obtain ⟨rp, gp5, gp9, gp8, fhp⟩ := keepA hp1 fp1
  by_cases hpn : p < pl.length
  · have hpc : p < cl.length := by omega
    have hc1000 := hsm.1
    have hwh : w * hh ≤ 4096 := Nat.mul_le_mul sw sh
    simp +contextual (disch := omega) only [↓AM, ↓AV, AP, CQ, hpn, rd_mk gp5]
    refine WL.mk (fun k t h' => ∃ (q : Nat), Wf h' ∧ O2 hc h' oa1 c1 (stD W H w hh x y cl pl p q) bs [] ∧ Fm (InB bs) h2 h' ∧ q ≤ w * hh ∧ k = w * hh - q ∧
        t = [(2, some (.int .i64 x)), (3, some (.int .i64 y)), (5, some (.pointer (some ⟨ha.size, 0, none⟩))), (8, some (.pointer (some ⟨hb.size, 0, none⟩))), (9, some (.pointer (some ⟨h1.size, 0, none⟩))), (10, some (.int .i64 (p : Int))), (11, some (.int .i64 (q : Int)))])
      ⟨w * hh, 0, wp1, op1, fp1, by omega, rfl, rfl⟩ ?_
    rintro k t hq1 ⟨q, wq1, oq1, fq1, hq, rfl, rfl⟩
    obtain ⟨rq, gq5, gq9, gq8, fhq⟩ := keepA hq1 fq1
    by_cases hqn : q < w * hh
    · have hin : q % w < w := Nat.mod_lt _ (by omega)
      have hjn : q / w < hh := Nat.div_lt_of_lt_mul hqn
      have hqe : q / w * w + q % w = q := at_eq
      obtain ⟨i, hi⟩ : ∃ i, q % w = i := ⟨_, rfl⟩
      obtain ⟨j, hj⟩ : ∃ j, q / w = j := ⟨_, rfl⟩
      have w0 : ((w : Nat) : Int) ≠ 0 := by omega
      rw [hi] at hin hqe
      rw [hj] at hjn hqe
      have hh64 : j ≤ 64 := by omega
      have leafN : ¬ (0 ≤ x + (i : Int) ∧ x + (i : Int) < W ∧ 0 ≤ y + (j : Int) ∧ y + (j : Int) < H) → O2 hc hq1 oa1 c1 (stD W H w hh x y cl pl p (q + 1)) bs [] := fun a => by
        rw [← hqe, stD_out hin hjn hpc a, ← Nat.add_assoc] at oq1
        rw [← hqe]
        exact oq1
      by_cases a1 : 0 ≤ x + (i : Int)
      case neg =>
        simp +contextual (disch := omega) only [↓AM, ↓AV, AP, CQ, hqn, rd_mk gq5, rd_mk gq9, nmul, i64, tmodN, tdivN, w0, hi, hj, a1, ge_iff_le]
        exact ⟨w * hh - (q + 1), by omega, q + 1, wq1, leafN (fun z => a1 z.1), fq1, by omega, rfl, rfl⟩
      by_cases a2 : x + (i : Int) < W
      case neg =>
        simp +contextual (disch := omega) only [↓AM, ↓AV, AP, CQ, hqn, rd_mk gq5, rd_mk gq9, nmul, i64, tmodN, tdivN, w0, hi, hj, a1, a2, ge_iff_le]
        exact ⟨w * hh - (q + 1), by omega, q + 1, wq1, leafN (fun z => a2 z.2.1), fq1, by omega, rfl, rfl⟩
      by_cases a3 : 0 ≤ y + (j : Int)
      case neg =>
        simp +contextual (disch := omega) only [↓AM, ↓AV, AP, CQ, hqn, rd_mk gq5, rd_mk gq9, nmul, i64, tmodN, tdivN, w0, hi, hj, a1, a2, a3, ge_iff_le]
        exact ⟨w * hh - (q + 1), by omega, q + 1, wq1, leafN (fun z => a3 z.2.2.1), fq1, by omega, rfl, rfl⟩
      by_cases a4 : y + (j : Int) < H
      case neg =>
        simp +contextual (disch := omega) only [↓AM, ↓AV, AP, CQ, hqn, rd_mk gq5, rd_mk gq9, nmul, i64, tmodN, tdivN, w0, hi, hj, a1, a2, a3, a4, ge_iff_le]
        exact ⟨w * hh - (q + 1), by omega, q + 1, wq1, leafN (fun z => a4 z.2.2.2), fq1, by omega, rfl, rfl⟩
      obtain ⟨X, hX⟩ : ∃ X : Nat, x + (i : Int) = X := ⟨(x + i).toNat, by omega⟩
      obtain ⟨Y, hY⟩ : ∃ Y : Nat, y + (j : Int) = Y := ⟨(y + j).toNat, by omega⟩
      have hXW : X < W := by omega
      have hYH : Y < H := by omega
      have hdst : Y * W + X < W * H := at_lt hXW hYH
      have hWH : W * H ≤ 4096 := Nat.mul_le_mul sW sH
      obtain ⟨b1, o1', s1, obl, cl', l, eo1, fl1, hl1, rl1, ll1, ql1⟩ := rq.at hpn
      have hll := hml l (List.mem_of_getElem? hl1)
      have hgd : pl.getD p [] = l := by simp [List.getD, hl1]
      obtain ⟨b4, o4, s4, e4, f4, v, hv, r4⟩ := Rd.int ql1 (i := q) (by rw [hll]; exact hqn)
      obtain ⟨bo, spo, lp, ob', cc, eo, fo, hlp, hbp, ro, iw⟩ := oq1.at wq1 (p := p) (by rw [stD_len]; exact hpc)
      rw [stD_get hpc, hgd] at hlp
      cases hlp
      rw [drw_len] at ro
      obtain ⟨b2, sp2, obj, v2, e2', f2', g2', m2', le2', _, _, put2⟩ := iw.cell wq1 (i := Y * W + X) (by rw [drw_len]; exact hdst)
      have hsl : q < l.length := by rw [hll]; exact hqn
      have a2' : ((X : Nat) : Int) < (W : Int) := by omega
      have a4' : ((Y : Nat) : Int) < (H : Int) := by omega
      subst eo e4 e2' eo1
      simp +contextual (disch := omega) only [↓AM, ↓AV, AP, CQ, hqn, rd_mk gq5, rd_mk gq9, nmul, i64, tmodN, tdivN, w0, hi, hj, ge_iff_le, hX, hY, hXW, hYH, hpn, hpc, fo, fl1, ro, rl1, hsl, f4, r4, hdst, f2', g2', m2', le2']
      obtain ⟨q1, q2, q3, q4⟩ := put2 (.int .i64 v)
      rw [iV_set] at q2
      have o5 := oq1.upd wq1 (p := p) (l := drw W H w hh x y q (cl.getD p []) l) (by rw [stD_get hpc, hgd]) hbp q4 (by rw [List.length_set]; exact q2) (by rw [List.length_set])
      have step := drw_in (W := W) (H := H) (w := w) (h := hh) (x := x) (y := y) (c := cl.getD p []) (l := l) hin hjn (by omega) (by omega) (by omega) (by omega)
      rw [hX, hY, Int.toNat_natCast, Int.toNat_natCast, hqe, getD_of hv] at step
      rw [step, ← hgd, stD_step hpc] at o5
      exact ⟨w * hh - (q + 1), by omega, q + 1, q3, o5, fq1.trans q4 fun z hz hat => ⟨_, List.mem_of_getElem? hbp, hat⟩, by omega, rfl, rfl⟩
    · have hqe : q = w * hh := by omega
      subst hqe
      rw [stD_next hcl] at oq1
      simp +contextual (disch := omega) only [↓AM, ↓AV, AP, CQ, hqn, rd_mk gq5, nmul, i64]
      exact ⟨pl.length - (p + 1), by omega, p + 1, wq1, oq1, fq1, by omega, rfl, rfl⟩
  · have hpe : p = cl.length := by omega
    subst hpe
    have n9 : hp1.rdN h1.size 0 4 = some [.int .i64 (W : Int), .int .i64 (H : Int), .int .i64 bc, .slice oa1 cl.length c1] := rdN_mk gp9 (by simp)
    obtain ⟨hD, eD⟩ : ∃ g, hp1.put hb.size ⟨[.int .i64 (W : Int), .int .i64 (H : Int), .int .i64 bc, .slice oa1 cl.length c1], .own⟩ = g := ⟨_, rfl⟩
    have fD : Fm (fun x => x = hb.size) hp1 hD := eD ▸ Fm.put Fm.refl fun _ => rfl
    have gD : hD.rdN hb.size 0 4 = some [.int .i64 (W : Int), .int .i64 (H : Int), .int .i64 bc, .slice oa1 cl.length c1] := by rw [← eD]; exact rdN_mk gput (by simp)
    simp +contextual (disch := omega) only [↓AM, ↓AV, AP, CQ, hpn, rd_mk gp5, n9, gp8, spl_S, spl_0, spl_00, eD, gD, i64]
    refine ⟨⟨oa1, c1, bs, ?_, (op1.keepB wp1 fD fun z hz => by have : z = hb.size := hz; omega).older fac.size, ?_⟩, fhp.trans fD fun z hz hy => by have : z = hb.size := hy; have := fa.size; omega⟩
    · simp [imC, Im.wd, Im.hg, Im.bt, Im.pl, drA, stD_len]
    · show (stD W H w hh x y cl pl cl.length 0).length ≤ c1
      rw [stD_len]; exact lc1
theorem c_drawn {h : Hp} {cv m : Im} {oa ob : Option Addr} {c d : Nat} {x y : Int} (r : R2 h oa cv.pl) (rm : R2 h ob m.pl) (fc : Fit cv) (fm : Fit m) (hle : m.pl.length = cv.pl.length)
    (hx : -10000 ≤ x ∧ x ≤ 10000) (hy : -10000 ≤ y ∧ y ≤ 10000) :
    ACalls Tryz.prog 69 [.agg (imC cv oa c).toArray, .agg (imC m ob d).toArray, .int .i64 x, .int .i64 y] h fun v h' => OI h h' v (drI cv m x y) ∧ Fm No h h' :=
  c_drawn' r rm fc.we.1 fc.he.1 fm.we.1 fm.he.1 fc.we.2.2 fc.he.2.2 fm.we.2.2 fm.he.2.2 fm.we.2.1 fm.len fc.len hle fc.sm hx hy
end Go.Proofs.YtmkcngcnedjfkaaGreat.It
