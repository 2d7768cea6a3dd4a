/- Over, the program's and the document's. Plain theorems over the abstract machine.
   Conditions: none. -/
import Derived.Test.YtmkcngcnedjfkaaGreatBun3
import Derived.DataShut
namespace Go.Proofs.YtmkcngcnedjfkaaGreat.It
open Go Go.RowKit Go.Proofs.YtmkcngcnedjfkaaGreat.Am Go.Proofs.YtmkcngcnedjfkaaGreat.Af Go.Proofs.YtmkcngcnedjfkaaGreat.Md
set_option linter.unusedVariables false
set_option linter.unusedSimpArgs false
set_option linter.defProp false
set_option maxRecDepth 20000
set_option maxHeartbeats 2000000

/-- The error of Over. -/
def overE (cv m : Im) (x y : Int) : Int := if pchk cv = 0 then (if pchk m = 0 then (if (-64 ≤ x ∧ x ≤ 64) ∧ -64 ≤ y ∧ y ≤ 64 then (if cv.bt = m.bt ∧ cv.pl.length = m.pl.length then 0 else 151) else 1) else pchk m) else pchk cv
def overR (cv m : Im) (x y : Int) : Im := if overE cv m x y = 0 then drI cv m x y else zIm
theorem overR_ne {cv m : Im} {x y : Int} (h : overE cv m x y ≠ 0) : overR cv m x y = zIm := if_neg h
theorem overR_0 {cv m : Im} {x y : Int} (h : overE cv m x y = 0) : overR cv m x y = drI cv m x y := if_pos h
theorem overE_1 {cv m : Im} {x y : Int} (h : ¬ pchk cv = 0) : overE cv m x y = pchk cv := if_neg h
theorem overE_2 {cv m : Im} {x y : Int} (h : pchk cv = 0) (h2 : ¬ pchk m = 0) : overE cv m x y = pchk m := by unfold overE; rw [if_pos h, if_neg h2]
theorem overE_3 {cv m : Im} {x y : Int} (h : pchk cv = 0) (h2 : pchk m = 0) (h3 : ¬ ((-64 ≤ x ∧ x ≤ 64) ∧ -64 ≤ y ∧ y ≤ 64)) : overE cv m x y = 1 := by unfold overE; rw [if_pos h, if_pos h2, if_neg h3]
theorem overE_4 {cv m : Im} {x y : Int} (h : pchk cv = 0) (h2 : pchk m = 0) (h3 : (-64 ≤ x ∧ x ≤ 64) ∧ -64 ≤ y ∧ y ≤ 64) (h4 : ¬ (cv.bt = m.bt ∧ cv.pl.length = m.pl.length)) : overE cv m x y = 151 := by unfold overE; rw [if_pos h, if_pos h2, if_pos h3, if_neg h4]
theorem overE_5 {cv m : Im} {x y : Int} (h : pchk cv = 0) (h2 : pchk m = 0) (h3 : (-64 ≤ x ∧ x ≤ 64) ∧ -64 ≤ y ∧ y ≤ 64) (h4 : cv.bt = m.bt ∧ cv.pl.length = m.pl.length) : overE cv m x y = 0 := by unfold overE; rw [if_pos h, if_pos h2, if_pos h3, if_pos h4]

theorem c_Over {h : Hp} {cv m : Im} {oa ob : Option Addr} {c d : Nat} {x y : Int} (r : R2 h oa cv.pl) (rm : R2 h ob m.pl) (hc : cv.pl.length ≤ c) (hz : Sz cv.pl) (hzm : Sz m.pl) :
    ACalls Tryz.prog 25 [.agg (imC cv oa c).toArray, .agg (imC m ob d).toArray, .int .i64 x, .int .i64 y] h fun v h' => (∃ u, v = .tuple #[u, .int .i64 (overE cv m x y)] ∧ OI h h' u (overR cv m x y)) ∧ Fm No h h' := by
  refine item_Over_ok.snd Af.hm rfl fun wf => ?_
  rw [WF_eq, item_Over]
  obtain ⟨ha, ea⟩ : ∃ g, h.new ⟨[.int .i64 cv.wd, .int .i64 cv.hg, .int .i64 cv.bt, .slice oa cv.pl.length c], .own⟩ = g := ⟨_, rfl⟩
  have wa : Wf ha := ea ▸ wf.new
  have fa : Fm No h ha := ea ▸ Fm.new Fm.refl
  have ga : ha.get h.size = some ⟨[.int .i64 cv.wd, .int .i64 cv.hg, .int .i64 cv.bt, .slice oa cv.pl.length c], .own⟩ := ea ▸ gnew
  have sa : ha.size = h.size + 1 := by rw [← ea]; rfl
  obtain ⟨hb, eb⟩ : ∃ g, ha.new ⟨[.int .i64 m.wd, .int .i64 m.hg, .int .i64 m.bt, .slice ob m.pl.length d], .own⟩ = g := ⟨_, rfl⟩
  have wb : Wf hb := eb ▸ wa.new
  have fb : Fm No ha hb := eb ▸ Fm.new Fm.refl
  have gb : hb.get ha.size = some ⟨[.int .i64 m.wd, .int .i64 m.hg, .int .i64 m.bt, .slice ob m.pl.length d], .own⟩ := eb ▸ gnew
  have gab := fb.keep wa ga (fun f => f)
  have sb : hb.size = ha.size + 1 := by rw [← eb]; rfl
  obtain ⟨hc0, ec⟩ : ∃ g, hb.new ⟨[.int .i64 0, .int .i64 0, .int .i64 0, .slice none 0 0], .own⟩ = g := ⟨_, rfl⟩
  have wc : Wf hc0 := ec ▸ wb.new
  have fc : Fm No hb hc0 := ec ▸ Fm.new Fm.refl
  have gc : hc0.get hb.size = some ⟨[.int .i64 0, .int .i64 0, .int .i64 0, .slice none 0 0], .own⟩ := ec ▸ gnew
  have gac := fc.keep wb gab (fun f => f)
  have gbc := fc.keep wb gb (fun f => f)
  have sc : hc0.size = hb.size + 1 := by rw [← ec]; rfl
  have fac : Fm No h hc0 := (fa.trans fb fun _ _ x => x).trans fc fun _ _ x => x
  have n4 : ∀ g, Fm No hc0 g → g.rdN h.size 0 4 = some [.int .i64 cv.wd, .int .i64 cv.hg, .int .i64 cv.bt, .slice oa cv.pl.length c] := fun g fg => rdN_mk (fg.keep wc gac (fun f => f)) (by simp)
  have n5 : ∀ g, Fm No hc0 g → g.rdN ha.size 0 4 = some [.int .i64 m.wd, .int .i64 m.hg, .int .i64 m.bt, .slice ob m.pl.length d] := fun g fg => rdN_mk (fg.keep wc gbc (fun f => f)) (by simp)
  have put : ∀ (g : Hp) (x : List Value), Wf g → Fm No h g → g.get hb.size = some ⟨[.int .i64 0, .int .i64 0, .int .i64 0, .slice none 0 0], .own⟩ → x.length = 4 → ∃ g', g.put hb.size ⟨x, .own⟩ = g' ∧ g'.rdN hb.size 0 4 = some x ∧ Fm (fun z => z = hb.size) g g' ∧ Fm No h g' := fun g x wg fg hg hx => by
    have fp : Fm (fun z => z = hb.size) g (g.put hb.size ⟨x, .own⟩) := Fm.put Fm.refl fun _ => rfl
    refine ⟨_, rfl, ?_, fp, fg.trans fp fun z hz hy => by have : z = hb.size := hy; omega⟩
    rw [rdN_mk gput (by simp [hx])]
    simp [← hx]
  simp +contextual (disch := omega) only [↓AM, ↓AV, AP, CQ, imC, ea, eb, ec, n4 hc0 Fm.refl, n5 hc0 Fm.refl]
  refine WL.mk (fun k t h' => ∃ (i : Nat), Wf h' ∧ Fm No hc0 h' ∧ i ≤ 2 ∧ k = 2 - i ∧ (1 ≤ i → pchk cv = 0) ∧ (2 ≤ i → pchk m = 0) ∧
      t = [(2, some (.int .i64 x)), (3, some (.int .i64 y)), (4, some (.pointer (some ⟨h.size, 0, none⟩))), (5, some (.pointer (some ⟨ha.size, 0, none⟩))), (8, some (.pointer (some ⟨hb.size, 0, none⟩))),
        (16, some (.agg #[.int .i64 cv.wd, .int .i64 cv.hg, .int .i64 cv.bt, .slice oa cv.pl.length c, .int .i64 m.wd, .int .i64 m.hg, .int .i64 m.bt, .slice ob m.pl.length d])), (17, some (.int .i64 (i : Int)))])
    ⟨2, 0, wc, Fm.refl, by omega, rfl, by omega, by omega, rfl⟩ ?_
  rintro k t hA ⟨i, wA, fA, hi, rfl, p1, p2, rfl⟩
  have gA8 := fA.keep wc gc (fun f => f)
  have fhA := fac.trans fA fun _ _ x => x
  have hl8 : [Value.int .i64 cv.wd, .int .i64 cv.hg, .int .i64 cv.bt, .slice oa cv.pl.length c, .int .i64 m.wd, .int .i64 m.hg, .int .i64 m.bt, .slice ob m.pl.length d].length = 8 := rfl
  have td0 : List.take 4 (List.drop (0 * 4) [Value.int .i64 cv.wd, .int .i64 cv.hg, .int .i64 cv.bt, .slice oa cv.pl.length c, .int .i64 m.wd, .int .i64 m.hg, .int .i64 m.bt, .slice ob m.pl.length d]) = [.int .i64 cv.wd, .int .i64 cv.hg, .int .i64 cv.bt, .slice oa cv.pl.length c] := rfl
  have td1 : List.take 4 (List.drop 4 [Value.int .i64 cv.wd, .int .i64 cv.hg, .int .i64 cv.bt, .slice oa cv.pl.length c, .int .i64 m.wd, .int .i64 m.hg, .int .i64 m.bt, .slice ob m.pl.length d]) = [.int .i64 m.wd, .int .i64 m.hg, .int .i64 m.bt, .slice ob m.pl.length d] := rfl
  have k00 : ((0 : Nat) : Int) < 2 := by decide
  have k01 : ((1 : Nat) : Int) < 2 := by decide
  have k02 : ¬ ((2 : Nat) : Int) < 2 := by decide
  have k03 : 0 * 4 + 4 ≤ 8 := by decide
  have k04 : 4 + 4 ≤ 8 := by decide
  have k05 : 0 < 2 := by decide
  have k06 : 1 < 2 := by decide
  have hi3 : i = 0 ∨ i = 1 ∨ i = 2 := by omega
  rcases hi3 with rfl | rfl | rfl
  · obtain ⟨h1, e1⟩ : ∃ g, hA.new ⟨[.int .i64 cv.wd, .int .i64 cv.hg, .int .i64 cv.bt, .slice oa cv.pl.length c], .own⟩ = g := ⟨_, rfl⟩
    have w1 : Wf h1 := e1 ▸ wA.new
    have f1 : Fm No hA h1 := e1 ▸ Fm.new Fm.refl
    have g1 : h1.rdN hA.size 0 4 = some [.int .i64 cv.wd, .int .i64 cv.hg, .int .i64 cv.bt, .slice oa cv.pl.length c] := rdN_mk (e1 ▸ gnew) (by simp)
    simp +contextual (disch := omega) only [↓AM, ↓AV, AP, CQ, imC, ea, eb, ec, e1, g1, hl8, td0, td1, k00, k01, k03, k04, k05, k06]
    refine (c_pcheck ((r.keep wf fhA).keep wA f1) hz).use ?_
    rintro _ h2 w2 ⟨rfl, f2⟩
    have fA2 : Fm No hA h2 := f1.trans f2 fun _ _ x => x
    by_cases hp : pchk cv = 0
    · simp +contextual (disch := omega) only [↓AM, ↓AV, AP, CQ, EqI, hp, ea, eb, ec, e1]
      exact ⟨1, by omega, 1, w2, fA.trans fA2 fun _ _ x => x, by omega, rfl, fun _ => trivial, by omega, rfl⟩
    · obtain ⟨g', k1, k2, k3, k4⟩ := put h2 [.int .i64 0, .int .i64 0, .int .i64 0, .slice none 0 0] w2 (fhA.trans fA2 fun _ _ x => x) (fA2.keep wA gA8 (fun f => f)) rfl
      have g82 := fA2.keep wA gA8 (fun f => f)
      simp +contextual (disch := omega) only [↓AM, ↓AV, AP, CQ, EqI, hp, ea, eb, ec, e1, g82, spl_S, spl_0, spl_00, k1, k2]
      have he := overE_1 (m := m) (x := x) (y := y) hp
      exact ⟨⟨_, by rw [he], by rw [overR_ne (by rw [he]; exact hp)]; exact oi_zero⟩, k4⟩
  · obtain ⟨h1, e1⟩ : ∃ g, hA.new ⟨[.int .i64 m.wd, .int .i64 m.hg, .int .i64 m.bt, .slice ob m.pl.length d], .own⟩ = g := ⟨_, rfl⟩
    have w1 : Wf h1 := e1 ▸ wA.new
    have f1 : Fm No hA h1 := e1 ▸ Fm.new Fm.refl
    have g1 : h1.rdN hA.size 0 4 = some [.int .i64 m.wd, .int .i64 m.hg, .int .i64 m.bt, .slice ob m.pl.length d] := rdN_mk (e1 ▸ gnew) (by simp)
    simp +contextual (disch := omega) only [↓AM, ↓AV, AP, CQ, imC, ea, eb, ec, e1, g1, hl8, td0, td1, k00, k01, k03, k04, k05, k06]
    refine (c_pcheck ((rm.keep wf fhA).keep wA f1) hzm).use ?_
    rintro _ h2 w2 ⟨rfl, f2⟩
    have fA2 : Fm No hA h2 := f1.trans f2 fun _ _ x => x
    by_cases hp : pchk m = 0
    · simp +contextual (disch := omega) only [↓AM, ↓AV, AP, CQ, EqI, hp, ea, eb, ec, e1]
      exact ⟨0, by omega, 2, w2, fA.trans fA2 fun _ _ x => x, by omega, rfl, fun _ => p1 (Nat.le_refl _), fun _ => trivial, rfl⟩
    · obtain ⟨g', k1, k2, k3, k4⟩ := put h2 [.int .i64 0, .int .i64 0, .int .i64 0, .slice none 0 0] w2 (fhA.trans fA2 fun _ _ x => x) (fA2.keep wA gA8 (fun f => f)) rfl
      have g82 := fA2.keep wA gA8 (fun f => f)
      simp +contextual (disch := omega) only [↓AM, ↓AV, AP, CQ, EqI, hp, ea, eb, ec, e1, g82, spl_S, spl_0, spl_00, k1, k2]
      have he := overE_2 (x := x) (y := y) (p1 (Nat.le_refl _)) hp
      exact ⟨⟨_, by rw [he], by rw [overR_ne (by rw [he]; exact hp)]; exact oi_zero⟩, k4⟩
  · have q1 := p1 (by omega)
    have q2 := p2 (by omega)
    have zer := put hA [.int .i64 0, .int .i64 0, .int .i64 0, .slice none 0 0] wA fhA gA8 rfl
    obtain ⟨g', k1, k2, k3, k4⟩ := zer
    simp +contextual (disch := omega) only [↓AM, ↓AV, AP, CQ, ea, eb, ec, k02]
    refine c_iw.use ?_
    rintro _ h9 _ ⟨rfl, e9⟩
    subst h9
    by_cases c1 : -64 ≤ x ∧ x ≤ 64
    case neg =>
      simp +contextual (disch := omega) only [↓AM, ↓AV, AP, CQ, ea, eb, ec, c1, gA8, spl_S, spl_0, spl_00, k1, k2]
      have he := overE_3 q1 q2 (x := x) (y := y) (fun z => c1 z.1)
      exact ⟨⟨_, by rw [he], by rw [overR_ne (by rw [he]; decide)]; exact oi_zero⟩, k4⟩
    simp +contextual (disch := omega) only [↓AM, ↓AV, AP, CQ, ea, eb, ec, c1]
    refine c_iw.use ?_
    rintro _ h9 _ ⟨rfl, e9⟩
    subst h9
    by_cases c2 : -64 ≤ y ∧ y ≤ 64
    case neg =>
      simp +contextual (disch := omega) only [↓AM, ↓AV, AP, CQ, ea, eb, ec, c1, c2, gA8, spl_S, spl_0, spl_00, k1, k2]
      have he := overE_3 q1 q2 (x := x) (y := y) (fun z => c2 z.2)
      exact ⟨⟨_, by rw [he], by rw [overR_ne (by rw [he]; decide)]; exact oi_zero⟩, k4⟩
    have gA4 := fA.keep wc gac (fun f => f)
    have gA5 := fA.keep wc gbc (fun f => f)
    by_cases c3 : cv.bt = m.bt
    case neg =>
      simp +contextual (disch := omega) only [↓AM, ↓AV, AP, CQ, EqI, ea, eb, ec, c1, c2, c3, rd_mk gA4, rd_mk gA5, gA8, spl_S, spl_0, spl_00, k1, k2]
      have he := overE_4 q1 q2 ⟨c1, c2⟩ (fun z => c3 z.1)
      exact ⟨⟨_, by rw [he], by rw [overR_ne (by rw [he]; decide)]; exact oi_zero⟩, k4⟩
    by_cases c4 : cv.pl.length = m.pl.length
    case neg =>
      have c4' : ¬ ((cv.pl.length : Int) = (m.pl.length : Int)) := by omega
      simp +contextual (disch := omega) only [↓AM, ↓AV, AP, CQ, EqI, ea, eb, ec, c1, c2, c3, c4, c4', rd_mk gA4, rd_mk gA5, gA8, spl_S, spl_0, spl_00, k1, k2]
      have he := overE_4 q1 q2 ⟨c1, c2⟩ (fun z => c4 z.2)
      exact ⟨⟨_, by rw [he], by rw [overR_ne (by rw [he]; decide)]; exact oi_zero⟩, k4⟩
    have he := overE_5 q1 q2 ⟨c1, c2⟩ ⟨c3, c4⟩
    have gcv := (pchk_good.1 q1)
    have gm := (pchk_good.1 q2)
    have c4' : ((cv.pl.length : Int) = (m.pl.length : Int)) = True := eq_true (by omega)
    have c3' : (cv.bt = m.bt) = True := eq_true c3
    simp +contextual (disch := omega) only [↓AM, ↓AV, AP, CQ, EqI, ea, eb, ec, c1, c2, c3', c4', n4 hA fA, rd_mk gA4, rd_mk gA5]
    -- the clone
    refine (c_clone (r.keep wf fhA) hc gcv.sm).use ?_
    rintro _ h1 w1 ⟨⟨oa1, c1', bs, rfl, o1, lc1⟩, f1⟩
    have fA1 := fA.trans f1 fun _ _ x => x
    have fh1 := fhA.trans f1 fun _ _ x => x
    obtain ⟨h2, e2⟩ : ∃ g, h1.new ⟨imC cv oa1 c1', .own⟩ = g := ⟨_, rfl⟩
    have w2 : Wf h2 := e2 ▸ w1.new
    have f2 : Fm No h1 h2 := e2 ▸ Fm.new Fm.refl
    have g2 : h2.get h1.size = some ⟨imC cv oa1 c1', .own⟩ := e2 ▸ gnew
    have s2 : h2.size = h1.size + 1 := by rw [← e2]; rfl
    have fA2 := fA1.trans f2 fun _ _ x => x
    have fh2 := fh1.trans f2 fun _ _ x => x
    have inlt := o1.inlt w1
    have n2 : h2.rdN h1.size 0 4 = some (imC cv oa1 c1') := rdN_mk g2 (by simp [imC])
    have e2' := e2
    simp only [imC] at e2' n2
    have sA := fA.size
    have s1 := f1.size
    have keepB : ∀ g, Fm (InB bs) h2 g → R2 g ob m.pl ∧ g.get h1.size = some ⟨imC cv oa1 c1', .own⟩ ∧ g.get hb.size = some ⟨[.int .i64 0, .int .i64 0, .int .i64 0, .slice none 0 0], .own⟩ ∧ Fm No h g := fun g fg => by
      have f' : Fm (InB bs) h g := (fh2.mono fun _ _ f => f.elim).trans fg fun _ _ x => x
      have sh : h.size ≤ hc0.size := fac.size
      have hno : ∀ z, z < hA.size → ¬ InB bs z := fun z hz f => by have := (inlt _ f).1; omega
      refine ⟨rm.keepW wf f' fun z hz => hno z (by omega), fg.keep w2 g2 fun f => ?_, fg.keep w2 (fA2.keep wc gc (fun f => f)) (hno _ (by omega)), fh2.trans fg fun z hz f => (hno z (by omega) f).elim⟩
      have := (inlt _ f).2
      omega
    simp +contextual (disch := omega) only [↓AM, ↓AV, AP, CQ, imC, ea, eb, ec, e2', n2, n5 h2 fA2]
    refine (c_put (o1.keepN w1 f2) gcv.fit gm.fit c4.symm (by omega) (by omega) fun g fg => (keepB g fg).1).use ?_
    rintro _ h3 w3 ⟨o3, f3⟩
    obtain ⟨_, g3, g38, f03⟩ := keepB h3 f3
    have n3 : h3.rdN h1.size 0 4 = some (imC cv oa1 c1') := rdN_mk g3 (by simp [imC])
    simp only [imC] at n3
    obtain ⟨g', k1, k2, k3, k4⟩ := put h3 [.int .i64 cv.wd, .int .i64 cv.hg, .int .i64 cv.bt, .slice oa1 cv.pl.length c1'] w3 f03 g38 rfl
    simp +contextual (disch := omega) only [↓AM, ↓AV, AP, CQ, imC, ea, eb, ec, e2', n3, g38, spl_S, spl_0, spl_00, k1, k2]
    refine ⟨⟨_, by rw [he], ?_⟩, k4⟩
    rw [overR_0 he]
    refine ⟨oa1, c1', bs, ?_, (o3.keepB w3 k3 fun z hz => by have : z = hb.size := hz; omega).older (by have := fhA.size; omega), by rw [drI_len]; exact lc1⟩
    simp [imC, Im.wd, Im.hg, Im.bt, Im.pl, drI, drA, stD_len]
theorem c_rOver {h : Hp} {cv m : Im} {oa ob : Option Addr} {c d : Nat} {x y : Int} (r : R2 h oa cv.pl) (rm : R2 h ob m.pl) (hz : Sz cv.pl) (hzm : Sz m.pl) :
    ACalls Tryz.prog 26 [.agg (imC cv oa c).toArray, .agg (imC m ob d).toArray, .int .i64 x, .int .i64 y] h fun v h' => (∃ u, v = .tuple #[u, .int .i64 (overE cv m x y)] ∧ OI h h' u (overR cv m x y)) ∧ Fm No h h' := by
  refine dioramaref15_Over_ok.snd Af.hm rfl fun wf => ?_
  rw [WF_eq, dioramaref15_Over]
  obtain ⟨ha, ea⟩ : ∃ g, h.new ⟨[.int .i64 cv.wd, .int .i64 cv.hg, .int .i64 cv.bt, .slice oa cv.pl.length c], .own⟩ = g := ⟨_, rfl⟩
  have wa : Wf ha := ea ▸ wf.new
  have fa : Fm No h ha := ea ▸ Fm.new Fm.refl
  have ga : ha.get h.size = some ⟨[.int .i64 cv.wd, .int .i64 cv.hg, .int .i64 cv.bt, .slice oa cv.pl.length c], .own⟩ := ea ▸ gnew
  have sa : ha.size = h.size + 1 := by rw [← ea]; rfl
  obtain ⟨hb, eb⟩ : ∃ g, ha.new ⟨[.int .i64 m.wd, .int .i64 m.hg, .int .i64 m.bt, .slice ob m.pl.length d], .own⟩ = g := ⟨_, rfl⟩
  have wb : Wf hb := eb ▸ wa.new
  have fb : Fm No ha hb := eb ▸ Fm.new Fm.refl
  have gb : hb.get ha.size = some ⟨[.int .i64 m.wd, .int .i64 m.hg, .int .i64 m.bt, .slice ob m.pl.length d], .own⟩ := eb ▸ gnew
  have gab := fb.keep wa ga (fun f => f)
  have sb : hb.size = ha.size + 1 := by rw [← eb]; rfl
  obtain ⟨hc0, ec⟩ : ∃ g, hb.new ⟨[.int .i64 0, .int .i64 0, .int .i64 0, .slice none 0 0], .own⟩ = g := ⟨_, rfl⟩
  have wc : Wf hc0 := ec ▸ wb.new
  have fc : Fm No hb hc0 := ec ▸ Fm.new Fm.refl
  have gc : hc0.get hb.size = some ⟨[.int .i64 0, .int .i64 0, .int .i64 0, .slice none 0 0], .own⟩ := ec ▸ gnew
  have gac := fc.keep wb gab (fun f => f)
  have gbc := fc.keep wb gb (fun f => f)
  have sc : hc0.size = hb.size + 1 := by rw [← ec]; rfl
  have fac : Fm No h hc0 := (fa.trans fb fun _ _ x => x).trans fc fun _ _ x => x
  have n4 : ∀ g, Fm No hc0 g → g.rdN h.size 0 4 = some [.int .i64 cv.wd, .int .i64 cv.hg, .int .i64 cv.bt, .slice oa cv.pl.length c] := fun g fg => rdN_mk (fg.keep wc gac (fun f => f)) (by simp)
  have n5 : ∀ g, Fm No hc0 g → g.rdN ha.size 0 4 = some [.int .i64 m.wd, .int .i64 m.hg, .int .i64 m.bt, .slice ob m.pl.length d] := fun g fg => rdN_mk (fg.keep wc gbc (fun f => f)) (by simp)
  have put : ∀ (g : Hp) (x : List Value), Wf g → Fm No hc0 g → x.length = 4 → ∃ g', g.put hb.size ⟨x, .own⟩ = g' ∧ g.get hb.size = some ⟨[.int .i64 0, .int .i64 0, .int .i64 0, .slice none 0 0], .own⟩ ∧ g'.rdN hb.size 0 4 = some x ∧ Fm (fun z => z = hb.size) g g' ∧ Fm No h g' := fun g x wg fg hx => by
    have fp : Fm (fun z => z = hb.size) g (g.put hb.size ⟨x, .own⟩) := Fm.put Fm.refl fun _ => rfl
    refine ⟨_, rfl, fg.keep wc gc (fun f => f), ?_, fp, (fac.trans fg fun _ _ x => x).trans fp fun z hz hy => by have : z = hb.size := hy; omega⟩
    rw [rdN_mk gput (by simp [hx])]
    simp [← hx]
  simp +contextual (disch := omega) only [↓AM, ↓AV, AP, CQ, imC, ea, eb, ec, n4 hc0 Fm.refl]
  refine (c_rcheck (r.keep wf fac) hz).use ?_
  rintro _ h1 w1 ⟨rfl, f1⟩
  by_cases hp : pchk cv = 0
  case neg =>
    obtain ⟨g', k1, k0, k2, k3, k4⟩ := put h1 [.int .i64 0, .int .i64 0, .int .i64 0, .slice none 0 0] w1 f1 rfl
    simp +contextual (disch := omega) only [↓AM, ↓AV, AP, CQ, EqI, hp, ea, eb, ec, k0, spl_S, spl_0, spl_00, k1, k2]
    have he := overE_1 (m := m) (x := x) (y := y) hp
    exact ⟨⟨_, by rw [he], by rw [overR_ne (by rw [he]; exact hp)]; exact oi_zero⟩, k4⟩
  simp +contextual (disch := omega) only [↓AM, ↓AV, AP, CQ, EqI, hp, ea, eb, ec, n5 h1 f1]
  refine (c_rcheck ((rm.keep wf fac).keep wc f1) hzm).use ?_
  rintro _ h2 w2 ⟨rfl, f2⟩
  have f12 := f1.trans f2 fun _ _ x => x
  obtain ⟨g', k1, k0, k2, k3, k4⟩ := put h2 [.int .i64 0, .int .i64 0, .int .i64 0, .slice none 0 0] w2 f12 rfl
  by_cases hq : pchk m = 0
  case neg =>
    simp +contextual (disch := omega) only [↓AM, ↓AV, AP, CQ, EqI, hq, ea, eb, ec, k0, spl_S, spl_0, spl_00, k1, k2]
    have he := overE_2 (x := x) (y := y) hp hq
    exact ⟨⟨_, by rw [he], by rw [overR_ne (by rw [he]; exact hq)]; exact oi_zero⟩, k4⟩
  simp +contextual (disch := omega) only [↓AM, ↓AV, AP, CQ, EqI, hq, ea, eb, ec]
  refine c_in15.use ?_
  rintro _ h9 _ ⟨rfl, e9⟩
  subst h9
  by_cases c1 : -64 ≤ x ∧ x ≤ 64
  case neg =>
    simp +contextual (disch := omega) only [↓AM, ↓AV, AP, CQ, ea, eb, ec, c1, k0, spl_S, spl_0, spl_00, k1, k2]
    have he := overE_3 hp hq (x := x) (y := y) (fun z => c1 z.1)
    exact ⟨⟨_, by rw [he], by rw [overR_ne (by rw [he]; decide)]; exact oi_zero⟩, k4⟩
  simp +contextual (disch := omega) only [↓AM, ↓AV, AP, CQ, ea, eb, ec, c1]
  refine c_in15.use ?_
  rintro _ h9 _ ⟨rfl, e9⟩
  subst h9
  by_cases c2 : -64 ≤ y ∧ y ≤ 64
  case neg =>
    simp +contextual (disch := omega) only [↓AM, ↓AV, AP, CQ, ea, eb, ec, c1, c2, k0, spl_S, spl_0, spl_00, k1, k2]
    have he := overE_3 hp hq (x := x) (y := y) (fun z => c2 z.2)
    exact ⟨⟨_, by rw [he], by rw [overR_ne (by rw [he]; decide)]; exact oi_zero⟩, k4⟩
  have gA4 := f12.keep wc gac (fun f => f)
  have gA5 := f12.keep wc gbc (fun f => f)
  by_cases c3 : cv.bt = m.bt
  case neg =>
    simp +contextual (disch := omega) only [↓AM, ↓AV, AP, CQ, EqI, ea, eb, ec, c1, c2, c3, rd_mk gA4, rd_mk gA5, k0, spl_S, spl_0, spl_00, k1, k2]
    have he := overE_4 hp hq ⟨c1, c2⟩ (fun z => c3 z.1)
    exact ⟨⟨_, by rw [he], by rw [overR_ne (by rw [he]; decide)]; exact oi_zero⟩, k4⟩
  by_cases c4 : cv.pl.length = m.pl.length
  case neg =>
    have c4' : ¬ ((cv.pl.length : Int) = (m.pl.length : Int)) := by omega
    simp +contextual (disch := omega) only [↓AM, ↓AV, AP, CQ, EqI, ea, eb, ec, c1, c2, c3, c4, c4', rd_mk gA4, rd_mk gA5, k0, spl_S, spl_0, spl_00, k1, k2]
    have he := overE_4 hp hq ⟨c1, c2⟩ (fun z => c4 z.2)
    exact ⟨⟨_, by rw [he], by rw [overR_ne (by rw [he]; decide)]; exact oi_zero⟩, k4⟩
  have he := overE_5 hp hq ⟨c1, c2⟩ ⟨c3, c4⟩
  have gcv := (pchk_good.1 hp)
  have gm := (pchk_good.1 hq)
  have c4' : ((cv.pl.length : Int) = (m.pl.length : Int)) = True := eq_true (by omega)
  have c3' : (cv.bt = m.bt) = True := eq_true c3
  simp +contextual (disch := omega) only [↓AM, ↓AV, AP, CQ, EqI, ea, eb, ec, c1, c2, c3', c4', n4 h2 f12, n5 h2 f12, rd_mk gA4, rd_mk gA5]
  have fh2 := fac.trans f12 fun _ _ x => x
  refine (c_drawn (x := x) (y := y) (r.keep wf fh2) (rm.keep wf fh2) gcv.fit gm.fit c4.symm (by omega) (by omega)).use ?_
  rintro _ h3 w3 ⟨oi, f3⟩
  obtain ⟨oc, cc, bsc, rfl, o3, l3⟩ := oi
  obtain ⟨g'', j1, j0, j2, j3, j4⟩ := put h3 (imC (drI cv m x y) oc cc) w3 (f12.trans f3 fun _ _ x => x) rfl
  simp only [imC] at j1 j2
  simp +contextual (disch := omega) only [↓AM, ↓AV, AP, CQ, imC, ea, eb, ec, j0, spl_S, spl_0, spl_00, j1, j2]
  refine ⟨⟨_, by rw [he], ?_⟩, j4⟩
  rw [overR_0 he]
  exact ⟨oc, cc, bsc, rfl, (o3.keepB w3 j3 fun z hz => by have : z = hb.size := hz; have := f12.size; omega).older fh2.size, l3⟩
end Go.Proofs.YtmkcngcnedjfkaaGreat.It

/- The law ItemTurns: a picture turned and flipped. The walk over the abstract machine.
   Conditions: none. -/
namespace Go.Proofs.YtmkcngcnedjfkaaGreat.LItemTurns
open Go Go.RowKit Go.Proofs.YtmkcngcnedjfkaaGreat.Am Go.Proofs.YtmkcngcnedjfkaaGreat.Af Go.Proofs.YtmkcngcnedjfkaaGreat.Md Go.Proofs.YtmkcngcnedjfkaaGreat.It
set_option linter.unusedVariables false
set_option linter.unusedSimpArgs false
set_option linter.defProp false
set_option maxRecDepth 20000
set_option maxHeartbeats 2000000

abbrev imK : AKd Im := AKd.pair (AKd.int .i64) (AKd.pair (AKd.int .i64) (AKd.pair (AKd.int .i64) (AKd.slice (AKd.slice (AKd.int .i64)))))
theorem im_open {h : Hp} {x : Im} {cs : List Value} (a : imK.A h x cs) : ∃ oa c, cs = imC x oa c ∧ R2 h oa x.pl ∧ x.pl.length ≤ c := by
  obtain ⟨c1, c2, rfl, h1, c3, c4, rfl, h2, c5, c6, rfl, h3, h4⟩ := a
  have h1 : c1 = [.int .i64 x.1] := h1
  have h2 : c3 = [.int .i64 x.2.1] := h2
  have h3 : c5 = [.int .i64 x.2.2.1] := h3
  obtain ⟨oa, c, rfl, r, l⟩ := R2.of h4
  exact ⟨oa, c, by rw [h1, h2, h3]; rfl, r, l⟩
theorem bytes1 : 1 ≤ Tryz.prog.bytesOf 3 := by decide +kernel
theorem bytes2 : 1 ≤ Tryz.prog.bytesOf 39 := by decide +kernel
theorem sz_of {ls : List (List Int)} {a b : Nat} (ha : 1 ≤ a) (hb : 1 ≤ b) (h1 : ls.length * a ≤ 140737488351232) (h2 : ∀ x ∈ ls, x.length * b ≤ 140737488351232) : Sz ls :=
  ⟨Nat.le_trans (Nat.le_mul_of_pos_right _ ha) h1, fun l hl => Nat.le_trans (Nat.le_mul_of_pos_right _ hb) (h2 l hl)⟩
/-- Rows that are there whatever the boxes s and t get. -/
def K2 (h : Hp) (s t : Nat) (oa : Option Addr) (ls : List (List Int)) : Prop := ∀ g, Fm (fun x => x = s ∨ x = t) h g → R2 g oa ls
theorem K2.of {h : Hp} {s t : Nat} {oa : Option Addr} {ls : List (List Int)} (r : R2 h oa ls) (w : Wf h) (hs : h.size ≤ s) (ht : h.size ≤ t) : K2 h s t oa ls := fun g f => r.keepW w f fun x hx e => by rcases e with e | e <;> omega
theorem K2.keep {h h' : Hp} {s t : Nat} {oa : Option Addr} {ls : List (List Int)} (k : K2 h s t oa ls) (f : Fm (fun x => x = s ∨ x = t) h h') : K2 h' s t oa ls := fun g fg => k g (f.trans fg fun _ _ x => x)
theorem K2.keepN {h h' : Hp} {s t : Nat} {oa : Option Addr} {ls : List (List Int)} (k : K2 h s t oa ls) (f : Fm No h h') : K2 h' s t oa ls := k.keep (f.mono fun _ _ f => f.elim)
theorem K2.r2 {h : Hp} {s t : Nat} {oa : Option Addr} {ls : List (List Int)} (k : K2 h s t oa ls) : R2 h oa ls := k h Fm.refl
theorem k2_o2 {h0 h : Hp} {s t : Nat} {oa : Option Addr} {c : Nat} {ls : List (List Int)} {bs : Bl} (o : O2 h0 h oa c ls bs []) (w : Wf h) (hs : s < h0.size) (ht : t < h0.size) : K2 h s t oa ls := fun g f => (o.keepB w f fun x hx => by rcases hx with e | e <;> omega).r2

theorem core {h : Hp} (m : Im) (a b : Int) (f : Bool) {oa : Option Addr} {c : Nat} (r : R2 h oa m.pl) (hc : m.pl.length ≤ c) (hz : Sz m.pl) :
    ACalls Tryz.prog 3 [.agg #[.int .i64 m.wd, .int .i64 m.hg, .int .i64 m.bt, .slice oa m.pl.length c, .int .i64 a, .int .i64 b, .bool f]] h fun v h' => v = .bool true := by
  refine dioramalaw15_ItemTurns_ok.snd Af.hm rfl fun w => ?_
  rw [WF_eq, dioramalaw15_ItemTurns]
  obtain ⟨ha, ea⟩ : ∃ g, h.new ⟨[.int .i64 m.wd, .int .i64 m.hg, .int .i64 m.bt, .slice oa m.pl.length c, .int .i64 a, .int .i64 b, .bool f], .own⟩ = g := ⟨_, rfl⟩
  have wa : Wf ha := ea ▸ w.new
  have fa : Fm No h ha := ea ▸ Fm.new Fm.refl
  have ga : ha.get h.size = some ⟨[.int .i64 m.wd, .int .i64 m.hg, .int .i64 m.bt, .slice oa m.pl.length c, .int .i64 a, .int .i64 b, .bool f], .own⟩ := ea ▸ gnew
  have sa : ha.size = h.size + 1 := by rw [← ea]; rfl
  have na : ha.rdN h.size 0 4 = some [.int .i64 m.wd, .int .i64 m.hg, .int .i64 m.bt, .slice oa m.pl.length c] := rdN_mk ga (by simp)
  obtain ⟨hb, eb⟩ : ∃ g, ha.new ⟨[.int .i64 m.wd, .int .i64 m.hg, .int .i64 m.bt, .slice oa m.pl.length c], .own⟩ = g := ⟨_, rfl⟩
  have wb : Wf hb := eb ▸ wa.new
  have fb : Fm No ha hb := eb ▸ Fm.new Fm.refl
  have gb : hb.get ha.size = some ⟨[.int .i64 m.wd, .int .i64 m.hg, .int .i64 m.bt, .slice oa m.pl.length c], .own⟩ := eb ▸ gnew
  have sb : hb.size = ha.size + 1 := by rw [← eb]; rfl
  have fab : Fm No h hb := fa.trans fb fun _ _ x => x
  have nb : ∀ g, Fm No hb g → g.rdN ha.size 0 4 = some [.int .i64 m.wd, .int .i64 m.hg, .int .i64 m.bt, .slice oa m.pl.length c] := fun g fg => rdN_mk (fg.keep wb gb (fun f => f)) (by simp)
  have rb := r.keep w fab
  have gab := fb.keep wa ga (fun f => f)
  simp +contextual (disch := omega) only [↓AM, ↓AV, AP, CQ, ea, na, rd_mk ga, rd_mk gab, eb, nb hb Fm.refl]
  refine (c_plain rb hz).use ?_
  rintro _ h1 w1 ⟨rfl, f1⟩
  by_cases hpl : plainB m = true
  case neg => simp +contextual (disch := omega) only [↓AM, ↓AV, AP, CQ, hpl]
  simp +contextual (disch := omega) only [↓AM, ↓AV, AP, CQ, hpl, ea, eb, nb h1 f1]
  -- the first turn, the program's
  refine (c_Turn (f := f) (rb.keep wb f1) hc hz).use ?_
  rintro _ h2 w2 ⟨⟨u, rfl, ou⟩, f2⟩
  have f12 : Fm No hb h2 := f1.trans f2 fun _ _ x => x
  obtain ⟨ox, cx, bx, rfl, o2x, lx⟩ := ou
  obtain ⟨x, hx⟩ : ∃ x, turnR m a f = x := ⟨_, rfl⟩
  rw [hx] at o2x lx
  obtain ⟨h3, e3⟩ : ∃ g, h2.new ⟨imC x ox cx, .own⟩ = g := ⟨_, rfl⟩
  have w3 : Wf h3 := e3 ▸ w2.new
  have f3 : Fm No h2 h3 := e3 ▸ Fm.new Fm.refl
  have g3 : h3.get h2.size = some ⟨imC x ox cx, .own⟩ := e3 ▸ gnew
  have s3 : h3.size = h2.size + 1 := by rw [← e3]; rfl
  have f13 : Fm No hb h3 := f12.trans f3 fun _ _ x => x
  have e3' := e3
  simp only [imC] at e3'
  simp +contextual (disch := omega) only [↓AM, ↓AV, AP, CQ, imC, hx, ea, eb, e3', nb h3 f13]
  -- the document's
  refine (c_rTurn (f := f) (rb.keep wb f13) hz).use ?_
  rintro _ h4 w4 ⟨⟨u, rfl, ou⟩, f4⟩
  have f14 : Fm No hb h4 := f13.trans f4 fun _ _ x => x
  obtain ⟨oy, cy, by_, rfl, o2y, ly⟩ := ou
  rw [hx] at o2y ly
  obtain ⟨h5, e5⟩ : ∃ g, h4.new ⟨imC x oy cy, .own⟩ = g := ⟨_, rfl⟩
  have w5 : Wf h5 := e5 ▸ w4.new
  have f5 : Fm No h4 h5 := e5 ▸ Fm.new Fm.refl
  have g5 : h5.get h4.size = some ⟨imC x oy cy, .own⟩ := e5 ▸ gnew
  have s5 : h5.size = h4.size + 1 := by rw [← e5]; rfl
  have f15 : Fm No hb h5 := f14.trans f5 fun _ _ x => x
  have f35 : Fm No h3 h5 := f4.trans f5 fun _ _ x => x
  have g35 := f35.keep w3 g3 (fun f => f)
  have n3 : h5.rdN h2.size 0 4 = some (imC x ox cx) := rdN_mk g35 (by simp [imC])
  have n5 : h5.rdN h4.size 0 4 = some (imC x oy cy) := rdN_mk g5 (by simp [imC])
  have e5' := e5
  simp only [imC] at e5' n3 n5
  have szx : Sz x.pl := by
    rw [← hx]
    unfold turnR
    split
    · rename_i h0
      have gg := (turnE_0.1 h0).1
      unfold turnS
      split
      · exact ((gg.rotN _).flp.sm).sz
      · exact ((gg.rotN _).sm).sz
    · exact ⟨Nat.zero_le _, fun l hl => by cases hl⟩
  simp +contextual (disch := omega) only [↓AM, ↓AV, AP, CQ, imC, hx, ea, eb, e3', e5', n3, n5, It.eqI_self]
  have rx5 := (o2x.r2.keep w2 f3).keep w3 f35
  have ry5 := o2y.r2.keep w4 f5
  refine (c_EqImage rx5 ry5 szx).use ?_
  rintro _ h6 w6 ⟨rfl, f6⟩
  by_cases he : turnE m a = 0
  case neg =>
    simp +contextual (disch := omega) only [↓AM, ↓AV, AP, CQ, EqI, he]
    refine (c_awake h6).use ?_
    rintro _ h7 w7 ⟨rfl, rfl⟩
    simp +contextual (disch := omega) only [↓AM, ↓AV, AP, CQ]
  obtain ⟨g, ha0, ha3⟩ := turnE_0.1 he
  obtain ⟨an, rfl⟩ : ∃ an : Nat, a = an := ⟨a.toNat, by omega⟩
  have han : an ≤ 3 := by omega
  have f16 : Fm No hb h6 := f15.trans f6 fun _ _ x => x
  simp +contextual (disch := omega) only [↓AM, ↓AV, AP, CQ, EqI, he]
  refine c_Within4.use ?_
  rintro _ h6 _ ⟨⟨k, rfl, hk⟩, rfl⟩
  have g36 := f6.keep w5 g35 (fun f => f)
  have g56 := f6.keep w5 g5 (fun f => f)
  -- the boxes of x and y from here on
  have hs2 := f3.size
  have hs35 := f35.size
  have hs6 := f6.size
  have hsb2 := f12.size
  have hs34 := f4.size
  have hne : h2.size < h4.size := by omega
  have put : ∀ (g0 : Hp) (t t' : Nat) (o o' : Ob) (z : List Value), Wf g0 → g0.get t = some o → g0.get t' = some o' → ((t = h2.size ∧ t' = h4.size) ∨ (t = h4.size ∧ t' = h2.size)) → ∃ g', g0.put t ⟨z, .own⟩ = g' ∧ Wf g' ∧ g'.get t = some ⟨z, .own⟩ ∧ g'.get t' = some o' ∧ Fm (fun y => y = h2.size ∨ y = h4.size) g0 g' := fun g0 t t' o o' z wg hg hg' ht => by
    have fp : Fm (fun y => y = t) g0 (g0.put t ⟨z, .own⟩) := Fm.put Fm.refl fun _ => rfl
    refine ⟨_, rfl, wg.put (wg.lt hg), gput, fp.keep wg hg' (fun e => by have : t' = t := e; omega), fp.mono fun y _ e => ?_⟩
    have : y = t := e
    omega
  have box : ∀ g0 g', Fm (fun y => y = h2.size ∨ y = h4.size) g0 g' → Fm No hb g0 → Fm No hb g' := fun g0 g' fg f0 => f0.trans fg fun y hy e => by rcases e with e | e <;> omega
  have big : ∀ g0, Fm No h5 g0 → h4.size < g0.size := fun g0 fg => by have := fg.size; omega
  simp +contextual (disch := omega) only [↓AM, ↓AV, AP, CQ, nb h6 f16]
  -- turned by a
  have ta := turnR_ok (f := false) g han
  refine (c_Turn (f := false) (rb.keep wb f16) hc hz).use ?_
  rintro _ h7 w7 ⟨⟨u, rfl, ou⟩, f7⟩
  rw [ta.2, show turnS m an false = rotN an m from rfl] at ou
  obtain ⟨o7, c7, b7, rfl, o27, l7⟩ := ou
  have g37 := f7.keep w6 g36 (fun f => f)
  have g57 := f7.keep w6 g56 (fun f => f)
  obtain ⟨h8, e8, w8, g8, g58, f8⟩ := put h7 h2.size h4.size _ _ (imC (rotN an m) o7 c7) w7 g37 g57 (.inl ⟨rfl, rfl⟩)
  have e8' := e8
  simp only [imC] at e8'
  have kx8 : K2 h8 h2.size h4.size o7 (rotN an m).pl := (k2_o2 o27 w7 (by omega) (by omega)).keep f8
  have f18 : Fm No hb h8 := box _ _ f8 (f16.trans f7 fun _ _ x => x)
  have n8 : h8.rdN h2.size 0 4 = some (imC (rotN an m) o7 c7) := rdN_mk g8 (by simp [imC])
  simp only [imC] at n8
  have s8 := f8.size
  have s7 := f7.size
  have gak := g.rotN an
  simp +contextual (disch := omega) only [↓AM, ↓AV, AP, CQ, imC, ta.1, g37, spl_S, spl_0, spl_00, e8', EqI, n8]
  -- turned by k then
  have tk := turnR_ok (f := false) gak hk
  refine (c_Turn (f := false) kx8.r2 l7 gak.sm.sz).use ?_
  rintro _ h9 w9 ⟨⟨u, rfl, ou⟩, f9⟩
  rw [tk.2, show turnS (rotN an m) k false = rotN k (rotN an m) from rfl, rotN_add] at ou
  obtain ⟨o9, c9, b9, rfl, o29, l9⟩ := ou
  have s9 := f9.size
  have g39 := f9.keep w8 g8 (fun f => f)
  have g59 := f9.keep w8 g58 (fun f => f)
  obtain ⟨h10, e10, w10, g10, g510, f10⟩ := put h9 h2.size h4.size _ _ (imC (rotN (an + k) m) o9 c9) w9 g39 g59 (.inl ⟨rfl, rfl⟩)
  have e10' := e10
  simp only [imC] at e10' g39
  have kx10 : K2 h10 h2.size h4.size o9 (rotN (an + k) m).pl := (k2_o2 o29 w9 (by omega) (by omega)).keep f10
  have f110 : Fm No hb h10 := box _ _ f10 (f18.trans f9 fun _ _ x => x)
  have hmod : IntKind.i64.wrap ((an : Int) + (k : Int)) = ((an + k : Nat) : Int) := by rw [i64 (by omega)]; rfl
  have hmod2 : IntKind.i64.wrap ((an + k : Nat) : Int) = ((an + k : Nat) : Int) := i64 (by omega)
  have htm : ((an + k : Nat) : Int).tmod 4 = (((an + k) % 4 : Nat) : Int) := by rw [Int.tmod_eq_emod_of_nonneg (by omega)]; omega
  have h40 : (4 : Int) ≠ 0 := by decide
  have hq4 : (an + k) % 4 ≤ 3 := by omega
  simp +contextual (disch := omega) only [↓AM, ↓AV, AP, CQ, imC, tk.1, g39, spl_S, spl_0, spl_00, e10', EqI, nb h10 f110, hmod, hmod2, htm, h40]
  -- at once
  have tq := turnR_ok (f := false) g hq4
  refine (c_Turn (f := false) (rb.keep wb f110) hc hz).use ?_
  rintro _ h11 w11 ⟨⟨u, rfl, ou⟩, f11⟩
  rw [tq.2, show turnS m ((an + k) % 4) false = rotN ((an + k) % 4) m from rfl, ← rotN_mod g] at ou
  obtain ⟨o11, c11, b11, rfl, o211, l11⟩ := ou
  have s11 := f11.size
  have s10 := f10.size
  have g311 := f11.keep w10 g10 (fun f => f)
  have g511 := f11.keep w10 g510 (fun f => f)
  obtain ⟨h12, e12, w12, g12, g312, f12'⟩ := put h11 h4.size h2.size _ _ (imC (rotN (an + k) m) o11 c11) w11 g511 g311 (.inr ⟨rfl, rfl⟩)
  have e12' := e12
  simp only [imC] at e12' g511 g312
  have kx12 : K2 h12 h2.size h4.size o9 (rotN (an + k) m).pl := (kx10.keepN f11).keep f12'
  have ky12 : K2 h12 h2.size h4.size o11 (rotN (an + k) m).pl := (k2_o2 o211 w11 (by omega) (by omega)).keep f12'
  have f112 : Fm No hb h12 := box _ _ f12' (f110.trans f11 fun _ _ x => x)
  have n12 : h12.rdN h2.size 0 4 = some (imC (rotN (an + k) m) o9 c9) := rdN_mk g312 (by simp [imC])
  have m12 : h12.rdN h4.size 0 4 = some (imC (rotN (an + k) m) o11 c11) := rdN_mk g12 (by simp [imC])
  simp only [imC] at n12 m12
  have gak2 := g.rotN (an + k)
  simp +contextual (disch := omega) only [↓AM, ↓AV, AP, CQ, imC, tq.1, g511, spl_S, spl_0, spl_00, e12', EqI, n12, m12]
  refine (c_EqImage kx12.r2 ky12.r2 gak2.sm.sz).use ?_
  rintro _ h13 w13 ⟨rfl, f13'⟩
  have f113 : Fm No hb h13 := f112.trans f13' fun _ _ x => x
  have s12 := f12'.size
  have s13 := f13'.size
  have g313 := f13'.keep w12 g312 (fun f => f)
  have g513 := f13'.keep w12 g12 (fun f => f)
  simp +contextual (disch := omega) only [↓AM, ↓AV, AP, CQ, imC, EqI, It.eqI_self, nb h13 f113]
  -- the mirror
  have t0 := turnR_ok (f := true) g (show 0 ≤ 3 by omega)
  refine (c_Turn (q := 0) (f := true) (rb.keep wb f113) hc hz).use ?_
  rintro _ h14 w14 ⟨⟨u, rfl, ou⟩, f14'⟩
  rw [show (0 : Int) = ((0 : Nat) : Int) from rfl, t0.2, show turnS m 0 true = flpI m from rfl] at ou
  obtain ⟨o14, c14, b14, rfl, o214, l14⟩ := ou
  have s14 := f14'.size
  have g314 := f14'.keep w13 g313 (fun f => f)
  have g514 := f14'.keep w13 g513 (fun f => f)
  obtain ⟨h15, e15, w15, g15, g515, f15'⟩ := put h14 h2.size h4.size _ _ (imC (flpI m) o14 c14) w14 g314 g514 (.inl ⟨rfl, rfl⟩)
  have e15' := e15
  simp only [imC] at e15' g314
  have kx15 : K2 h15 h2.size h4.size o14 (flpI m).pl := (k2_o2 o214 w14 (by omega) (by omega)).keep f15'
  have f115 : Fm No hb h15 := box _ _ f15' (f113.trans f14' fun _ _ x => x)
  have n15 : h15.rdN h2.size 0 4 = some (imC (flpI m) o14 c14) := rdN_mk g15 (by simp [imC])
  simp only [imC] at n15
  have gf := g.flp
  have z0 := t0.1
  simp only [Int.natCast_zero, Int.cast_ofNat_Int] at z0
  simp +contextual (disch := omega) only [↓AM, ↓AV, AP, CQ, imC, z0, g314, spl_S, spl_0, spl_00, e15', EqI, n15]
  -- and back
  have t1 := turnR_ok (f := true) gf (show 0 ≤ 3 by omega)
  refine (c_Turn (q := 0) (f := true) kx15.r2 l14 gf.sm.sz).use ?_
  rintro _ h16 w16 ⟨⟨u, rfl, ou⟩, f16'⟩
  rw [show (0 : Int) = ((0 : Nat) : Int) from rfl, t1.2, show turnS (flpI m) 0 true = flpI (flpI m) from rfl, flpI_2 g] at ou
  obtain ⟨o16, c16, b16, rfl, o216, l16⟩ := ou
  have s15 := f15'.size
  have s16 := f16'.size
  have g316 := f16'.keep w15 g15 (fun f => f)
  have g516 := f16'.keep w15 g515 (fun f => f)
  obtain ⟨h17, e17, w17, g17, g517, f17⟩ := put h16 h2.size h4.size _ _ (imC m o16 c16) w16 g316 g516 (.inl ⟨rfl, rfl⟩)
  have e17' := e17
  simp only [imC] at e17' g316
  have kx17 : K2 h17 h2.size h4.size o16 m.pl := (k2_o2 o216 w16 (by omega) (by omega)).keep f17
  have f117 : Fm No hb h17 := box _ _ f17 (f115.trans f16' fun _ _ x => x)
  have n17 : h17.rdN h2.size 0 4 = some (imC m o16 c16) := rdN_mk g17 (by simp [imC])
  simp only [imC] at n17
  have z1 := t1.1
  simp only [Int.natCast_zero, Int.cast_ofNat_Int] at z1
  simp +contextual (disch := omega) only [↓AM, ↓AV, AP, CQ, imC, z1, g316, spl_S, spl_0, spl_00, e17', EqI, n17, nb h17 f117]
  refine (c_EqImage kx17.r2 (rb.keep wb f117) hz).use ?_
  rintro _ h18 w18 ⟨rfl, f18'⟩
  simp +contextual (disch := omega) only [↓AM, ↓AV, AP, CQ, EqI, It.eqI_self]
  refine (c_awake h18).use ?_
  rintro _ h19 w19 ⟨rfl, rfl⟩
  simp +contextual (disch := omega) only [↓AM, ↓AV, AP, CQ]
theorem walk {h : Hp} (x0 : (Im × Int × Int × Bool)) (cs0 : List Value) (A0 : (AKd.pair (AKd.pair (AKd.int .i64) (AKd.pair (AKd.int .i64) (AKd.pair (AKd.int .i64) (AKd.slice (AKd.slice (AKd.int .i64)))))) (AKd.pair (AKd.int .i64) (AKd.pair (AKd.int .i64) AKd.bool))).A h x0 cs0) (w0 : (((Lit.int .i64 x0.1.1).wf = true) ∧ ((Lit.int .i64 x0.1.2.1).wf = true) ∧ ((Lit.int .i64 x0.1.2.2.1).wf = true) ∧ (x0.1.2.2.2.length * Tryz.prog.bytesOf 39 ≤ 140737488351232 ∧ ∀ x ∈ x0.1.2.2.2, x.length * Tryz.prog.bytesOf 3 ≤ 140737488351232 ∧ ∀ y ∈ x, (Lit.int .i64 y).wf = true)) ∧ ((Lit.int .i64 x0.2.1).wf = true) ∧ ((Lit.int .i64 x0.2.2.1).wf = true) ∧ (True)) : ACalls Tryz.prog 3 [.agg cs0.toArray] h fun v h' => v = .bool true := by
  obtain ⟨m, a, b, f⟩ := x0
  obtain ⟨c1, c2, rfl, h1, c3, c4, rfl, h2, c5, c6, rfl, h3, h4⟩ := A0
  obtain ⟨oa, c, rfl, r, l⟩ := im_open h1
  have h2 : c3 = [.int .i64 a] := h2
  have h3 : c5 = [.int .i64 b] := h3
  have h4 : c6 = [.bool f] := h4
  subst h2 h3 h4
  obtain ⟨⟨_, _, _, q1, q2⟩, _⟩ := w0
  exact core m a b f r l (sz_of bytes2 bytes1 q1 fun x hx => (q2 x hx).1)
end Go.Proofs.YtmkcngcnedjfkaaGreat.LItemTurns

/- Lists of pictures, read. Plain theorems over the abstract machine.
   Conditions: none. -/
namespace Go.Proofs.YtmkcngcnedjfkaaGreat.It
open Go Go.RowKit Go.Proofs.YtmkcngcnedjfkaaGreat.Am Go.Proofs.YtmkcngcnedjfkaaGreat.Af Go.Proofs.YtmkcngcnedjfkaaGreat.Md
open Go.Proofs.YtmkcngcnedjfkaaGreat.LItemTurns (im_open imK)
set_option linter.unusedVariables false
set_option linter.unusedSimpArgs false
set_option linter.defProp false
set_option maxRecDepth 20000
set_option maxHeartbeats 2000000

def R3 (h : Hp) (oa : Option Addr) (ls : List Im) : Prop :=
  ∃ cs : List Value, Rd h 4 oa ls.length cs ∧ ∀ (i : Nat) (m : Im), ls[i]? = some m → ∃ ob d, (cs.drop (i * 4)).take 4 = imC m ob d ∧ m.pl.length ≤ d ∧ R2 h ob m.pl
theorem R3.keep {h h' : Hp} {oa : Option Addr} {ls : List Im} (w : Wf h) (r : R3 h oa ls) (f : Fm No h h') : R3 h' oa ls := by
  obtain ⟨cs, r1, r2⟩ := r
  exact ⟨cs, r1.keep w f (fun _ _ => id), fun i l hl => let ⟨ob, c, a, b, d⟩ := r2 i l hl; ⟨ob, c, a, b, d.keep w f⟩⟩
theorem R3.keepW {h h' : Hp} {oa : Option Addr} {ls : List Im} {F : Nat → Prop} (w : Wf h) (r : R3 h oa ls) (f : Fm F h h') (hF : ∀ x, x < h.size → ¬ F x) : R3 h' oa ls := by
  obtain ⟨cs, r1, r2⟩ := r
  exact ⟨cs, r1.keepW w f hF, fun i l hl => let ⟨ob, c, a, b, d⟩ := r2 i l hl; ⟨ob, c, a, b, d.keepW w f hF⟩⟩
theorem R3.at {h : Hp} {oa : Option Addr} {ls : List Im} (r : R3 h oa ls) {i : Nat} (hi : i < ls.length) :
    ∃ b off sp ob d m, oa = some ⟨b, off, sp⟩ ∧ flagOk sp = true ∧ ls[i]? = some m ∧ h.rdN b (off + i * 4) 4 = some (imC m ob d) ∧ m.pl.length ≤ d ∧ R2 h ob m.pl := by
  obtain ⟨cs, r1, r2⟩ := r
  obtain ⟨b, off, sp, e, f1, hr⟩ := r1.pos (by omega)
  obtain ⟨ob, d, h1, h2, h3⟩ := r2 i ls[i] (List.getElem?_eq_getElem hi)
  have h4 := rdN_sub (k := i * 4) (l := 4) hr (by omega)
  rw [h1] at h4
  exact ⟨b, off, sp, ob, d, _, e, f1, List.getElem?_eq_getElem hi, h4, h2, h3⟩
theorem R3.of {h : Hp} {ls : List Im} {cs : List Value} (a : (AKd.slice imK).A h ls cs) : ∃ oa c, cs = [.slice oa ls.length c] ∧ R3 h oa ls ∧ ls.length ≤ c := by
  obtain ⟨oa, c, r, h1, h2, h3, h4⟩ := a
  refine ⟨oa, c, h1, ⟨r, h2, fun i l hl => ?_⟩, h4⟩
  have hg := AKd.Row.get (z := 4) (fun x cs h => imK.alen h) h3 hl
  obtain ⟨ob, cc, e, r1, lc⟩ := im_open hg
  exact ⟨ob, cc, e, lc, r1⟩
def S3 (ls : List Im) : Prop := ls.length ≤ 140737488351232 ∧ ∀ m ∈ ls, Sz m.pl
def picsB (ls : List Im) : Bool := ls.all plainB && decide ((ls.length : Int) ≤ 70)
theorem all_take_S {α : Type} {p : α → Bool} {ls : List α} {i : Nat} {m : α} (h : (ls.take i).all p = true) (hm : ls[i]? = some m) (hp : p m = true) : (ls.take (i + 1)).all p = true := by
  rw [List.take_add_one, hm, List.all_append, h]
  simp [hp]
theorem c_pictures {h : Hp} {ls : List Im} {oa : Option Addr} {c : Nat} (r : R3 h oa ls) (hz : S3 ls) :
    ACalls Tryz.prog 27 [.slice oa ls.length c] h fun v h' => v = .bool (picsB ls) ∧ Fm No h h' := by
  refine dioramalaw15_pictures_ok.snd Af.hm rfl fun w => ?_
  rw [WF_eq, dioramalaw15_pictures]
  have hz1 := hz.1
  simp +contextual (disch := omega) only [↓AM, ↓AV, AP, CQ]
  refine WL.mk (fun k t h' => ∃ (i : Nat), Wf h' ∧ Fm No h h' ∧ i ≤ ls.length ∧ k = ls.length - i ∧ (ls.take i).all plainB = true ∧
      t = [(0, some (.slice oa ls.length c)), (3, some (.int .i64 (i : Int)))])
    ⟨ls.length, 0, w, Fm.refl, by omega, rfl, rfl, rfl⟩ ?_
  rintro k t h1 ⟨i, w1, f1, hi, rfl, ha, rfl⟩
  by_cases hin : i < ls.length
  · obtain ⟨b, off, sp, ob, d, m, rfl, fo, hm, hr, ld, rm⟩ := (r.keep w f1).at hin
    simp +contextual (disch := omega) only [↓AM, ↓AV, AP, CQ, hin, fo, hr]
    refine (c_plain rm (hz.2 m (List.mem_of_getElem? hm))).use ?_
    rintro _ h2 w2 ⟨rfl, f2⟩
    by_cases hp : plainB m = true
    · simp +contextual (disch := omega) only [↓AM, ↓AV, AP, CQ, hp, i64]
      exact ⟨ls.length - (i + 1), by omega, i + 1, w2, f1.trans f2 fun _ _ x => x, by omega, rfl, all_take_S ha hm hp, rfl⟩
    · simp +contextual (disch := omega) only [↓AM, ↓AV, AP, CQ, hp]
      refine ⟨?_, f1.trans f2 fun _ _ x => x⟩
      unfold picsB
      have : ls.all plainB = false := by
        rw [Bool.eq_false_iff]
        intro ht
        exact hp (List.all_eq_true.1 ht m (List.mem_of_getElem? hm))
      rw [this]; rfl
  · have hie : i = ls.length := by omega
    subst hie
    rw [List.take_length] at ha
    simp +contextual (disch := omega) only [↓AM, ↓AV, AP, CQ, hin]
    exact ⟨by unfold picsB; rw [ha]; simp, f1⟩
/-- The shape of a picture. -/
def shC (m : Im) : List Value := [.int .i64 m.wd, .int .i64 m.hg, .int .i64 m.bt, .int .i64 (m.pl.length : Int)]
theorem c_shapeOf {h : Hp} {m : Im} {oa : Option Addr} {c : Nat} : ACalls Tryz.prog 71 [.agg (imC m oa c).toArray] h fun v h' => v = .agg (shC m).toArray ∧ Fm No h h' := by
  refine item_shapeOf_ok.snd Af.hm rfl fun w => ?_
  rw [WF_eq, item_shapeOf]
  obtain ⟨ha, ea⟩ : ∃ g, h.new ⟨[.int .i64 m.wd, .int .i64 m.hg, .int .i64 m.bt, .slice oa m.pl.length c], .own⟩ = g := ⟨_, rfl⟩
  have wa : Wf ha := ea ▸ w.new
  have fa : Fm No h ha := ea ▸ Fm.new Fm.refl
  have ga : ha.get h.size = some ⟨[.int .i64 m.wd, .int .i64 m.hg, .int .i64 m.bt, .slice oa m.pl.length c], .own⟩ := ea ▸ gnew
  obtain ⟨hb, eb⟩ : ∃ g, ha.new ⟨[.int .i64 0, .int .i64 0, .int .i64 0, .int .i64 0], .own⟩ = g := ⟨_, rfl⟩
  have wb : Wf hb := eb ▸ wa.new
  have fb : Fm No ha hb := eb ▸ Fm.new Fm.refl
  have gb : hb.get ha.size = some ⟨[.int .i64 0, .int .i64 0, .int .i64 0, .int .i64 0], .own⟩ := eb ▸ gnew
  have gab := fb.keep wa ga (fun f => f)
  have sa : ha.size = h.size + 1 := by rw [← ea]; rfl
  obtain ⟨hc, ec⟩ : ∃ g, hb.put ha.size ⟨shC m, .own⟩ = g := ⟨_, rfl⟩
  have fc : Fm (fun z => z = ha.size) hb hc := ec ▸ Fm.put Fm.refl fun _ => rfl
  have gc : hc.rdN ha.size 0 4 = some (shC m) := by rw [← ec]; exact rdN_mk gput (by simp [shC])
  simp only [shC] at ec gc
  simp +contextual (disch := omega) only [↓AM, ↓AV, AP, CQ, imC, ea, eb, rd_mk gab, gb, spl_S, spl_0, spl_00, ec, gc]
  exact ⟨rfl, (fa.trans fb fun _ _ x => x).trans fc fun z hz e => by have : z = ha.size := e; omega⟩
theorem c_of {h : Hp} {m : Im} {oa : Option Addr} {c : Nat} : ACalls Tryz.prog 74 [.agg (imC m oa c).toArray] h fun v h' => v = .agg (shC m).toArray ∧ Fm No h h' := by
  refine dioramaref15_of_ok.snd Af.hm rfl fun w => ?_
  rw [WF_eq, dioramaref15_of]
  obtain ⟨ha, ea⟩ : ∃ g, h.new ⟨[.int .i64 m.wd, .int .i64 m.hg, .int .i64 m.bt, .slice oa m.pl.length c], .own⟩ = g := ⟨_, rfl⟩
  have wa : Wf ha := ea ▸ w.new
  have fa : Fm No h ha := ea ▸ Fm.new Fm.refl
  have ga : ha.get h.size = some ⟨[.int .i64 m.wd, .int .i64 m.hg, .int .i64 m.bt, .slice oa m.pl.length c], .own⟩ := ea ▸ gnew
  obtain ⟨hb, eb⟩ : ∃ g, ha.new ⟨[.int .i64 0, .int .i64 0, .int .i64 0, .int .i64 0], .own⟩ = g := ⟨_, rfl⟩
  have wb : Wf hb := eb ▸ wa.new
  have fb : Fm No ha hb := eb ▸ Fm.new Fm.refl
  have gb : hb.get ha.size = some ⟨[.int .i64 0, .int .i64 0, .int .i64 0, .int .i64 0], .own⟩ := eb ▸ gnew
  have gab := fb.keep wa ga (fun f => f)
  have sa : ha.size = h.size + 1 := by rw [← ea]; rfl
  obtain ⟨hc, ec⟩ : ∃ g, hb.put ha.size ⟨shC m, .own⟩ = g := ⟨_, rfl⟩
  have fc : Fm (fun z => z = ha.size) hb hc := ec ▸ Fm.put Fm.refl fun _ => rfl
  have gc : hc.rdN ha.size 0 4 = some (shC m) := by rw [← ec]; exact rdN_mk gput (by simp [shC])
  simp only [shC] at ec gc
  simp +contextual (disch := omega) only [↓AM, ↓AV, AP, CQ, imC, ea, eb, rd_mk gab, gb, spl_S, spl_0, spl_00, ec, gc]
  exact ⟨rfl, (fa.trans fb fun _ _ x => x).trans fc fun z hz e => by have : z = ha.size := e; omega⟩
theorem c_side {h : Hp} {n : Int} : ACalls Tryz.prog 70 [.int .i64 n] h fun v h' => v = .bool (decide (1 ≤ n ∧ n ≤ 64)) ∧ h' = h := by
  refine item_side_ok.snd Af.hm rfl fun w => ?_
  rw [WF_eq, item_side]
  simp +contextual (disch := omega) only [↓AM, ↓AV, AP, CQ]
  refine c_iw.use ?_
  rintro _ h9 _ ⟨rfl, e9⟩
  subst h9
  simp +contextual (disch := omega) only [↓AM, ↓AV, AP, CQ]
end Go.Proofs.YtmkcngcnedjfkaaGreat.It

/- Shapes that make a grid. Plain theorems over the abstract machine.
   Conditions: none. -/
namespace Go.Proofs.YtmkcngcnedjfkaaGreat.It
open Go Go.RowKit Go.Proofs.YtmkcngcnedjfkaaGreat.Am Go.Proofs.YtmkcngcnedjfkaaGreat.Af Go.Proofs.YtmkcngcnedjfkaaGreat.Md
open Go.Proofs.YtmkcngcnedjfkaaGreat.LItemTurns (im_open imK)
set_option linter.unusedVariables false
set_option linter.unusedSimpArgs false
set_option linter.defProp false
set_option maxRecDepth 20000
set_option maxHeartbeats 2000000

def S4 (h : Hp) (os : Option Addr) (ls : List Im) : Prop := Rd h 4 os ls.length (ls.flatMap shC)
theorem shC_len (m : Im) : (shC m).length = 4 := rfl
theorem sh_get : ∀ {ls : List Im} {i : Nat} {m : Im}, ls[i]? = some m → ((ls.flatMap shC).drop (i * 4)).take 4 = shC m
  | [], i, m, h => by simp at h
  | x :: xs, 0, m, h => by
    simp at h
    subst h
    rw [List.flatMap_cons, Nat.zero_mul, List.drop_zero, List.take_append_of_le_length (by rw [shC_len]; exact Nat.le_refl _), List.take_of_length_le (by rw [shC_len]; exact Nat.le_refl _)]
  | x :: xs, i + 1, m, h => by
    rw [List.flatMap_cons, List.drop_append, List.drop_of_length_le (by rw [shC_len]; omega), List.nil_append, shC_len, show (i + 1) * 4 - 4 = i * 4 by omega]
    exact sh_get (by simpa using h)
theorem S4.at {h : Hp} {os : Option Addr} {ls : List Im} (r : S4 h os ls) {i : Nat} (hi : i < ls.length) :
    ∃ b off sp m, os = some ⟨b, off, sp⟩ ∧ flagOk sp = true ∧ ls[i]? = some m ∧ h.rdN b (off + i * 4) 4 = some (shC m) := by
  obtain ⟨b, off, sp, e, f1, hr⟩ := Rd.pos r (by omega)
  have h4 := rdN_sub (k := i * 4) (l := 4) hr (by omega)
  rw [sh_get (List.getElem?_eq_getElem hi)] at h4
  exact ⟨b, off, sp, _, e, f1, List.getElem?_eq_getElem hi, h4⟩
def shp (m : Im) : Int × Int × Int × Int := (m.wd, m.hg, m.bt, (m.pl.length : Int))
def covB (parts size whole : Int) : Bool := decide ((parts - 1) * size < whole) && decide (whole ≤ parts * size)
def l0 (ls : List Im) : Im := ls.getD 0 zIm
def fitB (ls : List Im) (rows cols wide high : Int) : Bool := (ls.all fun m => decide (shp m = shp (l0 ls))) && (covB cols (l0 ls).wd wide && covB rows (l0 ls).hg high)
theorem l0_at {ls : List Im} (h : 0 < ls.length) : ls[0]? = some (l0 ls) := by
  unfold l0
  simp [List.getD, List.getElem?_eq_getElem h]
theorem mulb {a b : Int} (ha : 0 ≤ a ∧ a ≤ 8) (hb : 1 ≤ b ∧ b ≤ 64) : 0 ≤ a * b ∧ a * b ≤ 512 :=
  ⟨Int.mul_nonneg ha.1 (by omega), Int.le_trans (Int.mul_le_mul_of_nonneg_right ha.2 (by omega)) (by omega)⟩
theorem eq4 {a b c d a' b' c' d' : Int} : eqCells [1, 1, 1, 1] [Value.int .i64 a, .int .i64 b, .int .i64 c, .int .i64 d] [Value.int .i64 a', .int .i64 b', .int .i64 c', .int .i64 d'] = some (decide ((a, b, c, d) = (a', b', c', d'))) := by
  by_cases h1 : a = a' <;> by_cases h2 : b = b' <;> by_cases h3 : c = c' <;> by_cases h4 : d = d' <;> simp [eqCells, eqCell, h1, h2, h3, h4]
theorem c_gridShape {h : Hp} {ls : List Im} {os : Option Addr} {c : Nat} {rows cols wide high : Int} (r : S4 h os ls) (hn : 0 < ls.length) (hs : ls.length ≤ 1000) (hg : Good (l0 ls)) (hr : 1 ≤ rows ∧ rows ≤ 8) (hc : 1 ≤ cols ∧ cols ≤ 8) :
    ACalls Tryz.prog 72 [.slice os ls.length c, .int .i64 rows, .int .i64 cols, .int .i64 wide, .int .i64 high] h fun v h' => (∃ p q s t : Int, v = .tuple #[.agg #[.int .i64 p, .int .i64 q, .int .i64 s, .int .i64 t], .int .i64 (if fitB ls rows cols wide high then 0 else 151)]) ∧ Fm No h h' := by
  refine item_gridShape_ok.snd Af.hm rfl fun w => ?_
  rw [WF_eq, item_gridShape]
  obtain ⟨ha, ea⟩ : ∃ g, h.new ⟨[.int .i64 0, .int .i64 0, .int .i64 0, .int .i64 0], .own⟩ = g := ⟨_, rfl⟩
  have wa : Wf ha := ea ▸ w.new
  have fa : Fm No h ha := ea ▸ Fm.new Fm.refl
  have ga : ha.get h.size = some ⟨[.int .i64 0, .int .i64 0, .int .i64 0, .int .i64 0], .own⟩ := ea ▸ gnew
  have sa : ha.size = h.size + 1 := by rw [← ea]; rfl
  have put : ∀ (g : Hp) (a b c d : Int), Fm No ha g → ∃ g', g.put h.size ⟨[.int .i64 a, .int .i64 b, .int .i64 c, .int .i64 d], .own⟩ = g' ∧ g.get h.size = some ⟨[.int .i64 0, .int .i64 0, .int .i64 0, .int .i64 0], .own⟩ ∧ g'.rdN h.size 0 4 = some [.int .i64 a, .int .i64 b, .int .i64 c, .int .i64 d] ∧ Fm No h g' := fun g a b c d fg => by
    refine ⟨_, rfl, fg.keep wa ga (fun f => f), rdN_mk gput (by simp), ?_⟩
    exact (fa.trans fg fun _ _ x => x).trans (Fm.put (F := fun z => z = h.size) Fm.refl fun _ => rfl) fun z hz e => by have : z = h.size := e; omega
  simp +contextual (disch := omega) only [↓AM, ↓AV, AP, CQ, ea]
  refine WL.mk (fun k t h' => ∃ (i : Nat), Wf h' ∧ Fm No ha h' ∧ i ≤ ls.length ∧ k = ls.length - i ∧ (ls.take i).all (fun m => decide (shp m = shp (l0 ls))) = true ∧
      t = [(0, some (.slice os ls.length c)), (1, some (.int .i64 rows)), (2, some (.int .i64 cols)), (3, some (.int .i64 wide)), (4, some (.int .i64 high)), (10, some (.pointer (some ⟨h.size, 0, none⟩))), (15, some (.slice os ls.length c)), (16, some (.int .i64 (ls.length : Int))), (17, some (.int .i64 (i : Int)))])
    ⟨ls.length, 0, wa, Fm.refl, by omega, rfl, rfl, rfl⟩ ?_
  rintro k t h1 ⟨i, w1, f1, hi, rfl, hall, rfl⟩
  have fh1 := fa.trans f1 fun _ _ x => x
  have r1 : S4 h1 os ls := Rd.keep w r fh1 (fun _ _ f => f)
  obtain ⟨b0, off0, sp0, m0, e0, fo0, hm0, hr0⟩ := r1.at hn
  rw [l0_at hn] at hm0
  cases hm0
  by_cases hin : i < ls.length
  · obtain ⟨b, off, sp, m, e1, fo, hm, hr1⟩ := r1.at hin
    rw [e0] at e1
    cases e1
    obtain ⟨h2, e2⟩ : ∃ g, h1.new ⟨shC m, .own⟩ = g := ⟨_, rfl⟩
    have w2 : Wf h2 := e2 ▸ w1.new
    have f2 : Fm No h1 h2 := e2 ▸ Fm.new Fm.refl
    have g2 : h2.rdN h1.size 0 4 = some (shC m) := by rw [← e2]; exact rdN_mk gnew (by simp [shC])
    have hr2 : h2.rdN b0 (off0 + 0 * 4) 4 = some (shC (l0 ls)) := by
      have := S4.at (Rd.keep w1 r1 f2 (fun _ _ f => f)) hn
      obtain ⟨b', off', sp', m', e', _, hm', hr'⟩ := this
      rw [e0] at e'
      cases e'
      rw [l0_at hn] at hm'
      cases hm'
      exact hr'
    subst e0
    have hn' : (0 : Int) < (ls.length : Int) := by omega
    simp only [shC] at e2 g2 hr1 hr2
    have heq : ∀ b, decide ((m.wd, m.hg, m.bt, (m.pl.length : Int)) = ((l0 ls).wd, (l0 ls).hg, (l0 ls).bt, ((l0 ls).pl.length : Int))) = b ↔ decide (shp m = shp (l0 ls)) = b := fun b => Iff.rfl
    by_cases hs : decide (shp m = shp (l0 ls)) = true
    · have hs' := (heq _).2 hs
      simp +contextual (disch := omega) only [↓AM, ↓AV, AP, CQ, ea, hin, hn, hn', fo, hr1, e2, g2, hr2, eq4, hs', i64]
      exact ⟨ls.length - (i + 1), by omega, i + 1, w2, f1.trans f2 fun _ _ x => x, by omega, rfl, all_take_S hall hm hs, rfl⟩
    · have hs' := (heq false).2 (Bool.eq_false_iff.2 hs)
      obtain ⟨g', k1, k2, k3, k4⟩ := put h2 0 0 0 0 (f1.trans f2 fun _ _ x => x)
      simp +contextual (disch := omega) only [↓AM, ↓AV, AP, CQ, ea, hin, hn, hn', fo, hr1, e2, g2, hr2, eq4, hs', k2, spl_S, spl_0, spl_00, k1, k3]
      have hf : fitB ls rows cols wide high = false := by
        have : (ls.all fun m => decide (shp m = shp (l0 ls))) = false := by
          rw [Bool.eq_false_iff]
          intro ht
          exact hs (List.all_eq_true.1 ht m (List.mem_of_getElem? hm))
        unfold fitB
        rw [this]; rfl
      exact ⟨⟨0, 0, 0, 0, by rw [hf]; rfl⟩, k4⟩
  · have hie : i = ls.length := by omega
    subst hie
    rw [List.take_length] at hall
    have hn' : (0 : Int) < (ls.length : Int) := by omega
    obtain ⟨h2, e2⟩ : ∃ g, h1.new ⟨shC (l0 ls), .own⟩ = g := ⟨_, rfl⟩
    have w2 : Wf h2 := e2 ▸ w1.new
    have f2 : Fm No h1 h2 := e2 ▸ Fm.new Fm.refl
    have g2 : h2.get h1.size = some ⟨shC (l0 ls), .own⟩ := by rw [← e2]; exact gnew
    subst e0
    simp only [shC] at e2 g2 hr0
    obtain ⟨wd1, hg1, hd2⟩ := hg.dim
    have b1 := mulb (a := cols - 1) (b := (l0 ls).wd) (by omega) hg.dim.1.1
    have b2 := mulb (a := cols) (b := (l0 ls).wd) (by omega) hg.dim.1.1
    have b3 := mulb (a := rows - 1) (b := (l0 ls).hg) (by omega) hg.dim.1.2
    have b4 := mulb (a := rows) (b := (l0 ls).hg) (by omega) hg.dim.1.2
    have hf : fitB ls rows cols wide high = (covB cols (l0 ls).wd wide && covB rows (l0 ls).hg high) := by unfold fitB; rw [hall]; rfl
    have ff := f1.trans f2 fun _ _ x => x
    by_cases c1 : wide ≤ (cols - 1) * (l0 ls).wd
    · obtain ⟨g', k1, k2, k3, k4⟩ := put h2 0 0 0 0 ff
      simp +contextual (disch := omega) only [↓AM, ↓AV, AP, CQ, ea, hin, hn, hn', fo0, hr0, e2, rd_mk g2, i64, c1, k2, spl_S, spl_0, spl_00, k1, k3]
      have : fitB ls rows cols wide high = false := by rw [hf]; unfold covB; rw [decide_eq_false (by omega : ¬ (cols - 1) * (l0 ls).wd < wide)]; rfl
      exact ⟨⟨0, 0, 0, 0, by rw [this]; rfl⟩, k4⟩
    by_cases c2 : cols * (l0 ls).wd < wide
    · obtain ⟨g', k1, k2, k3, k4⟩ := put h2 0 0 0 0 ff
      simp +contextual (disch := omega) only [↓AM, ↓AV, AP, CQ, ea, hin, hn, hn', fo0, hr0, e2, rd_mk g2, i64, c1, c2, gt_iff_lt, k2, spl_S, spl_0, spl_00, k1, k3]
      have : fitB ls rows cols wide high = false := by rw [hf]; unfold covB; rw [decide_eq_false (by omega : ¬ wide ≤ cols * (l0 ls).wd), Bool.and_false]; rfl
      exact ⟨⟨0, 0, 0, 0, by rw [this]; rfl⟩, k4⟩
    by_cases c3 : high ≤ (rows - 1) * (l0 ls).hg
    · obtain ⟨g', k1, k2, k3, k4⟩ := put h2 0 0 0 0 ff
      simp +contextual (disch := omega) only [↓AM, ↓AV, AP, CQ, ea, hin, hn, hn', fo0, hr0, e2, rd_mk g2, i64, c1, c2, c3, gt_iff_lt, k2, spl_S, spl_0, spl_00, k1, k3]
      have : fitB ls rows cols wide high = false := by rw [hf]; unfold covB; rw [decide_eq_false (by omega : ¬ (rows - 1) * (l0 ls).hg < high), Bool.false_and, Bool.and_false]
      exact ⟨⟨0, 0, 0, 0, by rw [this]; rfl⟩, k4⟩
    by_cases c4 : rows * (l0 ls).hg < high
    · obtain ⟨g', k1, k2, k3, k4⟩ := put h2 0 0 0 0 ff
      simp +contextual (disch := omega) only [↓AM, ↓AV, AP, CQ, ea, hin, hn, hn', fo0, hr0, e2, rd_mk g2, i64, c1, c2, c3, c4, gt_iff_lt, k2, spl_S, spl_0, spl_00, k1, k3]
      have : fitB ls rows cols wide high = false := by rw [hf]; unfold covB; rw [decide_eq_false (by omega : ¬ high ≤ rows * (l0 ls).hg), Bool.and_false, Bool.and_false]
      exact ⟨⟨0, 0, 0, 0, by rw [this]; rfl⟩, k4⟩
    obtain ⟨g', k1, k2, k3, k4⟩ := put h2 wide high (l0 ls).bt ((l0 ls).pl.length : Int) ff
    simp +contextual (disch := omega) only [↓AM, ↓AV, AP, CQ, ea, hin, hn, hn', fo0, hr0, e2, rd_mk g2, i64, c1, c2, c3, c4, gt_iff_lt, k2, spl_S, spl_0, spl_00, k1, k3]
    have : fitB ls rows cols wide high = true := by rw [hf]; unfold covB; rw [decide_eq_true (by omega), decide_eq_true (by omega), decide_eq_true (by omega), decide_eq_true (by omega)]; rfl
    exact ⟨⟨wide, high, (l0 ls).bt, ((l0 ls).pl.length : Int), by rw [this]; rfl⟩, k4⟩
theorem c_covers {h : Hp} {a b c : Int} (ha : 1 ≤ a ∧ a ≤ 8) (hb : 1 ≤ b ∧ b ≤ 64) : ACalls Tryz.prog 121 [.int .i64 a, .int .i64 b, .int .i64 c] h fun v h' => v = .bool (covB a b c) ∧ h' = h := by
  refine dioramaref15_covers_ok.snd Af.hm rfl fun w => ?_
  rw [WF_eq, dioramaref15_covers]
  have b1 := mulb (a := a - 1) (b := b) (by omega) hb
  have b2 := mulb (a := a) (b := b) (by omega) hb
  by_cases c1 : (a - 1) * b < c
  · simp +contextual (disch := omega) only [↓AM, ↓AV, AP, CQ, i64, c1]
    unfold covB
    rw [decide_eq_true c1]; rfl
  · simp +contextual (disch := omega) only [↓AM, ↓AV, AP, CQ, i64, c1]
    unfold covB
    rw [decide_eq_false c1]; rfl
theorem c_gridFits {h : Hp} {ls : List Im} {os : Option Addr} {c : Nat} {rows cols wide high : Int} (r : S4 h os ls) (hn : 0 < ls.length) (hs : ls.length ≤ 1000) (hg : Good (l0 ls)) (hr : 1 ≤ rows ∧ rows ≤ 8) (hc : 1 ≤ cols ∧ cols ≤ 8) :
    ACalls Tryz.prog 75 [.slice os ls.length c, .int .i64 rows, .int .i64 cols, .int .i64 wide, .int .i64 high] h fun v h' => v = .bool (fitB ls rows cols wide high) ∧ h' = h := by
  refine dioramaref15_gridFits_ok.snd Af.hm rfl fun w => ?_
  rw [WF_eq, dioramaref15_gridFits]
  simp +contextual (disch := omega) only [↓AM, ↓AV, AP, CQ]
  refine WL.mk (fun k t h' => ∃ (i : Nat), h' = h ∧ i ≤ ls.length ∧ k = ls.length - i ∧ (ls.take i).all (fun m => decide (shp m = shp (l0 ls))) = true ∧
      t = [(0, some (.slice os ls.length c)), (1, some (.int .i64 rows)), (2, some (.int .i64 cols)), (3, some (.int .i64 wide)), (4, some (.int .i64 high)), (11, some (.int .i64 (i : Int)))])
    ⟨ls.length, 0, rfl, by omega, rfl, rfl, rfl⟩ ?_
  rintro k t h1 ⟨i, e1, hi, rfl, hall, rfl⟩
  subst h1
  obtain ⟨b0, off0, sp0, m0, e0, fo0, hm0, hr0⟩ := r.at hn
  rw [l0_at hn] at hm0
  cases hm0
  have hn' : (0 : Int) < (ls.length : Int) := by omega
  by_cases hin : i < ls.length
  · obtain ⟨b, off, sp, m, e1, fo, hm, hr1⟩ := r.at hin
    rw [e0] at e1
    cases e1
    subst e0
    simp only [shC] at hr0 hr1
    have heq : ∀ b, decide ((m.wd, m.hg, m.bt, (m.pl.length : Int)) = ((l0 ls).wd, (l0 ls).hg, (l0 ls).bt, ((l0 ls).pl.length : Int))) = b ↔ decide (shp m = shp (l0 ls)) = b := fun b => Iff.rfl
    by_cases hs : decide (shp m = shp (l0 ls)) = true
    · have hs' := (heq _).2 hs
      simp +contextual (disch := omega) only [↓AM, ↓AV, AP, CQ, hin, hn, hn', fo, hr1, hr0, eq4, hs', i64]
      exact ⟨ls.length - (i + 1), by omega, i + 1, by omega, rfl, all_take_S hall hm hs, rfl⟩
    · have hs' := (heq false).2 (Bool.eq_false_iff.2 hs)
      simp +contextual (disch := omega) only [↓AM, ↓AV, AP, CQ, hin, hn, hn', fo, hr1, hr0, eq4, hs']
      have : (ls.all fun m => decide (shp m = shp (l0 ls))) = false := by
        rw [Bool.eq_false_iff]
        intro ht
        exact hs (List.all_eq_true.1 ht m (List.mem_of_getElem? hm))
      unfold fitB
      rw [this]; rfl
  · have hie : i = ls.length := by omega
    subst hie
    rw [List.take_length] at hall
    have hf : fitB ls rows cols wide high = (covB cols (l0 ls).wd wide && covB rows (l0 ls).hg high) := by unfold fitB; rw [hall]; rfl
    subst e0
    have q0 := rdN_get hr0 (i := 0) (v := .int .i64 (l0 ls).wd) rfl
    have q1 := rdN_get hr0 (i := 1) (v := .int .i64 (l0 ls).hg) rfl
    rw [Nat.add_zero] at q0
    simp +contextual (disch := omega) only [↓AM, ↓AV, AP, CQ, hin, hn, hn', fo0, q0, q1]
    refine (c_covers hc hg.dim.1.1).use ?_
    rintro _ h9 _ ⟨rfl, e9⟩
    subst h9
    cases hcv : covB cols (l0 ls).wd wide with
    | false =>
      simp +contextual (disch := omega) only [↓AM, ↓AV, AP, CQ, hcv]
      rw [hf, hcv]; rfl
    | true =>
      simp +contextual (disch := omega) only [↓AM, ↓AV, AP, CQ, hn, hn', fo0, q0, q1, hcv]
      refine (c_covers hr hg.dim.1.2).use ?_
      rintro _ h9 _ ⟨rfl, e9⟩
      subst h9
      simp +contextual (disch := omega) only [↓AM, ↓AV, AP, CQ, hcv]
      rw [hf, hcv]; rfl
end Go.Proofs.YtmkcngcnedjfkaaGreat.It

/- Pictures laid as a grid. Plain theorems over the abstract machine.
   Conditions: none. -/
namespace Go.Proofs.YtmkcngcnedjfkaaGreat.It
open Go Go.RowKit Go.Proofs.YtmkcngcnedjfkaaGreat.Am Go.Proofs.YtmkcngcnedjfkaaGreat.Af Go.Proofs.YtmkcngcnedjfkaaGreat.Md
open Go.Proofs.YtmkcngcnedjfkaaGreat.LItemTurns (im_open imK)
set_option linter.unusedVariables false
set_option linter.unusedSimpArgs false
set_option linter.defProp false
set_option maxRecDepth 20000
set_option maxHeartbeats 2000000

/-- The first n pictures drawn on z. -/
def tileN (ls : List Im) (cols : Nat) (z : Im) : Nat → Im
  | 0 => z
  | n + 1 => drI (tileN ls cols z n) (ls.getD n zIm) (((n % cols : Nat) : Int) * (l0 ls).wd) (((n / cols : Nat) : Int) * (l0 ls).hg)
def tileI (ls : List Im) (cols : Nat) (wide high : Int) : Im := tileN ls cols (zim wide high (l0 ls).bt (l0 ls).pl.length) ls.length
theorem tileN_hd (ls : List Im) (cols : Nat) (z : Im) : ∀ n, (tileN ls cols z n).wd = z.wd ∧ (tileN ls cols z n).hg = z.hg ∧ (tileN ls cols z n).bt = z.bt ∧ (tileN ls cols z n).pl.length = z.pl.length
  | 0 => ⟨rfl, rfl, rfl, rfl⟩
  | n + 1 => by
    obtain ⟨a, b, c, d⟩ := tileN_hd ls cols z n
    exact ⟨a, b, c, by rw [← d]; exact drI_len⟩
theorem tileN_fit {ls : List Im} {cols : Nat} {z : Im} (f : Fit z) : ∀ n, Fit (tileN ls cols z n)
  | 0 => f
  | n + 1 => drI_fit (tileN_fit f n)
theorem zim_fit {w h b : Int} {n : Nat} (hw : 1 ≤ w ∧ w ≤ 64) (hh : 1 ≤ h ∧ h ≤ 64) (hn : n ≤ 1000) : Fit (zim w h b n) := by
  have e1 : (zim w h b n).w = w.toNat := rfl
  have e2 : (zim w h b n).h = h.toNat := rfl
  refine ⟨?_, ?_, fun l hl => ?_, ?_⟩
  · rw [e1]; show w = _ ∧ _; omega
  · rw [e2]; show h = _ ∧ _; omega
  · rw [e1, e2, List.eq_of_mem_replicate hl, List.length_replicate, Int.toNat_mul (by omega) (by omega)]
  · show (List.replicate n _).length ≤ 1000
    rw [List.length_replicate]; exact hn
theorem mulc {a b n : Int} (ha : 0 ≤ a ∧ a ≤ n) (hb : 1 ≤ b ∧ b ≤ 64) : 0 ≤ a * b ∧ a * b ≤ n * 64 :=
  ⟨Int.mul_nonneg ha.1 (by omega), Int.le_trans (Int.mul_le_mul_of_nonneg_right ha.2 (by omega)) (Int.mul_le_mul_of_nonneg_left hb.2 (by omega))⟩
theorem getD_im {ls : List Im} {i : Nat} {m : Im} (h : ls[i]? = some m) : ls.getD i zIm = m := by simp [List.getD, h]
theorem c_tiled {h : Hp} {ls : List Im} {oa : Option Addr} {c C : Nat} {wide high : Int} (r : R3 h oa ls) (hn : 0 < ls.length) (hs : ls.length ≤ 64) (hg : ∀ m ∈ ls, Good m) (hsh : ∀ m ∈ ls, shp m = shp (l0 ls)) (hc : 1 ≤ C ∧ C ≤ 8)
    (hw : 1 ≤ wide ∧ wide ≤ 64) (hh : 1 ≤ high ∧ high ≤ 64) :
    ACalls Tryz.prog 73 [.slice oa ls.length c, .int .i64 (C : Int), .int .i64 wide, .int .i64 high] h fun v h' => OI h h' v (tileI ls C wide high) ∧ Fm No h h' := by
  refine item_tiled_ok.snd Af.hm rfl fun w => ?_
  rw [WF_eq, item_tiled]
  have g0 := hg _ (List.mem_of_getElem? (l0_at hn))
  have np0 : (l0 ls).pl.length ≤ 1000 := g0.fit.np
  obtain ⟨ha, ea⟩ : ∃ g, h.new ⟨[.int .i64 0, .int .i64 0, .int .i64 0, .slice none 0 0], .own⟩ = g := ⟨_, rfl⟩
  have wa : Wf ha := ea ▸ w.new
  have fa : Fm No h ha := ea ▸ Fm.new Fm.refl
  have ga : ha.get h.size = some ⟨[.int .i64 0, .int .i64 0, .int .i64 0, .slice none 0 0], .own⟩ := ea ▸ gnew
  have sa : ha.size = h.size + 1 := by rw [← ea]; rfl
  obtain ⟨b0, off0, sp0, ob0, d0, m0, e0, fo0, hm0, hr0, ld0, rm0⟩ := (r.keep w fa).at hn
  rw [l0_at hn] at hm0
  cases hm0
  have hn' : (0 : Int) < (ls.length : Int) := by omega
  simp only [imC] at hr0
  have q2 := rdN_get hr0 (i := 2) (v := .int .i64 (l0 ls).bt) rfl
  have q3 := rdN_get hr0 (i := 3) (v := .slice ob0 (l0 ls).pl.length d0) rfl
  have q2' := q2
  have q3' := q3
  simp only [Nat.zero_mul, Nat.add_zero] at q2' q3'
  have bw := rdN_wf wa hr0
  have rdl : ∀ g, Fm No ha g → g.rd b0 (off0 + 0 * 4 + 2) = some (.int .i64 (l0 ls).bt) ∧ g.rd b0 (off0 + 0 * 4 + 3) = some (.slice ob0 (l0 ls).pl.length d0) := fun g fg => by
    unfold Hp.rd at q2 q3 ⊢
    rw [fg.get _ bw (fun f => f)]
    exact ⟨q2, q3⟩
  subst e0
  simp +contextual (disch := omega) only [↓AM, ↓AV, AP, CQ, ea, hn, hn', fo0, q2, q3, q2', q3']
  refine (c_blank (h := ha) (b := (l0 ls).bt) hw hh np0).use ?_
  rintro _ h1 w1 ⟨⟨on, cn, bs, rfl, o1, lc1⟩, f1⟩
  obtain ⟨p2, p3⟩ := rdl h1 f1
  have p2' := p2
  have p3' := p3
  simp only [Nat.zero_mul, Nat.add_zero] at p2' p3'
  have hs1 := f1.size
  have zl : (zim wide high (l0 ls).bt (l0 ls).pl.length).pl.length = (l0 ls).pl.length := List.length_replicate
  obtain ⟨z, hz⟩ : ∃ z, zim wide high (l0 ls).bt (l0 ls).pl.length = z := ⟨_, rfl⟩
  have fz : Fit z := hz ▸ zim_fit hw hh np0
  have hzd : z.wd = wide ∧ z.hg = high ∧ z.bt = (l0 ls).bt ∧ z.pl.length = (l0 ls).pl.length := hz ▸ ⟨rfl, rfl, rfl, List.length_replicate⟩
  rw [hz] at o1 lc1
  have eim : ∀ n, imC (tileN ls C z n) on cn = [.int .i64 wide, .int .i64 high, .int .i64 (l0 ls).bt, .slice on (l0 ls).pl.length cn] := fun n => by
    obtain ⟨a, b, c, d⟩ := tileN_hd ls C z n
    obtain ⟨a', b', c', d'⟩ := hzd
    unfold imC
    rw [a, b, c, d, a', b', c', d']
  have ez : imC z on cn = [.int .i64 wide, .int .i64 high, .int .i64 (l0 ls).bt, .slice on (l0 ls).pl.length cn] := eim 0
  obtain ⟨h2, e2⟩ : ∃ g, h1.new ⟨[.int .i64 wide, .int .i64 high, .int .i64 (l0 ls).bt, .slice on (l0 ls).pl.length cn], .own⟩ = g := ⟨_, rfl⟩
  have w2 : Wf h2 := e2 ▸ w1.new
  have f2 : Fm No h1 h2 := e2 ▸ Fm.new Fm.refl
  have g2 : h2.get h1.size = some ⟨[.int .i64 wide, .int .i64 high, .int .i64 (l0 ls).bt, .slice on (l0 ls).pl.length cn], .own⟩ := e2 ▸ gnew
  have s2 : h2.size = h1.size + 1 := by rw [← e2]; rfl
  have inlt := o1.inlt w1
  have fa2 : Fm No ha h2 := f1.trans f2 fun _ _ x => x
  have fh2 : Fm No h h2 := fa.trans fa2 fun _ _ x => x
  have keepA : ∀ g, Fm (InB bs) h2 g → R3 g (some ⟨b0, off0, sp0⟩) ls ∧ g.get h1.size = some ⟨[.int .i64 wide, .int .i64 high, .int .i64 (l0 ls).bt, .slice on (l0 ls).pl.length cn], .own⟩ ∧ g.get h.size = some ⟨[.int .i64 0, .int .i64 0, .int .i64 0, .slice none 0 0], .own⟩ ∧ Fm No h g ∧ Fm (InB bs) ha g := fun g fg => by
    have f' : Fm (InB bs) ha g := (fa2.mono fun _ _ f => f.elim).trans fg fun _ _ x => x
    refine ⟨(r.keep w fa).keepW wa f' fun z hz f => ?_, fg.keep w2 g2 fun f => ?_, f'.keep wa ga fun f => ?_, fa.trans f' fun z hz f => ?_, f'⟩
    · have := (inlt _ f).1; omega
    · have := (inlt _ f).2; omega
    · have := (inlt _ f).1; omega
    · have := (inlt _ f).1; omega
  have hnoA : ∀ x, x < ha.size → ¬ InB bs x := fun x hx f => by have := (inlt _ f).1; omega
  rw [hz, ez]
  have hC0 : ((C : Nat) : Int) ≠ 0 := by omega
  simp +contextual (disch := omega) only [↓AM, ↓AV, AP, CQ, ea, e2, p2, p3, p2', p3', hn, hn', fo0]
  refine WL.mk (fun k t h' => ∃ (i : Nat), Wf h' ∧ O2 ha h' on cn (tileN ls C z i).pl bs [] ∧ Fm (InB bs) h2 h' ∧ i ≤ ls.length ∧ k = ls.length - i ∧
      t = [(1, some (.int .i64 (C : Int))), (8, some (.pointer (some ⟨h.size, 0, none⟩))), (9, some (.pointer (some ⟨h1.size, 0, none⟩))), (24, some (.slice (some ⟨b0, off0, sp0⟩) ls.length c)), (25, some (.int .i64 (ls.length : Int))), (26, some (.int .i64 (i : Int)))])
    ⟨ls.length, 0, w2, o1.keepN w1 f2, Fm.refl, by omega, rfl, rfl⟩ ?_
  rintro k t h3 ⟨i, w3, o3, f3, hi, rfl, rfl⟩
  obtain ⟨r3, g39, g38, fh3, fa3⟩ := keepA h3 f3
  by_cases hin : i < ls.length
  · obtain ⟨b, off, sp, ob, d, m, e1, fo, hm, hrA, ld, rm⟩ := (r.keep w fa).at hin
    cases e1
    have hr : h3.rdN b0 (off0 + i * 4) 4 = some (imC m ob d) := by
      rw [rdN_keep (fa3.get _ bw (hnoA _ bw))]; exact hrA
    obtain ⟨Q, hQ⟩ : ∃ Q, i / C = Q := ⟨_, rfl⟩
    obtain ⟨R, hR⟩ : ∃ R, i % C = R := ⟨_, rfl⟩
    have hQ1 : Q ≤ i := hQ ▸ Nat.div_le_self _ _
    have hR1 : R < C := hR ▸ Nat.mod_lt _ (by omega)
    have gm := hg m (List.mem_of_getElem? hm)
    have sm := hsh m (List.mem_of_getElem? hm)
    unfold shp at sm
    simp only [Prod.mk.injEq] at sm
    obtain ⟨sm1, sm2, sm3, sm4⟩ := sm
    obtain ⟨h4, e4⟩ : ∃ g, h3.new ⟨imC m ob d, .own⟩ = g := ⟨_, rfl⟩
    have w4 : Wf h4 := e4 ▸ w3.new
    have f4 : Fm No h3 h4 := e4 ▸ Fm.new Fm.refl
    have g4 : h4.get h3.size = some ⟨imC m ob d, .own⟩ := e4 ▸ gnew
    have f34 : Fm (InB bs) h2 h4 := f3.trans (f4.mono fun _ _ f => f.elim) fun _ _ x => x
    obtain ⟨r4, g49, g48, fh4, fa4⟩ := keepA h4 f34
    have n49 : h4.rdN h1.size 0 4 = some [.int .i64 wide, .int .i64 high, .int .i64 (l0 ls).bt, .slice on (l0 ls).pl.length cn] := rdN_mk g49 (by simp)
    have n4 : h4.rdN h3.size 0 4 = some (imC m ob d) := rdN_mk g4 (by simp [imC])
    simp only [imC] at e4 g4 n4 hr
    have bb1 := mulc (a := (R : Int)) (b := m.wd) (n := 8) (by omega) gm.dim.1.1
    have bb2 := mulc (a := (Q : Int)) (b := m.hg) (n := 64) (by omega) gm.dim.1.2
    simp +contextual (disch := omega) only [↓AM, ↓AV, AP, CQ, ea, e2, hin, fo, hr, e4, rd_mk g4, n49, n4, hC0, tmodN, tdivN, hQ, hR, i64]
    have cp := c_put (h0 := ha) (h := h4) (cv := tileN ls C z i) (m := m) (oa := on) (ob := ob) (c := cn) (d := d) (x := (R : Int) * m.wd) (y := (Q : Int) * m.hg) (o3.keepN w3 f4) (tileN_fit fz i) gm.fit
      (by have := (tileN_hd ls C z i).2.2.2; have := hzd.2.2.2; omega) (by omega) (by omega) fun g fg => by
        exact rm.keepW wa (fa4.trans fg fun _ _ x => x) hnoA
    rw [eim i] at cp
    refine cp.use ?_
    rintro _ h5 w5 ⟨o5, f5⟩
    simp +contextual (disch := omega) only [↓AM, ↓AV, AP, CQ, ea, e2, e4, i64]
    refine ⟨ls.length - (i + 1), by omega, i + 1, w5, ?_, f34.trans f5 fun _ _ x => x, by omega, rfl, rfl⟩
    show O2 ha h5 on cn (drI (tileN ls C z i) (ls.getD i zIm) (((i % C : Nat) : Int) * (l0 ls).wd) (((i / C : Nat) : Int) * (l0 ls).hg)).pl bs []
    rw [getD_im hm, ← sm1, ← sm2, hQ, hR]
    exact o5
  · have hie : i = ls.length := by omega
    subst hie
    have n3 : h3.rdN h1.size 0 4 = some [.int .i64 wide, .int .i64 high, .int .i64 (l0 ls).bt, .slice on (l0 ls).pl.length cn] := rdN_mk g39 (by simp)
    obtain ⟨hD, eD⟩ : ∃ g, h3.put h.size ⟨[.int .i64 wide, .int .i64 high, .int .i64 (l0 ls).bt, .slice on (l0 ls).pl.length cn], .own⟩ = g := ⟨_, rfl⟩
    have fD : Fm (fun x => x = h.size) h3 hD := eD ▸ Fm.put Fm.refl fun _ => rfl
    have gD : hD.rdN h.size 0 4 = some [.int .i64 wide, .int .i64 high, .int .i64 (l0 ls).bt, .slice on (l0 ls).pl.length cn] := by rw [← eD]; exact rdN_mk gput (by simp)
    simp +contextual (disch := omega) only [↓AM, ↓AV, AP, CQ, hin, n3, g38, spl_S, spl_0, spl_00, eD, gD]
    have htl : (tileN ls C z ls.length).pl.length = (l0 ls).pl.length := by have := (tileN_hd ls C z ls.length).2.2.2; have := hzd.2.2.2; omega
    refine ⟨⟨on, cn, bs, ?_, ?_, ?_⟩, fh3.trans fD fun z hz hy => by have : z = h.size := hy; omega⟩
    · unfold tileI
      rw [hz, eim]
    · unfold tileI
      rw [hz]
      exact (o3.keepB w3 fD fun z hz => by have : z = h.size := hz; omega).older (by omega)
    · unfold tileI
      rw [hz, htl, ← hzd.2.2.2]
      exact lc1
end Go.Proofs.YtmkcngcnedjfkaaGreat.It

/- The document's grid of pictures. Plain theorems over the abstract machine.
   Conditions: none. -/
namespace Go.Proofs.YtmkcngcnedjfkaaGreat.It
open Go Go.RowKit Go.Proofs.YtmkcngcnedjfkaaGreat.Am Go.Proofs.YtmkcngcnedjfkaaGreat.Af Go.Proofs.YtmkcngcnedjfkaaGreat.Md
open Go.Proofs.YtmkcngcnedjfkaaGreat.LItemTurns (im_open imK)
set_option linter.unusedVariables false
set_option linter.unusedSimpArgs false
set_option linter.defProp false
set_option maxRecDepth 20000
set_option maxHeartbeats 2000000

theorem c_laid {h : Hp} {ls : List Im} {oa : Option Addr} {c C : Nat} {rows wide high : Int} (r : R3 h oa ls) (hn : 0 < ls.length) (hs : ls.length ≤ 64) (hg : ∀ m ∈ ls, Good m) (hsh : ∀ m ∈ ls, shp m = shp (l0 ls)) (hc : 1 ≤ C ∧ C ≤ 8)
    (hw : 1 ≤ wide ∧ wide ≤ 64) (hh : 1 ≤ high ∧ high ≤ 64) :
    ACalls Tryz.prog 76 [.slice oa ls.length c, .int .i64 rows, .int .i64 (C : Int), .int .i64 wide, .int .i64 high] h fun v h' => OI h h' v (tileI ls C wide high) ∧ Fm No h h' := by
  refine dioramaref15_laid_ok.snd Af.hm rfl fun w => ?_
  rw [WF_eq, dioramaref15_laid]
  have hm := mul_ok hw hh
  have g0 := hg _ (List.mem_of_getElem? (l0_at hn))
  have np0 : (l0 ls).pl.length ≤ 1000 := g0.fit.np
  obtain ⟨b0, off0, sp0, ob0, d0, m0, e0, fo0, hm0, hr0, ld0, rm0⟩ := r.at hn
  rw [l0_at hn] at hm0
  cases hm0
  have hn' : (0 : Int) < (ls.length : Int) := by omega
  simp only [imC] at hr0
  have q0 := rdN_get hr0 (i := 0) (v := .int .i64 (l0 ls).wd) rfl
  have q1 := rdN_get hr0 (i := 1) (v := .int .i64 (l0 ls).hg) rfl
  have q2 := rdN_get hr0 (i := 2) (v := .int .i64 (l0 ls).bt) rfl
  have q3 := rdN_get hr0 (i := 3) (v := .slice ob0 (l0 ls).pl.length d0) rfl
  have bw := rdN_wf w hr0
  subst e0
  obtain ⟨ha, ea⟩ : ∃ g, h.new ⟨[.int .i64 0, .int .i64 0, .int .i64 0, .slice none 0 0], .own⟩ = g := ⟨_, rfl⟩
  have wa : Wf ha := ea ▸ w.new
  have fa : Fm No h ha := ea ▸ Fm.new Fm.refl
  have ga : ha.get h.size = some ⟨[.int .i64 0, .int .i64 0, .int .i64 0, .slice none 0 0], .own⟩ := ea ▸ gnew
  have sa : ha.size = h.size + 1 := by rw [← ea]; rfl
  obtain ⟨h0, e0⟩ : ∃ g, ha.new ⟨[.int .i64 wide, .int .i64 high, .int .i64 (l0 ls).bt, .slice none 0 0], .own⟩ = g := ⟨_, rfl⟩
  have w0 : Wf h0 := e0 ▸ wa.new
  have f0a : Fm No ha h0 := e0 ▸ Fm.new Fm.refl
  have gb0 : h0.get ha.size = some ⟨[.int .i64 wide, .int .i64 high, .int .i64 (l0 ls).bt, .slice none 0 0], .own⟩ := e0 ▸ gnew
  have ga0 := f0a.keep wa ga (fun f => f)
  have s0 : h0.size = ha.size + 1 := by rw [← e0]; rfl
  have f0 : Fm No h h0 := fa.trans f0a fun _ _ x => x
  have rdl : ∀ g, Fm (fun z => z = ha.size) h0 g → g.rd b0 (off0 + 0 * 4) = some (.int .i64 (l0 ls).wd) ∧ g.rd b0 (off0 + 0 * 4 + 1) = some (.int .i64 (l0 ls).hg) ∧ g.rd b0 (off0 + 0 * 4 + 2) = some (.int .i64 (l0 ls).bt) ∧ g.rd b0 (off0 + 0 * 4 + 3) = some (.slice ob0 (l0 ls).pl.length d0) ∧ Fm No h g := fun g fg => by
    have fh : Fm No h g := f0.trans fg fun z hz e => by have : z = ha.size := e; omega
    unfold Hp.rd at q0 q1 q2 q3 ⊢
    rw [fh.get _ bw (fun f => f)]
    exact ⟨q0, q1, q2, q3, fh⟩
  have q2a : ha.rd b0 (off0 + 0 * 4 + 2) = some (.int .i64 (l0 ls).bt) := by
    unfold Hp.rd at q2 ⊢
    rw [fa.get _ bw (fun f => f)]
    exact q2
  simp +contextual (disch := omega) only [↓AM, ↓AV, AP, CQ, ea, e0, hn, hn', fo0, q2a]
  refine WL.mk (fun k t h' => ∃ (i : Nat) (oa : Option Addr) (c' : Nat) (bs : Bl), Wf h' ∧ O2 h0 h' oa c' (List.replicate i (List.replicate (wide * high).toNat 0)) bs [] ∧ Fm (fun z => z = ha.size) h0 h' ∧ h'.get ha.size = some ⟨[.int .i64 wide, .int .i64 high, .int .i64 (l0 ls).bt, .slice oa i c'], .own⟩ ∧
      i ≤ (l0 ls).pl.length ∧ k = (l0 ls).pl.length - i ∧ t = [(0, some (.slice (some ⟨b0, off0, sp0⟩) ls.length c)), (2, some (.int .i64 (C : Int))), (3, some (.int .i64 wide)), (4, some (.int .i64 high)), (10, some (.pointer (some ⟨h.size, 0, none⟩))), (11, some (.pointer (some ⟨ha.size, 0, none⟩))), (12, some (.int .i64 (i : Int)))])
    ⟨(l0 ls).pl.length, 0, none, 0, [], w0, O2.nil, Fm.refl, gb0, by omega, rfl, rfl⟩ ?_
  rintro k t h1 ⟨i, oa, c', bs, w1, o1, f1, g1, hi, rfl, rfl⟩
  have hs1 := f1.size
  obtain ⟨p0, p1, p2, p3, fh1⟩ := rdl h1 f1
  by_cases hin : i < (l0 ls).pl.length
  · simp +contextual (disch := omega) only [↓AM, ↓AV, AP, CQ, hin, hn, hn', fo0, p3, rd_mk g1, i64, rep_iV]
    have ow2 := Ow.zeros (h := h1) (n := (wide * high).toNat)
    obtain ⟨h2, e2⟩ : ∃ g, h1.new ⟨iV (List.replicate (wide * high).toNat 0), .own⟩ = g := ⟨_, rfl⟩
    have w2 : Wf h2 := e2 ▸ w1.new
    have f2 : Fm No h1 h2 := e2 ▸ Fm.new Fm.refl
    rw [e2] at ow2
    have oo := o1.out.keep w1 f2 (fun _ _ f => f)
    rw [List.length_replicate, List.length_nil, Nat.add_zero, List.append_nil] at oo
    simp +contextual (disch := omega) only [e2]
    refine ⟨by omega, ?_⟩
    refine oo.push (m := 1) (xs := [.slice (some ⟨h1.size, 0, none⟩) (wide * high).toNat (wide * high).toNat]) w2 rfl (by omega) fun oa' c'' h3 o3 w3 f3 n3 => ?_
    have g2 := f2.keep w1 g1 (fun f => f)
    have hna : ¬ At oa ha.size := fun f => by have := o1.nwO _ f; omega
    have g3 := f3.keep w2 g2 hna
    obtain ⟨h4, e4⟩ : ∃ g, h3.put ha.size ⟨[.int .i64 wide, .int .i64 high, .int .i64 (l0 ls).bt, .slice oa' (i + 1) c''], .own⟩ = g := ⟨_, rfl⟩
    have w4 : Wf h4 := e4 ▸ w3.put (w3.lt g3)
    have f4 : Fm (fun z => z = ha.size) h3 h4 := e4 ▸ Fm.put Fm.refl fun _ => rfl
    have g4 : h4.get ha.size = some ⟨[.int .i64 wide, .int .i64 high, .int .i64 (l0 ls).bt, .slice oa' (i + 1) c''], .own⟩ := e4 ▸ gput
    have f13 : Fm (fun z => z = ha.size) h0 h3 := Fm.nw (f1.trans (f2.mono fun _ _ f => f.elim) fun _ _ x => x) f3 o1.nwO
    have hlr : (List.replicate (wide * high).toNat (0 : Int)).length = (wide * high).toNat := List.length_replicate
    have o3' := o1.push (l := List.replicate (wide * high).toNat 0) (ob := some ⟨h1.size, 0, none⟩) (cc := (wide * high).toNat) w1 hs1 f2 w2 (by rw [hlr]; exact ow2) nw_new (by rw [List.length_replicate, hlr]; exact o3) f3 n3
    have o4 := o3'.keepB w3 f4 (fun z hz => by have : z = ha.size := hz; omega)
    simp +contextual (disch := omega) only [↓AM, ↓AV, AP, CQ, hin, rd_mk g3, g3, spl_S, spl_0, spl_00, e4, i64]
    refine ⟨(l0 ls).pl.length - (i + 1), by omega, i + 1, oa', c'', bs ++ [(some ⟨h1.size, 0, none⟩, (wide * high).toNat)], w4, ?_, f13.trans f4 (fun _ _ x => x), rfl, by omega, rfl, rfl⟩
    rw [List.replicate_succ']
    exact o4
  · have hie : i = (l0 ls).pl.length := by omega
    obtain ⟨z, hz⟩ : ∃ z, zim wide high (l0 ls).bt (l0 ls).pl.length = z := ⟨_, rfl⟩
    have fz : Fit z := hz ▸ zim_fit hw hh np0
    have hzd : z.wd = wide ∧ z.hg = high ∧ z.bt = (l0 ls).bt ∧ z.pl.length = (l0 ls).pl.length := hz ▸ ⟨rfl, rfl, rfl, List.length_replicate⟩
    have eim : ∀ n on cn, imC (tileN ls C z n) on cn = [.int .i64 wide, .int .i64 high, .int .i64 (l0 ls).bt, .slice on (l0 ls).pl.length cn] := fun n on cn => by
      obtain ⟨a, b, c, d⟩ := tileN_hd ls C z n
      obtain ⟨a', b', c', d'⟩ := hzd
      unfold imC
      rw [a, b, c, d, a', b', c', d']
    have htl : ∀ n, (tileN ls C z n).pl.length = (l0 ls).pl.length := fun n => by have := (tileN_hd ls C z n).2.2.2; have := hzd.2.2.2; omega
    have hC0 : ((C : Nat) : Int) ≠ 0 := by omega
    have oz : O2 h0 h1 oa c' (tileN ls C z 0).pl bs [] := by
      show O2 h0 h1 oa c' z.pl bs []
      rw [← hz]
      show O2 h0 h1 oa c' (List.replicate (l0 ls).pl.length (List.replicate (wide * high).toNat 0)) bs []
      rw [← hie]; exact o1
    rw [hie] at g1
    simp +contextual (disch := omega) only [↓AM, ↓AV, AP, CQ, hin, hn, hn', fo0, p3]
    clear o1
    refine WL.mk (fun k t h' => ∃ (i : Nat) (on : Option Addr) (cn : Nat) (bs : Bl), Wf h' ∧ O2 h0 h' on cn (tileN ls C z i).pl bs [] ∧ Fm (fun z => z = ha.size) h0 h' ∧ h'.get ha.size = some ⟨[.int .i64 wide, .int .i64 high, .int .i64 (l0 ls).bt, .slice on (l0 ls).pl.length cn], .own⟩ ∧
        i ≤ ls.length ∧ k = ls.length - i ∧ t = [(0, some (.slice (some ⟨b0, off0, sp0⟩) ls.length c)), (2, some (.int .i64 (C : Int))), (10, some (.pointer (some ⟨h.size, 0, none⟩))), (11, some (.pointer (some ⟨ha.size, 0, none⟩))), (13, some (.int .i64 (i : Int)))])
      ⟨ls.length, 0, oa, c', bs, w1, oz, f1, g1, by omega, rfl, rfl⟩ ?_
    rintro k t h3 ⟨i, on, cn, bs, w3, o3, f3, g3, hi, rfl, rfl⟩
    obtain ⟨p0, p1, p2, p3, fh3⟩ := rdl h3 f3
    have sz3 := f3.size
    have p0n := p0
    have p1n := p1
    simp only [Nat.zero_mul, Nat.add_zero] at p0n p1n
    by_cases hin : i < ls.length
    · obtain ⟨b, off, sp, ob, d, m, e1, fo, hm, hrA, ld, rm⟩ := r.at hin
      cases e1
      have hr : ∀ g, Fm No h g → g.rdN b0 (off0 + i * 4) 4 = some (imC m ob d) := fun g fg => by
        rw [rdN_keep (fg.get _ bw (fun f => f))]; exact hrA
      obtain ⟨Q, hQ⟩ : ∃ Q, i / C = Q := ⟨_, rfl⟩
      obtain ⟨R, hR⟩ : ∃ R, i % C = R := ⟨_, rfl⟩
      have hQ1 : Q ≤ i := hQ ▸ Nat.div_le_self _ _
      have hR1 : R < C := hR ▸ Nat.mod_lt _ (by omega)
      have gm := hg m (List.mem_of_getElem? hm)
      have sm := hsh m (List.mem_of_getElem? hm)
      unfold shp at sm
      simp only [Prod.mk.injEq] at sm
      obtain ⟨sm1, sm2, sm3, sm4⟩ := sm
      have bb1 := mulc (a := (R : Int)) (b := (l0 ls).wd) (n := 8) (by omega) g0.dim.1.1
      have bb2 := mulc (a := (Q : Int)) (b := (l0 ls).hg) (n := 64) (by omega) g0.dim.1.2
      have n3 : h3.rdN ha.size 0 4 = some [.int .i64 wide, .int .i64 high, .int .i64 (l0 ls).bt, .slice on (l0 ls).pl.length cn] := rdN_mk g3 (by simp)
      have hr3 := hr h3 fh3
      simp only [imC] at hr3
      simp +contextual (disch := omega) only [↓AM, ↓AV, AP, CQ, hin, hn, hn', fo, fo0, hr3, n3, p0, p1, p0n, p1n, hC0, tmodN, tdivN, hQ, hR, i64]
      have cp := c_drawn (h := h3) (cv := tileN ls C z i) (m := m) (oa := on) (ob := ob) (c := cn) (d := d) (x := (R : Int) * (l0 ls).wd) (y := (Q : Int) * (l0 ls).hg) o3.r2 (rm.keep w fh3) (tileN_fit fz i) gm.fit (by have := htl i; omega) (by omega) (by omega)
      rw [eim i] at cp
      refine cp.use ?_
      rintro _ h5 w5 ⟨⟨oc, cc, bsc, rfl, o5, l5⟩, f5⟩
      have hdr : drI (tileN ls C z i) m ((R : Int) * (l0 ls).wd) ((Q : Int) * (l0 ls).hg) = tileN ls C z (i + 1) := by
        show _ = drI (tileN ls C z i) (ls.getD i zIm) (((i % C : Nat) : Int) * (l0 ls).wd) (((i / C : Nat) : Int) * (l0 ls).hg)
        rw [getD_im hm, hQ, hR]
      rw [hdr] at o5 l5 ⊢
      rw [eim]
      have f35 := f3.trans (f5.mono fun _ _ f => f.elim) fun _ _ x => x
      obtain ⟨p0', p1', p2', p3', fh5⟩ := rdl h5 f35
      have hr5 := hr h5 fh5
      have p0m := p0'
      have p1m := p1'
      simp only [Nat.zero_mul, Nat.add_zero] at p0m p1m
      simp only [imC] at hr5
      have g5 := f5.keep w3 g3 (fun f => f)
      have n5 : h5.rdN ha.size 0 4 = some [.int .i64 wide, .int .i64 high, .int .i64 (l0 ls).bt, .slice on (l0 ls).pl.length cn] := rdN_mk g5 (by simp)
      obtain ⟨h6, e6⟩ : ∃ g, h5.put ha.size ⟨[.int .i64 wide, .int .i64 high, .int .i64 (l0 ls).bt, .slice oc (l0 ls).pl.length cc], .own⟩ = g := ⟨_, rfl⟩
      have w6 : Wf h6 := e6 ▸ w5.put (w5.lt g5)
      have f6 : Fm (fun z => z = ha.size) h5 h6 := e6 ▸ Fm.put Fm.refl fun _ => rfl
      have g6 : h6.get ha.size = some ⟨[.int .i64 wide, .int .i64 high, .int .i64 (l0 ls).bt, .slice oc (l0 ls).pl.length cc], .own⟩ := e6 ▸ gput
      simp +contextual (disch := omega) only [↓AM, ↓AV, AP, CQ, hr5, n5, p0', p1', p0m, p1m, g5, spl_S, spl_0, spl_00, e6, i64]
      exact ⟨ls.length - (i + 1), by omega, i + 1, oc, cc, bsc, w6, (o5.keepB w5 f6 fun z hz => by have : z = ha.size := hz; omega).older sz3, f35.trans f6 fun _ _ x => x, rfl, by omega, rfl, rfl⟩
    · have hie2 : i = ls.length := by omega
      subst hie2
      have g38 := f3.keep w0 ga0 (fun f => by have : h.size = ha.size := f; omega)
      have n3 : h3.rdN ha.size 0 4 = some [.int .i64 wide, .int .i64 high, .int .i64 (l0 ls).bt, .slice on (l0 ls).pl.length cn] := rdN_mk g3 (by simp)
      obtain ⟨hD, eD⟩ : ∃ g, h3.put h.size ⟨[.int .i64 wide, .int .i64 high, .int .i64 (l0 ls).bt, .slice on (l0 ls).pl.length cn], .own⟩ = g := ⟨_, rfl⟩
      have fD : Fm (fun x => x = h.size) h3 hD := eD ▸ Fm.put Fm.refl fun _ => rfl
      have gD : hD.rdN h.size 0 4 = some [.int .i64 wide, .int .i64 high, .int .i64 (l0 ls).bt, .slice on (l0 ls).pl.length cn] := by rw [← eD]; exact rdN_mk gput (by simp)
      simp +contextual (disch := omega) only [↓AM, ↓AV, AP, CQ, hin, n3, g38, spl_S, spl_0, spl_00, eD, gD]
      have hle := o3.out.le
      rw [htl, List.length_nil, Nat.add_zero] at hle
      refine ⟨⟨on, cn, bs, ?_, ?_, ?_⟩, fh3.trans fD fun z hz hy => by have : z = h.size := hy; omega⟩
      · unfold tileI
        rw [hz, eim]
      · unfold tileI
        rw [hz]
        exact (o3.keepB w3 fD fun z hz => by have : z = h.size := hz; omega).older (by omega)
      · unfold tileI
        rw [hz, htl]
        exact hle
end Go.Proofs.YtmkcngcnedjfkaaGreat.It

/- Grid, the program's and the document's. Plain theorems over the abstract machine.
   Conditions: none. -/
namespace Go.Proofs.YtmkcngcnedjfkaaGreat.It
open Go Go.RowKit Go.Proofs.YtmkcngcnedjfkaaGreat.Am Go.Proofs.YtmkcngcnedjfkaaGreat.Af Go.Proofs.YtmkcngcnedjfkaaGreat.Md
open Go.Proofs.YtmkcngcnedjfkaaGreat.LItemTurns (im_open imK)
set_option linter.unusedVariables false
set_option linter.unusedSimpArgs false
set_option linter.defProp false
set_option maxRecDepth 20000
set_option maxHeartbeats 4000000

/-- The first error of pictures. -/
def firstE : List Im → Int
  | [] => 0
  | m :: l => if pchk m = 0 then firstE l else pchk m
theorem firstE_at : ∀ {ls : List Im} {i : Nat} {m : Im}, (ls.take i).all (fun x => decide (pchk x = 0)) = true → ls[i]? = some m → ¬ pchk m = 0 → firstE ls = pchk m
  | [], i, m, _, h, _ => by simp at h
  | x :: xs, 0, m, _, h, hp => by
    simp at h
    subst h
    exact if_neg hp
  | x :: xs, i + 1, m, ha, h, hp => by
    rw [List.take_succ_cons, List.all_cons, Bool.and_eq_true, decide_eq_true_eq] at ha
    show (if pchk x = 0 then firstE xs else pchk x) = _
    rw [if_pos ha.1]
    exact firstE_at ha.2 (by simpa using h) hp
theorem firstE_all : ∀ {ls : List Im}, ls.all (fun x => decide (pchk x = 0)) = true → firstE ls = 0
  | [], _ => rfl
  | x :: xs, h => by
    rw [List.all_cons, Bool.and_eq_true, decide_eq_true_eq] at h
    show (if pchk x = 0 then firstE xs else pchk x) = 0
    rw [if_pos h.1]
    exact firstE_all h.2
def gridOk (ls : List Im) (rows cols wide high : Int) : Prop := (1 ≤ rows ∧ rows ≤ 8) ∧ (1 ≤ cols ∧ cols ≤ 8) ∧ (1 ≤ wide ∧ wide ≤ 64) ∧ (1 ≤ high ∧ high ≤ 64) ∧ (ls.length : Int) = rows * cols
instance (ls : List Im) (rows cols wide high : Int) : Decidable (gridOk ls rows cols wide high) := by unfold gridOk; infer_instance
def gridE (ls : List Im) (rows cols wide high : Int) : Int := if gridOk ls rows cols wide high then (if firstE ls = 0 then (if fitB ls rows cols wide high then 0 else 151) else firstE ls) else 1
def gridR (ls : List Im) (rows cols wide high : Int) : Im := if gridE ls rows cols wide high = 0 then tileI ls cols.toNat wide high else zIm
theorem gridR_ne {ls : List Im} {rows cols wide high : Int} (h : gridE ls rows cols wide high ≠ 0) : gridR ls rows cols wide high = zIm := if_neg h
theorem gridR_0 {ls : List Im} {rows cols wide high : Int} (h : gridE ls rows cols wide high = 0) : gridR ls rows cols wide high = tileI ls cols.toNat wide high := if_pos h
theorem gridE_1 {ls : List Im} {rows cols wide high : Int} (h : ¬ gridOk ls rows cols wide high) : gridE ls rows cols wide high = 1 := if_neg h
theorem gridE_2 {ls : List Im} {rows cols wide high : Int} (h : gridOk ls rows cols wide high) (h2 : ¬ firstE ls = 0) : gridE ls rows cols wide high = firstE ls := by unfold gridE; rw [if_pos h, if_neg h2]
theorem gridE_3 {ls : List Im} {rows cols wide high : Int} (h : gridOk ls rows cols wide high) (h2 : firstE ls = 0) : gridE ls rows cols wide high = if fitB ls rows cols wide high then 0 else 151 := by unfold gridE; rw [if_pos h, if_pos h2]
theorem fitB_sh {ls : List Im} {rows cols wide high : Int} (h : fitB ls rows cols wide high = true) : ∀ m ∈ ls, shp m = shp (l0 ls) := by
  unfold fitB at h
  rw [Bool.and_eq_true] at h
  exact fun m hm => of_decide_eq_true (List.all_eq_true.1 h.1 m hm)
theorem all_good {ls : List Im} (h : ls.all (fun x => decide (pchk x = 0)) = true) : ∀ m ∈ ls, Good m := fun m hm => pchk_good.1 (of_decide_eq_true (List.all_eq_true.1 h m hm))
theorem flat_take {ls : List Im} {i : Nat} {m : Im} (hm : ls[i]? = some m) : (ls.take (i + 1)).flatMap shC = (ls.take i).flatMap shC ++ shC m := by
  rw [List.take_add_one, hm, List.flatMap_append]
  simp

theorem c_Grid {h : Hp} {ls : List Im} {oa : Option Addr} {c : Nat} {rows cols wide high : Int} (r : R3 h oa ls) (hz : S3 ls) :
    ACalls Tryz.prog 28 [.slice oa ls.length c, .int .i64 rows, .int .i64 cols, .int .i64 wide, .int .i64 high] h fun v h' => (∃ u, v = .tuple #[u, .int .i64 (gridE ls rows cols wide high)] ∧ OI h h' u (gridR ls rows cols wide high)) ∧ Fm No h h' := by
  refine item_Grid_ok.snd Af.hm rfl fun w => ?_
  rw [WF_eq, item_Grid]
  obtain ⟨ha, ea⟩ : ∃ g, h.new ⟨[.int .i64 0, .int .i64 0, .int .i64 0, .slice none 0 0], .own⟩ = g := ⟨_, rfl⟩
  have wa : Wf ha := ea ▸ w.new
  have fa : Fm No h ha := ea ▸ Fm.new Fm.refl
  have ga : ha.get h.size = some ⟨[.int .i64 0, .int .i64 0, .int .i64 0, .slice none 0 0], .own⟩ := ea ▸ gnew
  have sa : ha.size = h.size + 1 := by rw [← ea]; rfl
  have put : ∀ (g : Hp) (x : List Value), Fm No ha g → x.length = 4 → ∃ g', g.put h.size ⟨x, .own⟩ = g' ∧ g.get h.size = some ⟨[.int .i64 0, .int .i64 0, .int .i64 0, .slice none 0 0], .own⟩ ∧ g'.rdN h.size 0 4 = some x ∧ Fm (fun z => z = h.size) g g' ∧ Fm No h g' := fun g x fg hx => by
    have fp : Fm (fun z => z = h.size) g (g.put h.size ⟨x, .own⟩) := Fm.put Fm.refl fun _ => rfl
    refine ⟨_, rfl, fg.keep wa ga (fun f => f), ?_, fp, (fa.trans fg fun _ _ x => x).trans fp fun z hz hy => by have : z = h.size := hy; omega⟩
    rw [rdN_mk gput (by simp [hx])]
    simp [← hx]
  obtain ⟨gz, z1, z2, z3, z4, z5⟩ := put ha [.int .i64 0, .int .i64 0, .int .i64 0, .slice none 0 0] Fm.refl rfl
  have bad : ¬ gridOk ls rows cols wide high → (∃ u, Value.tuple #[.agg #[.int .i64 0, .int .i64 0, .int .i64 0, .slice none 0 0], .int .i64 1] = Value.tuple #[u, .int .i64 (gridE ls rows cols wide high)] ∧ OI h gz u (gridR ls rows cols wide high)) ∧ Fm No h gz := fun hb => by
    have he := gridE_1 hb
    exact ⟨⟨_, by rw [he], by rw [gridR_ne (by rw [he]; decide)]; exact oi_zero⟩, z5⟩
  simp +contextual (disch := omega) only [↓AM, ↓AV, AP, CQ, ea]
  refine c_iw.use ?_
  rintro _ h9 _ ⟨rfl, e9⟩
  subst h9
  by_cases c1 : 1 ≤ rows ∧ rows ≤ 8
  case neg =>
    simp +contextual (disch := omega) only [↓AM, ↓AV, AP, CQ, ea, c1, z2, spl_S, spl_0, spl_00, z1, z3]
    exact bad fun q => c1 q.1
  simp +contextual (disch := omega) only [↓AM, ↓AV, AP, CQ, ea, c1]
  refine c_iw.use ?_
  rintro _ h9 _ ⟨rfl, e9⟩
  subst h9
  by_cases c2 : 1 ≤ cols ∧ cols ≤ 8
  case neg =>
    simp +contextual (disch := omega) only [↓AM, ↓AV, AP, CQ, ea, c1, c2, z2, spl_S, spl_0, spl_00, z1, z3]
    exact bad fun q => c2 q.2.1
  simp +contextual (disch := omega) only [↓AM, ↓AV, AP, CQ, ea, c1, c2]
  refine c_side.use ?_
  rintro _ h9 _ ⟨rfl, e9⟩
  subst h9
  by_cases c3 : 1 ≤ wide ∧ wide ≤ 64
  case neg =>
    simp +contextual (disch := omega) only [↓AM, ↓AV, AP, CQ, ea, c1, c2, c3, z2, spl_S, spl_0, spl_00, z1, z3]
    exact bad fun q => c3 q.2.2.1
  simp +contextual (disch := omega) only [↓AM, ↓AV, AP, CQ, ea, c1, c2, c3]
  refine c_side.use ?_
  rintro _ h9 _ ⟨rfl, e9⟩
  subst h9
  by_cases c4 : 1 ≤ high ∧ high ≤ 64
  case neg =>
    simp +contextual (disch := omega) only [↓AM, ↓AV, AP, CQ, ea, c1, c2, c3, c4, z2, spl_S, spl_0, spl_00, z1, z3]
    exact bad fun q => c4 q.2.2.2.1
  have hrc := mulc (a := rows) (b := cols) (n := 8) (by omega) (by omega)
  by_cases c5 : (ls.length : Int) = rows * cols
  case neg =>
    simp +contextual (disch := omega) only [↓AM, ↓AV, AP, CQ, EqI, ea, c1, c2, c3, c4, c5, i64, z2, spl_S, spl_0, spl_00, z1, z3]
    exact bad fun q => c5 q.2.2.2.2
  have hok : gridOk ls rows cols wide high := ⟨c1, c2, c3, c4, c5⟩
  have hl1 : 0 < ls.length := by
    have : 1 * 1 ≤ rows * cols := Int.mul_le_mul c1.1 c2.1 (by omega) (by omega)
    omega
  have hl64 : ls.length ≤ 64 := by
    have : rows * cols ≤ 8 * 8 := Int.mul_le_mul c1.2 c2.2 (by omega) (by omega)
    omega
  have c5t : ((ls.length : Int) = rows * cols) = True := eq_true c5
  simp +contextual (disch := omega) only [↓AM, ↓AV, AP, CQ, EqI, ea, c1, c2, c3, c4, c5t, i64]
  refine WL.mk (fun k t h' => ∃ (i : Nat) (os : Option Addr) (c2 : Nat), Wf h' ∧ Ow h' 4 os i c2 ((ls.take i).flatMap shC) ∧ (∀ x, At os x → ha.size ≤ x) ∧ Fm No ha h' ∧ i ≤ ls.length ∧ k = ls.length - i ∧ (ls.take i).all (fun x => decide (pchk x = 0)) = true ∧
      t = [(0, some (.slice oa ls.length c)), (1, some (.int .i64 rows)), (2, some (.int .i64 cols)), (3, some (.int .i64 wide)), (4, some (.int .i64 high)), (10, some (.pointer (some ⟨h.size, 0, none⟩))), (12, some (.slice os i c2)), (45, some (.slice oa ls.length c)), (46, some (.int .i64 (ls.length : Int))), (47, some (.int .i64 (i : Int)))])
    ⟨ls.length, 0, none, 0, wa, Ow.mk0, fun x hx => absurd hx At.none, Fm.refl, by omega, rfl, rfl, rfl⟩ ?_
  rintro k t h1 ⟨i, os, c2', w1, o1, n1, f1, hi, rfl, hall, rfl⟩
  have fh1 := fa.trans f1 fun _ _ x => x
  have hs1 := f1.size
  by_cases hin : i < ls.length
  · obtain ⟨b, off, sp, ob, d, m, rfl, fo, hm, hr, ld, rm⟩ := (r.keep w fh1).at hin
    obtain ⟨h2, e2⟩ : ∃ g, h1.new ⟨imC m ob d, .own⟩ = g := ⟨_, rfl⟩
    have w2 : Wf h2 := e2 ▸ w1.new
    have f2 : Fm No h1 h2 := e2 ▸ Fm.new Fm.refl
    have g2 : h2.get h1.size = some ⟨imC m ob d, .own⟩ := e2 ▸ gnew
    have n2 : ∀ g, Fm No h2 g → g.rdN h1.size 0 4 = some (imC m ob d) := fun g fg => rdN_mk (fg.keep w2 g2 (fun f => f)) (by simp [imC])
    simp only [imC] at e2 hr n2
    simp +contextual (disch := omega) only [↓AM, ↓AV, AP, CQ, ea, hin, fo, hr, e2, n2 h2 Fm.refl]
    refine (c_pcheck (rm.keep w1 f2) (hz.2 m (List.mem_of_getElem? hm))).use ?_
    rintro _ h3 w3 ⟨rfl, f3⟩
    have f13 := f2.trans f3 fun _ _ x => x
    have fa3 := f1.trans f13 fun _ _ x => x
    by_cases hp : pchk m = 0
    case neg =>
      obtain ⟨g', k1, k2, k3, k4, k5⟩ := put h3 [.int .i64 0, .int .i64 0, .int .i64 0, .slice none 0 0] fa3 rfl
      simp +contextual (disch := omega) only [↓AM, ↓AV, AP, CQ, EqI, ea, e2, hp, k2, spl_S, spl_0, spl_00, k1, k3]
      have hf := firstE_at hall hm hp
      have he := gridE_2 hok (by rw [hf]; exact hp)
      exact ⟨⟨_, by rw [he, hf], by rw [gridR_ne (by rw [he, hf]; exact hp)]; exact oi_zero⟩, k5⟩
    simp +contextual (disch := omega) only [↓AM, ↓AV, AP, CQ, EqI, ea, e2, hp, n2 h3 f3]
    refine c_shapeOf.use ?_
    rintro _ h4 w4 ⟨rfl, f4⟩
    have f14 := f13.trans f4 fun _ _ x => x
    have o4 := o1.keep w1 f14 (fun _ _ f => f)
    have hsrc : (h4.new ⟨shC m, .own⟩).src 4 (.slice (some ⟨h4.size, 0, none⟩) 1 1) = some (shC m) := Rd.src (Rd.of (sp := none) rfl (rdN_mk gnew (by simp [shC])))
    simp only [shC] at hsrc
    simp +contextual (disch := omega) only [↓AM, ↓AV, AP, CQ, shC, ea, e2, hsrc]
    refine o4.push (bytes := 32) (m := 1) (xs := shC m) w4 rfl (by omega) fun oa' c' h5 o5 w5 f5 n5 => ?_
    have fa4 := f1.trans f14 fun _ _ x => x
    have fa5 : Fm No ha h5 := fa4.trans f5 fun z hz hy => by have := n1 z hy; omega
    simp +contextual (disch := omega) only [↓AM, ↓AV, AP, CQ, ea, e2, i64]
    refine ⟨ls.length - (i + 1), by omega, i + 1, oa', c', w5, ?_, fun x hx => ?_, fa5, by omega, rfl, all_take_S hall hm (decide_eq_true hp), rfl⟩
    · rw [flat_take hm]; exact o5
    · rcases n5 x hx with hx | hx
      · exact n1 x hx
      · have := f14.size; omega
  · have hie : i = ls.length := by omega
    subst hie
    rw [List.take_length] at hall o1
    have hf0 := firstE_all hall
    have hE := gridE_3 hok hf0
    have good := all_good hall
    simp +contextual (disch := omega) only [↓AM, ↓AV, AP, CQ, ea, hin]
    refine (c_gridShape (h := h1) (ls := ls) (os := os) (wide := wide) (high := high) o1.rd hl1 (by omega) (good _ (List.mem_of_getElem? (l0_at hl1))) c1 c2).use ?_
    rintro _ h2 w2 ⟨⟨p, q, s, t, rfl⟩, f2⟩
    obtain ⟨h3, e3⟩ : ∃ g, h2.new ⟨[.int .i64 p, .int .i64 q, .int .i64 s, .int .i64 t], .own⟩ = g := ⟨_, rfl⟩
    have w3 : Wf h3 := e3 ▸ w2.new
    have f3 : Fm No h2 h3 := e3 ▸ Fm.new Fm.refl
    have f13 := f2.trans f3 fun _ _ x => x
    have fa3 := f1.trans f13 fun _ _ x => x
    have fh3 := fh1.trans f13 fun _ _ x => x
    cases hfit : fitB ls rows cols wide high with
    | false =>
      obtain ⟨g', k1, k2, k3, k4, k5⟩ := put h3 [.int .i64 0, .int .i64 0, .int .i64 0, .slice none 0 0] fa3 rfl
      have e151 : (if false = true then (0 : Int) else 151) = 151 := rfl
      have ne151 : ¬ ((151 : Int) = 0) := by decide
      simp +contextual (disch := omega) only [↓AM, ↓AV, AP, CQ, EqI, e151, ne151, ea, e3, k2, spl_S, spl_0, spl_00, k1, k3]
      rw [hfit] at hE
      have he : gridE ls rows cols wide high = 151 := hE
      exact ⟨⟨_, by rw [he], by rw [gridR_ne (by rw [he]; decide)]; exact oi_zero⟩, k5⟩
    | true =>
      rw [hfit] at hE
      have he : gridE ls rows cols wide high = 0 := hE
      have e000 : (if true = true then (0 : Int) else 151) = 0 := rfl
      obtain ⟨C, rfl⟩ : ∃ C : Nat, cols = C := ⟨cols.toNat, by omega⟩
      simp +contextual (disch := omega) only [↓AM, ↓AV, AP, CQ, EqI, It.eqI_self, e000, ea, e3]
      refine (c_tiled (r.keep w fh3) hl1 hl64 good (fitB_sh hfit) (by omega) c3 c4).use ?_
      rintro _ h4 w4 ⟨⟨oc, cc, bsc, rfl, o4, l4⟩, f4⟩
      obtain ⟨g', k1, k2, k3, k4, k5⟩ := put h4 (imC (tileI ls C wide high) oc cc) (fa3.trans f4 fun _ _ x => x) rfl
      simp only [imC] at k1 k3
      simp +contextual (disch := omega) only [↓AM, ↓AV, AP, CQ, imC, ea, e3, k2, spl_S, spl_0, spl_00, k1, k3]
      refine ⟨⟨_, by rw [he], ?_⟩, k5⟩
      rw [gridR_0 he, Int.toNat_natCast]
      exact ⟨oc, cc, bsc, rfl, (o4.keepB w4 k4 fun z hz => by have : z = h.size := hz; have := fa3.size; omega).older fh3.size, l4⟩
end Go.Proofs.YtmkcngcnedjfkaaGreat.It

/- The document's Grid. Plain theorems over the abstract machine.
   Conditions: none. -/
namespace Go.Proofs.YtmkcngcnedjfkaaGreat.It
open Go Go.RowKit Go.Proofs.YtmkcngcnedjfkaaGreat.Am Go.Proofs.YtmkcngcnedjfkaaGreat.Af Go.Proofs.YtmkcngcnedjfkaaGreat.Md
open Go.Proofs.YtmkcngcnedjfkaaGreat.LItemTurns (im_open imK)
set_option linter.unusedVariables false
set_option linter.unusedSimpArgs false
set_option linter.defProp false
set_option maxRecDepth 20000
set_option maxHeartbeats 4000000

theorem c_rGrid {h : Hp} {ls : List Im} {oa : Option Addr} {c : Nat} {rows cols wide high : Int} (r : R3 h oa ls) (hz : S3 ls) :
    ACalls Tryz.prog 29 [.slice oa ls.length c, .int .i64 rows, .int .i64 cols, .int .i64 wide, .int .i64 high] h fun v h' => (∃ u, v = .tuple #[u, .int .i64 (gridE ls rows cols wide high)] ∧ OI h h' u (gridR ls rows cols wide high)) ∧ Fm No h h' := by
  refine dioramaref15_Grid_ok.snd Af.hm rfl fun w => ?_
  rw [WF_eq, dioramaref15_Grid]
  obtain ⟨ha, ea⟩ : ∃ g, h.new ⟨[.int .i64 0, .int .i64 0, .int .i64 0, .slice none 0 0], .own⟩ = g := ⟨_, rfl⟩
  have wa : Wf ha := ea ▸ w.new
  have fa : Fm No h ha := ea ▸ Fm.new Fm.refl
  have ga : ha.get h.size = some ⟨[.int .i64 0, .int .i64 0, .int .i64 0, .slice none 0 0], .own⟩ := ea ▸ gnew
  have sa : ha.size = h.size + 1 := by rw [← ea]; rfl
  have put : ∀ (g : Hp) (x : List Value), Fm No ha g → x.length = 4 → ∃ g', g.put h.size ⟨x, .own⟩ = g' ∧ g.get h.size = some ⟨[.int .i64 0, .int .i64 0, .int .i64 0, .slice none 0 0], .own⟩ ∧ g'.rdN h.size 0 4 = some x ∧ Fm (fun z => z = h.size) g g' ∧ Fm No h g' := fun g x fg hx => by
    have fp : Fm (fun z => z = h.size) g (g.put h.size ⟨x, .own⟩) := Fm.put Fm.refl fun _ => rfl
    refine ⟨_, rfl, fg.keep wa ga (fun f => f), ?_, fp, (fa.trans fg fun _ _ x => x).trans fp fun z hz hy => by have : z = h.size := hy; omega⟩
    rw [rdN_mk gput (by simp [hx])]
    simp [← hx]
  obtain ⟨gz, z1, z2, z3, z4, z5⟩ := put ha [.int .i64 0, .int .i64 0, .int .i64 0, .slice none 0 0] Fm.refl rfl
  have bad : ¬ gridOk ls rows cols wide high → (∃ u, Value.tuple #[.agg #[.int .i64 0, .int .i64 0, .int .i64 0, .slice none 0 0], .int .i64 1] = Value.tuple #[u, .int .i64 (gridE ls rows cols wide high)] ∧ OI h gz u (gridR ls rows cols wide high)) ∧ Fm No h gz := fun hb => by
    have he := gridE_1 hb
    exact ⟨⟨_, by rw [he], by rw [gridR_ne (by rw [he]; decide)]; exact oi_zero⟩, z5⟩
  simp +contextual (disch := omega) only [↓AM, ↓AV, AP, CQ, ea]
  refine c_in15.use ?_
  rintro _ h9 _ ⟨rfl, e9⟩
  subst h9
  by_cases c1 : 1 ≤ rows ∧ rows ≤ 8
  case neg =>
    simp +contextual (disch := omega) only [↓AM, ↓AV, AP, CQ, ea, c1, z2, spl_S, spl_0, spl_00, z1, z3]
    exact bad fun q => c1 q.1
  simp +contextual (disch := omega) only [↓AM, ↓AV, AP, CQ, ea, c1]
  refine c_in15.use ?_
  rintro _ h9 _ ⟨rfl, e9⟩
  subst h9
  by_cases c2 : 1 ≤ cols ∧ cols ≤ 8
  case neg =>
    simp +contextual (disch := omega) only [↓AM, ↓AV, AP, CQ, ea, c1, c2, z2, spl_S, spl_0, spl_00, z1, z3]
    exact bad fun q => c2 q.2.1
  simp +contextual (disch := omega) only [↓AM, ↓AV, AP, CQ, ea, c1, c2]
  refine c_in15.use ?_
  rintro _ h9 _ ⟨rfl, e9⟩
  subst h9
  by_cases c3 : 1 ≤ wide ∧ wide ≤ 64
  case neg =>
    simp +contextual (disch := omega) only [↓AM, ↓AV, AP, CQ, ea, c1, c2, c3, z2, spl_S, spl_0, spl_00, z1, z3]
    exact bad fun q => c3 q.2.2.1
  simp +contextual (disch := omega) only [↓AM, ↓AV, AP, CQ, ea, c1, c2, c3]
  refine c_in15.use ?_
  rintro _ h9 _ ⟨rfl, e9⟩
  subst h9
  by_cases c4 : 1 ≤ high ∧ high ≤ 64
  case neg =>
    simp +contextual (disch := omega) only [↓AM, ↓AV, AP, CQ, ea, c1, c2, c3, c4, z2, spl_S, spl_0, spl_00, z1, z3]
    exact bad fun q => c4 q.2.2.2.1
  have hrc := mulc (a := rows) (b := cols) (n := 8) (by omega) (by omega)
  by_cases c5 : (ls.length : Int) = rows * cols
  case neg =>
    simp +contextual (disch := omega) only [↓AM, ↓AV, AP, CQ, EqI, ea, c1, c2, c3, c4, c5, i64, z2, spl_S, spl_0, spl_00, z1, z3]
    exact bad fun q => c5 q.2.2.2.2
  have hok : gridOk ls rows cols wide high := ⟨c1, c2, c3, c4, c5⟩
  have hl1 : 0 < ls.length := by
    have : 1 * 1 ≤ rows * cols := Int.mul_le_mul c1.1 c2.1 (by omega) (by omega)
    omega
  have hl64 : ls.length ≤ 64 := by
    have : rows * cols ≤ 8 * 8 := Int.mul_le_mul c1.2 c2.2 (by omega) (by omega)
    omega
  have c5t : ((ls.length : Int) = rows * cols) = True := eq_true c5
  simp +contextual (disch := omega) only [↓AM, ↓AV, AP, CQ, EqI, ea, c1, c2, c3, c4, c5t, i64]
  refine WL.mk (fun k t h' => ∃ (i : Nat) (os : Option Addr) (c2 : Nat), Wf h' ∧ Ow h' 4 os i c2 ((ls.take i).flatMap shC) ∧ (∀ x, At os x → ha.size ≤ x) ∧ Fm No ha h' ∧ i ≤ ls.length ∧ k = ls.length - i ∧ (ls.take i).all (fun x => decide (pchk x = 0)) = true ∧
      t = [(0, some (.slice oa ls.length c)), (1, some (.int .i64 rows)), (2, some (.int .i64 cols)), (3, some (.int .i64 wide)), (4, some (.int .i64 high)), (10, some (.pointer (some ⟨h.size, 0, none⟩))), (12, some (.slice os i c2)), (13, some (.int .i64 (i : Int)))])
    ⟨ls.length, 0, none, 0, wa, Ow.mk0, fun x hx => absurd hx At.none, Fm.refl, by omega, rfl, rfl, rfl⟩ ?_
  rintro k t h1 ⟨i, os, c2', w1, o1, n1, f1, hi, rfl, hall, rfl⟩
  have fh1 := fa.trans f1 fun _ _ x => x
  have hs1 := f1.size
  by_cases hin : i < ls.length
  · obtain ⟨b, off, sp, ob, d, m, rfl, fo, hm, hr, ld, rm⟩ := (r.keep w fh1).at hin
    have bw := rdN_wf w1 hr
    have hrg : ∀ g, Fm No h1 g → g.rdN b (off + i * 4) 4 = some (imC m ob d) := fun g fg => by
      rw [rdN_keep (fg.get _ bw (fun f => f))]; exact hr
    simp only [imC] at hr hrg
    simp +contextual (disch := omega) only [↓AM, ↓AV, AP, CQ, ea, hin, fo, hr]
    refine (c_rcheck rm (hz.2 m (List.mem_of_getElem? hm))).use ?_
    rintro _ h3 w3 ⟨rfl, f13⟩
    have fa3 := f1.trans f13 fun _ _ x => x
    by_cases hp : pchk m = 0
    case neg =>
      obtain ⟨g', k1, k2, k3, k4, k5⟩ := put h3 [.int .i64 0, .int .i64 0, .int .i64 0, .slice none 0 0] fa3 rfl
      simp +contextual (disch := omega) only [↓AM, ↓AV, AP, CQ, EqI, ea, hp, k2, spl_S, spl_0, spl_00, k1, k3]
      have hf := firstE_at hall hm hp
      have he := gridE_2 hok (by rw [hf]; exact hp)
      exact ⟨⟨_, by rw [he, hf], by rw [gridR_ne (by rw [he, hf]; exact hp)]; exact oi_zero⟩, k5⟩
    simp +contextual (disch := omega) only [↓AM, ↓AV, AP, CQ, EqI, ea, hin, fo, hp, hrg h3 f13]
    refine c_of.use ?_
    rintro _ h4 w4 ⟨rfl, f4⟩
    have f14 := f13.trans f4 fun _ _ x => x
    have o4 := o1.keep w1 f14 (fun _ _ f => f)
    have hsrc : (h4.new ⟨shC m, .own⟩).src 4 (.slice (some ⟨h4.size, 0, none⟩) 1 1) = some (shC m) := Rd.src (Rd.of (sp := none) rfl (rdN_mk gnew (by simp [shC])))
    simp only [shC] at hsrc
    simp +contextual (disch := omega) only [↓AM, ↓AV, AP, CQ, shC, ea, hsrc]
    refine o4.push (bytes := 32) (m := 1) (xs := shC m) w4 rfl (by omega) fun oa' c' h5 o5 w5 f5 n5 => ?_
    have fa4 := f1.trans f14 fun _ _ x => x
    have fa5 : Fm No ha h5 := fa4.trans f5 fun z hz hy => by have := n1 z hy; omega
    simp +contextual (disch := omega) only [↓AM, ↓AV, AP, CQ, ea, i64]
    refine ⟨ls.length - (i + 1), by omega, i + 1, oa', c', w5, ?_, fun x hx => ?_, fa5, by omega, rfl, all_take_S hall hm (decide_eq_true hp), rfl⟩
    · rw [flat_take hm]; exact o5
    · rcases n5 x hx with hx | hx
      · exact n1 x hx
      · have := f14.size; omega
  · have hie : i = ls.length := by omega
    subst hie
    rw [List.take_length] at hall o1
    have hf0 := firstE_all hall
    have hE := gridE_3 hok hf0
    have good := all_good hall
    simp +contextual (disch := omega) only [↓AM, ↓AV, AP, CQ, ea, hin]
    refine (c_gridFits (h := h1) (ls := ls) (os := os) (wide := wide) (high := high) o1.rd hl1 (by omega) (good _ (List.mem_of_getElem? (l0_at hl1))) c1 c2).use ?_
    rintro _ h2 w2 ⟨rfl, e2⟩
    subst h2
    cases hfit : fitB ls rows cols wide high with
    | false =>
      obtain ⟨g', k1, k2, k3, k4, k5⟩ := put h1 [.int .i64 0, .int .i64 0, .int .i64 0, .slice none 0 0] f1 rfl
      simp +contextual (disch := omega) only [↓AM, ↓AV, AP, CQ, EqI, ea, hfit, k2, spl_S, spl_0, spl_00, k1, k3]
      rw [hfit] at hE
      have he : gridE ls rows cols wide high = 151 := hE
      exact ⟨⟨_, by rw [he], by rw [gridR_ne (by rw [he]; decide)]; exact oi_zero⟩, k5⟩
    | true =>
      rw [hfit] at hE
      have he : gridE ls rows cols wide high = 0 := hE
      obtain ⟨C, rfl⟩ : ∃ C : Nat, cols = C := ⟨cols.toNat, by omega⟩
      simp +contextual (disch := omega) only [↓AM, ↓AV, AP, CQ, EqI, It.eqI_self, ea, hfit]
      refine (c_laid (rows := rows) (r.keep w fh1) hl1 hl64 good (fitB_sh hfit) (by omega) c3 c4).use ?_
      rintro _ h4 w4 ⟨⟨oc, cc, bsc, rfl, o4, l4⟩, f4⟩
      obtain ⟨g', k1, k2, k3, k4, k5⟩ := put h4 (imC (tileI ls C wide high) oc cc) (f1.trans f4 fun _ _ x => x) rfl
      simp only [imC] at k1 k3
      simp +contextual (disch := omega) only [↓AM, ↓AV, AP, CQ, imC, ea, k2, spl_S, spl_0, spl_00, k1, k3]
      refine ⟨⟨_, by rw [he], ?_⟩, k5⟩
      rw [gridR_0 he, Int.toNat_natCast]
      exact ⟨oc, cc, bsc, rfl, (o4.keepB w4 k4 fun z hz => by have : z = h.size := hz; have := f1.size; omega).older fh1.size, l4⟩
end Go.Proofs.YtmkcngcnedjfkaaGreat.It

/- A picture cut into parts, and put together again. Plain theorems.
   Conditions: none. -/
namespace Go.Proofs.YtmkcngcnedjfkaaGreat.It
open Go Go.RowKit Go.Proofs.YtmkcngcnedjfkaaGreat.Am Go.Proofs.YtmkcngcnedjfkaaGreat.Af Go.Proofs.YtmkcngcnedjfkaaGreat.Md
set_option linter.unusedVariables false
set_option linter.unusedSimpArgs false
set_option maxRecDepth 20000
set_option maxHeartbeats 2000000

/-- A plane's part at (x, y). -/
def prt (W H w h x y : Nat) (l : List Int) : List Int := (List.range (w * h)).map fun k => if x + k % w < W ∧ y + k / w < H then l.getD ((y + k / w) * W + (x + k % w)) 0 else 0
theorem prt_len {W H w h x y : Nat} {l : List Int} : (prt W H w h x y l).length = w * h := by simp [prt]
def partP (m : Im) (x y w h : Nat) : Im := ((w : Int), (h : Int), m.bt, m.pl.map (prt m.w m.h w h x y))
theorem partP_good {m : Im} (g : Good m) {x y w h : Nat} (hw : 1 ≤ w ∧ w ≤ 64) (hh : 1 ≤ h ∧ h ≤ 64) : Good (partP m x y w h) := by
  have hl : (partP m x y w h).pl.length = m.pl.length := by show (m.pl.map _).length = _; rw [List.length_map]
  refine ⟨⟨⟨?_, ?_⟩, g.dim.2.1, ?_⟩, fun l hl => ?_, fun l hl v hv => ?_⟩
  · show 1 ≤ (w : Int) ∧ (w : Int) ≤ 64; omega
  · show 1 ≤ (h : Int) ∧ (h : Int) ≤ 64; omega
  · rw [hl]; exact g.dim.2.2
  · obtain ⟨a, ha, rfl⟩ := List.mem_map.1 hl
    rw [prt_len]
    show ((w * h : Nat) : Int) = (w : Int) * (h : Int)
    exact Int.natCast_mul w h
  · obtain ⟨a, ha, rfl⟩ := List.mem_map.1 hl
    obtain ⟨k, hk, rfl⟩ := List.mem_map.1 hv
    show badPix m.bt _ = false
    have h0 : badPix m.bt 0 = false := by
      have : 0 ≤ topOf m.bt := by
        unfold topOf
        have : (1 : Int) ≤ 2 ^ m.bt.toNat := by exact_mod_cast Nat.one_le_two_pow
        omega
      unfold badPix
      exact decide_eq_false fun q => q ⟨Int.le_refl _, this⟩
    split
    · rename_i hc
      have hlt : (y + k / w) * m.w + (x + k % w) < a.length := by rw [g.len_eq ha]; exact at_lt hc.1 hc.2
      rw [getD_of (List.getElem?_eq_getElem hlt)]
      exact g.pix a ha _ (List.getElem_mem hlt)
    · exact h0
def idx (W w h C t : Nat) : Nat := t / W / h * C + t % W / w
def mid (m : Im) (w h C n : Nat) : Im := (m.wd, m.hg, m.bt, m.pl.map fun l => (List.range (m.w * m.h)).map fun t => if idx m.w w h C t < n then l.getD t 0 else 0)
theorem mid_0 {m : Im} (g : Good m) {w h C : Nat} : mid m w h C 0 = zim m.wd m.hg m.bt m.pl.length := by
  unfold mid zim
  congr 3
  apply List.ext_getElem?
  intro i
  by_cases hi : i < m.pl.length
  · rw [List.getElem?_map, List.getElem?_eq_getElem hi, Option.map_some, List.getElem?_replicate_of_lt hi]
    congr 1
    have hn : (m.wd * m.hg).toNat = m.w * m.h := by rw [g.w_eq.1, g.h_eq.1, ← Int.natCast_mul, Int.toNat_natCast]
    rw [hn]
    apply List.ext_getElem?
    intro t
    by_cases ht : t < m.w * m.h
    · rw [List.getElem?_map, List.getElem?_range ht, Option.map_some, if_neg (by omega), List.getElem?_replicate_of_lt ht]
    · rw [List.getElem?_eq_none (by simp; omega), List.getElem?_eq_none (by simp; omega)]
  · rw [List.getElem?_eq_none (by simp; omega), List.getElem?_eq_none (by simp; omega)]
theorem mid_all {m : Im} (g : Good m) {w h C R : Nat} (hC : m.w ≤ C * w) (hR : m.h ≤ R * h) (pw : 1 ≤ w) (ph : 1 ≤ h) : mid m w h C (R * C) = m := by
  have : (m.pl.map fun l => (List.range (m.w * m.h)).map fun t => if idx m.w w h C t < R * C then l.getD t 0 else 0) = m.pl := by
    conv => rhs; rw [← List.map_id m.pl]
    apply List.map_congr_left
    intro l hl
    have hle := g.len_eq hl
    apply List.ext_getElem?
    intro t
    by_cases ht : t < m.w * m.h
    · have h1 : t % m.w / w < C := Nat.div_lt_of_lt_mul (by have := Nat.mod_lt t (show 0 < m.w by have := g.w_eq; omega); rw [Nat.mul_comm]; omega)
      have h2 : t / m.w / h < R := Nat.div_lt_of_lt_mul (by have : t / m.w < m.h := Nat.div_lt_of_lt_mul ht; rw [Nat.mul_comm]; omega)
      have h3 : idx m.w w h C t < R * C := by
        unfold idx
        have := at_lt h1 h2
        rw [Nat.mul_comm C R] at this
        exact this
      rw [List.getElem?_map, List.getElem?_range ht, Option.map_some, if_pos h3, id, List.getElem?_eq_getElem (by omega)]
      simp [List.getD, List.getElem?_eq_getElem (show t < l.length by omega)]
    · rw [List.getElem?_eq_none (by simp; omega), List.getElem?_eq_none (by rw [id]; omega)]
  unfold mid
  rw [this]
theorem div_iff {a w q : Nat} (pw : 1 ≤ w) : a / w = q ↔ q * w ≤ a ∧ a < q * w + w := by
  rw [Nat.div_eq_iff (by omega)]
  constructor
  · intro ⟨h1, h2⟩; exact ⟨h1, by omega⟩
  · intro ⟨h1, h2⟩; exact ⟨h1, by omega⟩
theorem mid_step {m : Im} (g : Good m) {w h C n : Nat} (pw : 1 ≤ w) (ph : 1 ≤ h) (hC : m.w ≤ C * w) (pC : 1 ≤ C) :
    drI (mid m w h C n) (partP m (n % C * w) (n / C * h) w h) (((n % C : Nat) : Int) * (w : Int)) (((n / C : Nat) : Int) * (h : Int)) = mid m w h C (n + 1) := by
  have hml : (mid m w h C n).pl.length = m.pl.length := by show (m.pl.map _).length = _; rw [List.length_map]
  have key : drA m.w m.h w h (((n % C : Nat) : Int) * (w : Int)) (((n / C : Nat) : Int) * (h : Int)) (mid m w h C n).pl (partP m (n % C * w) (n / C * h) w h).pl = m.pl.map fun l => (List.range (m.w * m.h)).map fun t => if idx m.w w h C t < n + 1 then l.getD t 0 else 0 := by
   unfold drA
   apply List.ext_getElem?
   intro p
   by_cases hp : p < m.pl.length
   · rw [stD, List.getElem?_map, List.getElem?_range (by rw [hml]; exact hp), Option.map_some, if_pos (by rw [hml]; exact hp), List.getElem?_map, List.getElem?_eq_getElem hp, Option.map_some]
     congr 1
     have hm := List.getElem_mem hp
     generalize hl : m.pl[p] = l at hm
     have e1 : (mid m w h C n).pl.getD p [] = (List.range (m.w * m.h)).map fun t => if idx m.w w h C t < n then l.getD t 0 else 0 := by
       show (m.pl.map _).getD p [] = _
       simp [List.getD, List.getElem?_eq_getElem hp, hl]
     have e2 : (partP m (n % C * w) (n / C * h) w h).pl.getD p [] = prt m.w m.h w h (n % C * w) (n / C * h) l := by
       show (m.pl.map _).getD p [] = _
       simp [List.getD, List.getElem?_eq_getElem hp, hl]
     rw [e1, e2]
     unfold drw
     apply List.map_congr_left
     intro t ht
     have ht := List.mem_range.1 ht
     have hW : 0 < m.w := by have := g.w_eq; omega
     have tm : t % m.w < m.w := Nat.mod_lt _ hW
     have td : t / m.w < m.h := Nat.div_lt_of_lt_mul ht
     have tq : t % m.w / w < C := Nat.div_lt_of_lt_mul (by rw [Nat.mul_comm]; omega)
     have nq : n % C < C := Nat.mod_lt _ (by omega)
     have te : t / m.w * m.w + t % m.w = t := at_eq
     have ne : n / C * C + n % C = n := at_eq
     have d1 := div_iff (a := t % m.w) (w := w) (q := n % C) pw
     have d2 := div_iff (a := t / m.w) (w := h) (q := n / C) ph
     have hlt : t < ((List.range (m.w * m.h)).map fun t => if idx m.w w h C t < n then l.getD t 0 else 0).length := by simp; exact ht
     have e3 : ((List.range (m.w * m.h)).map fun t => if idx m.w w h C t < n then l.getD t 0 else 0).getD t 0 = if idx m.w w h C t < n then l.getD t 0 else 0 := by
       simp [List.getD, List.getElem?_range ht]
     rw [e3]
     rw [← Int.natCast_mul, ← Int.natCast_mul]
     generalize hX : n % C * w = X at *
     generalize hY : n / C * h = Y at *
     generalize hu : t % m.w = u at *
     generalize hv : t / m.w = v at *
     by_cases hin : u / w = n % C ∧ v / h = n / C
     · obtain ⟨i1, i2⟩ := hin
       obtain ⟨j1, j2⟩ := d1.1 i1
       obtain ⟨j3, j4⟩ := d2.1 i2
       have hi : idx m.w w h C t = n := by unfold idx; rw [hu, hv, i1, i2]; exact ne
       have a1 : ((u : Int) - (X : Int)).toNat = u - X := by omega
       have a2 : ((v : Int) - (Y : Int)).toNat = v - Y := by omega
       have hk : (v - Y) * w + (u - X) < w * h := at_lt (by omega) (by omega)
       rw [a1, a2, if_pos ⟨by omega, by omega, by omega, by omega, hk⟩, if_pos (by omega)]
       have e4 : (prt m.w m.h w h X Y l).getD ((v - Y) * w + (u - X)) 0 = if X + (u - X) < m.w ∧ Y + (v - Y) < m.h then l.getD ((Y + (v - Y)) * m.w + (X + (u - X))) 0 else 0 := by
         unfold prt
         simp [List.getD, List.getElem?_range hk, at_mod (show u - X < w by omega), at_div (show u - X < w by omega)]
       rw [e4, if_pos ⟨by omega, by omega⟩, show Y + (v - Y) = v by omega, show X + (u - X) = u by omega, te]
     · have hi : idx m.w w h C t ≠ n := fun e => by
         unfold idx at e
         rw [hu, hv, ← ne] at e
         obtain ⟨e1, e2⟩ := dm_lt tq nq e
         exact hin ⟨e1, e2⟩
       rw [if_neg (fun q => by
         apply hin
         exact ⟨d1.2 ⟨by omega, by omega⟩, d2.2 ⟨by omega, by omega⟩⟩)]
       by_cases hlt2 : idx m.w w h C t < n
       · rw [if_pos hlt2, if_pos (by omega)]
       · rw [if_neg hlt2, if_neg (by omega)]
   · rw [List.getElem?_eq_none (by rw [stD_len, hml]; omega), List.getElem?_eq_none (by simp; omega)]
  show ((m.wd, m.hg, m.bt, drA m.w m.h w h (((n % C : Nat) : Int) * (w : Int)) (((n / C : Nat) : Int) * (h : Int)) (mid m w h C n).pl (partP m (n % C * w) (n / C * h) w h).pl) : Im) = _
  rw [key]
  rfl
/-- The parts, row after row. -/
def partsL (m : Im) (w h C N : Nat) : List Im := (List.range N).map fun n => partP m (n % C * w) (n / C * h) w h
theorem partsL_len {m : Im} {w h C N : Nat} : (partsL m w h C N).length = N := by simp [partsL]
theorem partsL_get {m : Im} {w h C N n : Nat} (hn : n < N) : (partsL m w h C N)[n]? = some (partP m (n % C * w) (n / C * h) w h) := by
  rw [partsL, List.getElem?_map, List.getElem?_range hn]; rfl
theorem partsL_S {m : Im} {w h C N : Nat} : partsL m w h C (N + 1) = partsL m w h C N ++ [partP m (N % C * w) (N / C * h) w h] := by
  unfold partsL
  rw [List.range_succ, List.map_append]; rfl
theorem tile_mid {m : Im} (g : Good m) {w h C N : Nat} (pw : 1 ≤ w) (ph : 1 ≤ h) (hC : m.w ≤ C * w) (pC : 1 ≤ C) (pN : 0 < N) : ∀ n, n ≤ N → tileN (partsL m w h C N) C (mid m w h C 0) n = mid m w h C n
  | 0, _ => rfl
  | n + 1, hn => by
    show drI (tileN (partsL m w h C N) C (mid m w h C 0) n) ((partsL m w h C N).getD n zIm) (((n % C : Nat) : Int) * (l0 (partsL m w h C N)).wd) (((n / C : Nat) : Int) * (l0 (partsL m w h C N)).hg) = _
    rw [tile_mid g pw ph hC pC pN n (by omega), getD_im (partsL_get (by omega))]
    have : l0 (partsL m w h C N) = partP m (0 % C * w) (0 / C * h) w h := getD_im (partsL_get pN)
    rw [this]
    exact mid_step g pw ph hC pC
theorem parts_grid {m : Im} (g : Good m) {w h C R : Nat} (hw : 1 ≤ w ∧ w ≤ 64) (hh : 1 ≤ h ∧ h ≤ 64) (hC : 1 ≤ C ∧ C ≤ 8) (hR : 1 ≤ R ∧ R ≤ 8) (c1 : (C - 1) * w < m.w) (c2 : m.w ≤ C * w) (r1 : (R - 1) * h < m.h) (r2 : m.h ≤ R * h) :
    gridE (partsL m w h C (R * C)) (R : Int) (C : Int) m.wd m.hg = 0 ∧ gridR (partsL m w h C (R * C)) (R : Int) (C : Int) m.wd m.hg = m := by
  have pN : 0 < R * C := Nat.mul_pos (by omega) (by omega)
  have hl0 : l0 (partsL m w h C (R * C)) = partP m (0 % C * w) (0 / C * h) w h := getD_im (partsL_get pN)
  have allp : ∀ x ∈ partsL m w h C (R * C), ∃ a b, x = partP m a b w h := fun x hx => by
    obtain ⟨n, _, rfl⟩ := List.mem_map.1 hx
    exact ⟨_, _, rfl⟩
  have hok : gridOk (partsL m w h C (R * C)) (R : Int) (C : Int) m.wd m.hg := by
    refine ⟨by omega, by omega, g.dim.1.1, g.dim.1.2, ?_⟩
    rw [partsL_len, Int.natCast_mul]
  have hf : firstE (partsL m w h C (R * C)) = 0 := firstE_all (List.all_eq_true.2 fun x hx => by
    obtain ⟨a, b, rfl⟩ := allp x hx
    exact decide_eq_true (pchk_good.2 (partP_good g hw hh)))
  have shc : ∀ a b, shp (partP m a b w h) = ((w : Int), (h : Int), m.bt, (m.pl.length : Int)) := fun a b => by
    show ((w : Int), (h : Int), m.bt, ((m.pl.map _).length : Int)) = _
    rw [List.length_map]
  have ncast : ∀ a b : Nat, 1 ≤ a → ((a : Int) - 1) * (b : Int) = (((a - 1) * b : Nat) : Int) := fun a b ha => by rw [Int.natCast_mul]; congr 1; omega
  have hfit : fitB (partsL m w h C (R * C)) (R : Int) (C : Int) m.wd m.hg = true := by
    unfold fitB
    rw [Bool.and_eq_true, List.all_eq_true]
    refine ⟨fun x hx => ?_, ?_⟩
    · obtain ⟨a, b, rfl⟩ := allp x hx
      rw [hl0, shc, shc]
      exact decide_eq_true rfl
    · rw [hl0]
      show (covB C (w : Int) m.wd && covB R (h : Int) m.hg) = true
      unfold covB
      rw [g.w_eq.1, g.h_eq.1, ncast C w hC.1, ncast R h hR.1, ← Int.natCast_mul, ← Int.natCast_mul, decide_eq_true (by omega), decide_eq_true (by omega), decide_eq_true (by omega), decide_eq_true (by omega)]
      rfl
  have hE : gridE (partsL m w h C (R * C)) (R : Int) (C : Int) m.wd m.hg = 0 := by rw [gridE_3 hok hf, hfit]; rfl
  refine ⟨hE, ?_⟩
  rw [gridR_0 hE, Int.toNat_natCast]
  unfold tileI
  rw [hl0]
  have hz : zim m.wd m.hg (partP m (0 % C * w) (0 / C * h) w h).bt (partP m (0 % C * w) (0 / C * h) w h).pl.length = mid m w h C 0 := by
    rw [mid_0 g]
    show zim m.wd m.hg m.bt (m.pl.map _).length = _
    rw [List.length_map]
  rw [hz, partsL_len, tile_mid g hw.1 hh.1 c2 hC.1 pN _ (Nat.le_refl _)]
  exact mid_all g c2 r2 hw.1 hh.1
end Go.Proofs.YtmkcngcnedjfkaaGreat.It

/- The law's part of a picture. Plain theorems over the abstract machine.
   Conditions: none. -/
namespace Go.Proofs.YtmkcngcnedjfkaaGreat.It
open Go Go.RowKit Go.Proofs.YtmkcngcnedjfkaaGreat.Am Go.Proofs.YtmkcngcnedjfkaaGreat.Af Go.Proofs.YtmkcngcnedjfkaaGreat.Md
set_option linter.unusedVariables false
set_option linter.unusedSimpArgs false
set_option linter.defProp false
set_option maxRecDepth 20000
set_option maxHeartbeats 4000000

/-- The first k numbers of L, and zeros. -/
def ptk (L : List Int) (N k : Nat) : List Int := L.take k ++ List.replicate (N - k) 0
theorem ptk_len {L : List Int} {N k : Nat} (hL : L.length = N) (hk : k ≤ N) : (ptk L N k).length = N := by
  unfold ptk
  rw [List.length_append, List.length_take, List.length_replicate]; omega
theorem ptk_0 {L : List Int} {N : Nat} : ptk L N 0 = List.replicate N 0 := by simp [ptk]
theorem ptk_N {L : List Int} {N : Nat} (hL : L.length = N) : ptk L N N = L := by
  unfold ptk
  rw [List.take_of_length_le (by omega), Nat.sub_self, List.replicate_zero, List.append_nil]
theorem ptk_step {L : List Int} {N k : Nat} {v : Int} (hL : L.length = N) (hv : L[k]? = some v) : (ptk L N k).set k v = ptk L N (k + 1) := by
  have hk : k < N := by have := (List.getElem?_eq_some_iff.1 hv).1; omega
  have hl : (L.take k).length = k := by rw [List.length_take]; omega
  unfold ptk
  rw [List.set_append_right _ _ (by omega), hl, Nat.sub_self, List.take_add_one, hv, show N - k = (N - (k + 1)) + 1 by omega, List.replicate_succ, List.set_cons_zero]
  simp
theorem ptk_skip {L : List Int} {N k : Nat} (hL : L.length = N) (hv : L[k]? = some 0) : ptk L N k = ptk L N (k + 1) := by
  rw [← ptk_step hL hv]
  have hk : k < N := by have := (List.getElem?_eq_some_iff.1 hv).1; omega
  have hl : (L.take k).length = k := by rw [List.length_take]; omega
  apply List.ext_getElem?
  intro j
  rw [List.getElem?_set]
  by_cases e : k = j
  · subst e
    rw [if_pos rfl, if_pos (by rw [ptk_len hL (by omega)]; exact hk)]
    unfold ptk
    rw [List.getElem?_append_right (by omega), hl, Nat.sub_self, List.getElem?_replicate_of_lt (by omega)]
  · rw [if_neg e]
theorem prt_at {W H w h x y k : Nat} {l : List Int} (hk : k < w * h) : (prt W H w h x y l)[k]? = some (if x + k % w < W ∧ y + k / w < H then l.getD ((y + k / w) * W + (x + k % w)) 0 else 0) := by
  rw [prt, List.getElem?_map, List.getElem?_range hk]; rfl
theorem c_part {h : Hp} {m : Im} {ob : Option Addr} {d : Nat} {X Y w hh : Nat} (r : R2 h ob m.pl) (g : Good m) (hw : 1 ≤ w ∧ w ≤ 64) (hh' : 1 ≤ hh ∧ hh ≤ 64) (hX : X ≤ 10000) (hY : Y ≤ 10000) :
    ACalls Tryz.prog 31 [.agg (imC m ob d).toArray, .int .i64 (X : Int), .int .i64 (Y : Int), .int .i64 (w : Int), .int .i64 (hh : Int)] h fun v h' => OI h h' v (partP m X Y w hh) ∧ Fm No h h' := by
  refine dioramalaw15_part_ok.snd Af.hm rfl fun wf => ?_
  rw [WF_eq, dioramalaw15_part]
  have hpart : partP m X Y w hh = ((w : Int), (hh : Int), m.bt, m.pl.map (prt m.w m.h w hh X Y)) := rfl
  rw [hpart]
  have fm := g.fit
  obtain ⟨hWe, _, hW64⟩ := fm.we
  obtain ⟨hHe, _, hH64⟩ := fm.he
  have hml := fm.len
  have np := fm.np
  obtain ⟨wi, hgi, bi, pl⟩ := m
  simp only [Im.wd, Im.hg, Im.bt, Im.pl] at *
  generalize (Im.w (wi, hgi, bi, pl)) = W at *
  generalize (Im.h (wi, hgi, bi, pl)) = H at *
  subst hWe hHe
  have hN : w * hh ≤ 4096 := Nat.mul_le_mul hw.2 hh'.2
  have hWH : W * H ≤ 4096 := Nat.mul_le_mul hW64 hH64
  have hw0 : ((w : Nat) : Int) ≠ 0 := by omega
  obtain ⟨ha, ea⟩ : ∃ g, h.new ⟨[.int .i64 (W : Int), .int .i64 (H : Int), .int .i64 bi, .slice ob pl.length d], .own⟩ = g := ⟨_, rfl⟩
  have wa : Wf ha := ea ▸ wf.new
  have fa : Fm No h ha := ea ▸ Fm.new Fm.refl
  have ga : ha.get h.size = some ⟨[.int .i64 (W : Int), .int .i64 (H : Int), .int .i64 bi, .slice ob pl.length d], .own⟩ := ea ▸ gnew
  have sa : ha.size = h.size + 1 := by rw [← ea]; rfl
  obtain ⟨hb, eb⟩ : ∃ g, ha.new ⟨[.int .i64 0, .int .i64 0, .int .i64 0, .slice none 0 0], .own⟩ = g := ⟨_, rfl⟩
  have wb : Wf hb := eb ▸ wa.new
  have fb : Fm No ha hb := eb ▸ Fm.new Fm.refl
  have gb : hb.get ha.size = some ⟨[.int .i64 0, .int .i64 0, .int .i64 0, .slice none 0 0], .own⟩ := eb ▸ gnew
  have sb : hb.size = ha.size + 1 := by rw [← eb]; rfl
  have gab := fb.keep wa ga (fun f => f)
  obtain ⟨h0, e0⟩ : ∃ g, hb.new ⟨[.int .i64 (w : Int), .int .i64 (hh : Int), .int .i64 bi, .slice none 0 0], .own⟩ = g := ⟨_, rfl⟩
  have w0 : Wf h0 := e0 ▸ wb.new
  have f0b : Fm No hb h0 := e0 ▸ Fm.new Fm.refl
  have g0 : h0.get hb.size = some ⟨[.int .i64 (w : Int), .int .i64 (hh : Int), .int .i64 bi, .slice none 0 0], .own⟩ := e0 ▸ gnew
  have s0 : h0.size = hb.size + 1 := by rw [← e0]; rfl
  have ga0 := f0b.keep wb gab (fun f => f)
  have gb0 := f0b.keep wb gb (fun f => f)
  have fh0 : Fm No h h0 := (fa.trans fb fun _ _ x => x).trans f0b fun _ _ x => x
  have keep : ∀ g, Fm (fun z => z = hb.size) h0 g → g.get h.size = some ⟨[.int .i64 (W : Int), .int .i64 (H : Int), .int .i64 bi, .slice ob pl.length d], .own⟩ ∧ g.get ha.size = some ⟨[.int .i64 0, .int .i64 0, .int .i64 0, .slice none 0 0], .own⟩ ∧ R2 g ob pl ∧ Fm No h g := fun g fg => by
    have fh : Fm No h g := fh0.trans fg fun z hz e => by have : z = hb.size := e; omega
    exact ⟨fg.keep w0 ga0 fun e => by have : h.size = hb.size := e; omega, fg.keep w0 gb0 fun e => by have : ha.size = hb.size := e; omega, r.keep wf fh, fh⟩
  simp +contextual (disch := omega) only [↓AM, ↓AV, AP, CQ, imC, Im.wd, Im.hg, Im.bt, Im.pl, ea, eb, e0, rd_mk gab]
  refine WL.mk (fun k t h' => ∃ (p : Nat) (on : Option Addr) (cn : Nat) (bs : Bl), Wf h' ∧ O2 h0 h' on cn ((pl.map (prt W H w hh X Y)).take p) bs [] ∧ Fm (fun z => z = hb.size) h0 h' ∧ h'.get hb.size = some ⟨[.int .i64 (w : Int), .int .i64 (hh : Int), .int .i64 bi, .slice on p cn], .own⟩ ∧
      p ≤ pl.length ∧ k = pl.length - p ∧ t = [(1, some (.int .i64 (X : Int))), (2, some (.int .i64 (Y : Int))), (3, some (.int .i64 (w : Int))), (4, some (.int .i64 (hh : Int))), (5, some (.pointer (some ⟨h.size, 0, none⟩))), (10, some (.pointer (some ⟨ha.size, 0, none⟩))), (11, some (.pointer (some ⟨hb.size, 0, none⟩))), (12, some (.int .i64 (p : Int)))])
    ⟨pl.length, 0, none, 0, [], w0, O2.nil, Fm.refl, g0, by omega, rfl, rfl⟩ ?_
  rintro k t h1 ⟨p, on, cn, bs, w1, o1, f1, g1, hp, rfl, rfl⟩
  have hs1 := f1.size
  obtain ⟨k15, k1a, r1, fh1⟩ := keep h1 f1
  have htk : ((pl.map (prt W H w hh X Y)).take p).length = p := by rw [List.length_take, List.length_map]; omega
  by_cases hpn : p < pl.length
  · obtain ⟨l, hl⟩ : ∃ l, pl[p]? = some l := ⟨_, List.getElem?_eq_getElem hpn⟩
    have hll := hml l (List.mem_of_getElem? hl)
    obtain ⟨L, hL⟩ : ∃ L, prt W H w hh X Y l = L := ⟨_, rfl⟩
    have hLl : L.length = w * hh := hL ▸ prt_len
    have ow2 := Ow.zeros (h := h1) (n := w * hh)
    obtain ⟨h2, e2⟩ : ∃ g, h1.new ⟨iV (List.replicate (w * hh) 0), .own⟩ = g := ⟨_, rfl⟩
    have w2 : Wf h2 := e2 ▸ w1.new
    have f2 : Fm No h1 h2 := e2 ▸ Fm.new Fm.refl
    have s2 : h2.size = h1.size + 1 := by rw [← e2]; rfl
    rw [e2] at ow2
    simp +contextual (disch := omega) only [↓AM, ↓AV, AP, CQ, hpn, rd_mk k15, nmul, i64, rep_iV, Int.toNat_natCast, e2]
    refine ⟨by omega, ?_⟩
    refine WL.mk (fun k t h' => ∃ (q : Nat), Wf h' ∧ Ow h' 1 (some ⟨h1.size, 0, none⟩) (w * hh) (w * hh) (iV (ptk L (w * hh) q)) ∧ Fm (fun z => z = h1.size) h2 h' ∧ q ≤ w * hh ∧ k = w * hh - q ∧
        t = [(1, some (.int .i64 (X : Int))), (2, some (.int .i64 (Y : Int))), (3, some (.int .i64 (w : Int))), (4, some (.int .i64 (hh : Int))), (5, some (.pointer (some ⟨h.size, 0, none⟩))), (10, some (.pointer (some ⟨ha.size, 0, none⟩))), (11, some (.pointer (some ⟨hb.size, 0, none⟩))), (12, some (.int .i64 (p : Int))),
          (13, some (.slice (some ⟨h1.size, 0, none⟩) (w * hh) (w * hh))), (14, some (.int .i64 (q : Int)))])
      ⟨w * hh, 0, w2, by rw [ptk_0]; exact ow2, Fm.refl, by omega, rfl, rfl⟩ ?_
    rintro k t h3 ⟨q, w3, ow3, f3, hq, rfl, rfl⟩
    have f13 : Fm No h1 h3 := f2.trans f3 fun z hz e => by have : z = h1.size := e; omega
    have f03 : Fm (fun z => z = hb.size) h0 h3 := f1.trans (f13.mono fun _ _ f => f.elim) fun _ _ x => x
    obtain ⟨k35, k3a, r3, fh3⟩ := keep h3 f03
    by_cases hqn : q < w * hh
    · have hin : q % w < w := Nat.mod_lt _ (by omega)
      have hjn : q / w < hh := Nat.div_lt_of_lt_mul hqn
      have hval := prt_at (W := W) (H := H) (x := X) (y := Y) (l := l) hqn
      rw [hL] at hval
      obtain ⟨i, hi⟩ : ∃ i, q % w = i := ⟨_, rfl⟩
      obtain ⟨j, hj⟩ : ∃ j, q / w = j := ⟨_, rfl⟩
      rw [hi] at hin hval
      rw [hj] at hjn hval
      by_cases a1 : X + i < W
      case neg =>
        rw [if_neg (fun z => a1 z.1)] at hval
        simp +contextual (disch := omega) only [↓AM, ↓AV, AP, CQ, hqn, rd_mk k35, i64, tmodN, tdivN, hw0, hi, hj, a1]
        exact ⟨w * hh - (q + 1), by omega, q + 1, w3, by rw [← ptk_skip hLl hval]; exact ow3, f3, by omega, rfl, rfl⟩
      by_cases a2 : Y + j < H
      case neg =>
        rw [if_neg (fun z => a2 z.2)] at hval
        simp +contextual (disch := omega) only [↓AM, ↓AV, AP, CQ, hqn, rd_mk k35, i64, tmodN, tdivN, hw0, hi, hj, a1, a2]
        exact ⟨w * hh - (q + 1), by omega, q + 1, w3, by rw [← ptk_skip hLl hval]; exact ow3, f3, by omega, rfl, rfl⟩
      rw [if_pos ⟨a1, a2⟩] at hval
      have hsrc : (Y + j) * W + (X + i) < W * H := at_lt a1 a2
      have hYW : (Y + j) * W ≤ W * H := by omega
      obtain ⟨b1, o1', s1, obl, cl', l', eo1, fl1, hl1, rl1, ll1, ql1⟩ := r3.at hpn
      rw [hl] at hl1
      cases hl1
      obtain ⟨b4, o4, s4, e4, f4, v, hv, r4⟩ := Rd.int ql1 (i := (Y + j) * W + (X + i)) (by rw [hll]; exact hsrc)
      have hsl : (Y + j) * W + (X + i) < l.length := by rw [hll]; exact hsrc
      rw [getD_of hv] at hval
      obtain ⟨b2, sp2, obj, v2, e2', f2', g2', m2', le2', _, _, put2⟩ := ow3.cell w3 (i := q) hqn
      cases e2'
      subst e4 eo1
      simp +contextual (disch := omega) only [↓AM, ↓AV, AP, CQ, hqn, rd_mk k35, i64, tmodN, tdivN, hw0, hi, hj, a1, a2, nmul, hpn, fl1, rl1, hsl, f4, r4, f2', g2', m2', le2']
      obtain ⟨q1, q2, q3, q4⟩ := put2 (.int .i64 v)
      rw [iV_set, ptk_step hLl hval] at q2
      exact ⟨w * hh - (q + 1), by omega, q + 1, q3, q2, f3.trans q4 fun z hz hat => by rw [At.some] at hat; exact hat.symm, by omega, rfl, rfl⟩
    · have hqe : q = w * hh := by omega
      subst hqe
      rw [ptk_N hLl] at ow3
      have oo := o1.out.keep w1 f13 (fun _ _ f => f)
      rw [htk, List.length_nil, Nat.add_zero, List.append_nil] at oo
      have g3 := f13.keep w1 g1 (fun f => f)
      simp +contextual (disch := omega) only [↓AM, ↓AV, AP, CQ, hqn, rd_mk g3]
      refine oo.push (bytes := 24) (m := 1) (xs := [.slice (some ⟨h1.size, 0, none⟩) (w * hh) (w * hh)]) w3 rfl (by omega) fun oa' c'' h5 o5 w5 f5 n5 => ?_
      have hna : ¬ At on hb.size := fun f => by have := o1.nwO _ f; omega
      have g5 := f5.keep w3 g3 hna
      obtain ⟨h6, e6⟩ : ∃ g, h5.put hb.size ⟨[.int .i64 (w : Int), .int .i64 (hh : Int), .int .i64 bi, .slice oa' (p + 1) c''], .own⟩ = g := ⟨_, rfl⟩
      have w6 : Wf h6 := e6 ▸ w5.put (w5.lt g5)
      have f6 : Fm (fun z => z = hb.size) h5 h6 := e6 ▸ Fm.put Fm.refl fun _ => rfl
      have g6 : h6.get hb.size = some ⟨[.int .i64 (w : Int), .int .i64 (hh : Int), .int .i64 bi, .slice oa' (p + 1) c''], .own⟩ := e6 ▸ gput
      have f05 : Fm (fun z => z = hb.size) h0 h5 := Fm.nw f03 f5 o1.nwO
      have o3' := o1.push (l := L) (ob := some ⟨h1.size, 0, none⟩) (cc := w * hh) w1 hs1 f13 w3 (by rw [hLl]; exact ow3) nw_new (by rw [htk, hLl]; exact o5) f5 n5
      have o4 := o3'.keepB w5 f6 (fun z hz => by have : z = hb.size := hz; omega)
      simp +contextual (disch := omega) only [↓AM, ↓AV, AP, CQ, rd_mk g5, g5, spl_S, spl_0, spl_00, e6, i64]
      refine ⟨pl.length - (p + 1), by omega, p + 1, oa', c'', bs ++ [(some ⟨h1.size, 0, none⟩, w * hh)], w6, ?_, f05.trans f6 (fun _ _ x => x), rfl, by omega, rfl, rfl⟩
      rw [List.take_add_one, List.getElem?_map, hl, Option.map_some, hL]
      exact o4
  · have hpe : p = pl.length := by omega
    subst hpe
    rw [List.take_of_length_le (by rw [List.length_map]; exact Nat.le_refl _)] at o1
    have n3 : h1.rdN hb.size 0 4 = some [.int .i64 (w : Int), .int .i64 (hh : Int), .int .i64 bi, .slice on pl.length cn] := rdN_mk g1 (by simp)
    obtain ⟨hD, eD⟩ : ∃ g, h1.put ha.size ⟨[.int .i64 (w : Int), .int .i64 (hh : Int), .int .i64 bi, .slice on pl.length cn], .own⟩ = g := ⟨_, rfl⟩
    have fD : Fm (fun x => x = ha.size) h1 hD := eD ▸ Fm.put Fm.refl fun _ => rfl
    have gD : hD.rdN ha.size 0 4 = some [.int .i64 (w : Int), .int .i64 (hh : Int), .int .i64 bi, .slice on pl.length cn] := by rw [← eD]; exact rdN_mk gput (by simp)
    simp +contextual (disch := omega) only [↓AM, ↓AV, AP, CQ, hpn, rd_mk k15, n3, k1a, spl_S, spl_0, spl_00, eD, gD]
    have hle := o1.out.le
    rw [List.length_map, List.length_nil, Nat.add_zero] at hle
    refine ⟨⟨on, cn, bs, ?_, (o1.keepB w1 fD fun z hz => by have : z = ha.size := hz; omega).older (by omega), ?_⟩, fh1.trans fD fun z hz hy => by have : z = ha.size := hy; omega⟩
    · simp [imC, Im.wd, Im.hg, Im.bt, Im.pl]
    · show (pl.map _).length ≤ cn
      rw [List.length_map]; exact hle
end Go.Proofs.YtmkcngcnedjfkaaGreat.It

/- The law ItemParts: a picture cut into parts and put together again. The walk over the abstract machine.
   Conditions: none. -/
namespace Go.Proofs.YtmkcngcnedjfkaaGreat.LItemParts
open Go Go.RowKit Go.Proofs.YtmkcngcnedjfkaaGreat.Am Go.Proofs.YtmkcngcnedjfkaaGreat.Af Go.Proofs.YtmkcngcnedjfkaaGreat.Md Go.Proofs.YtmkcngcnedjfkaaGreat.It
open Go.Proofs.YtmkcngcnedjfkaaGreat.LItemTurns (im_open imK bytes1 bytes2 sz_of)
set_option linter.unusedVariables false
set_option linter.unusedSimpArgs false
set_option linter.defProp false
set_option maxRecDepth 20000
set_option maxHeartbeats 4000000

/-- A list of pictures in one's own memory, being built. -/
def PL (h0 h : Hp) (os : Option Addr) (cells : List Value) (ms : List Im) : Prop :=
  ∀ (i : Nat) (m : Im), ms[i]? = some m → ∃ ob d bs, (cells.drop (i * 4)).take 4 = imC m ob d ∧ m.pl.length ≤ d ∧ O2 h0 h ob d m.pl bs [] ∧ (∀ x, At ob x → ¬ At os x) ∧ ∀ b ∈ bs, ∀ x, At b.1 x → ¬ At os x
theorem PL.nil {h0 h : Hp} {os : Option Addr} {cells : List Value} : PL h0 h os cells [] := fun i m h => by simp at h
theorem PL.keep {h0 h h' : Hp} {os : Option Addr} {cells : List Value} {ms : List Im} (p : PL h0 h os cells ms) (w : Wf h) (f : Fm No h h') : PL h0 h' os cells ms := fun i m hm => by
  obtain ⟨ob, d, bs, e, l, o, a, b⟩ := p i m hm
  exact ⟨ob, d, bs, e, l, o.keepN w f, a, b⟩
theorem PL.r3 {h0 h : Hp} {os : Option Addr} {cells : List Value} {ms : List Im} {c : Nat} (p : PL h0 h os cells ms) (o : Ow h 4 os ms.length c cells) : R3 h os ms := ⟨cells, o.rd, fun i m hm => by
  obtain ⟨ob, d, bs, e, l, o, a, b⟩ := p i m hm
  exact ⟨ob, d, e, l, o.r2⟩⟩
theorem PL.push {h0 h1 h3 h5 : Hp} {os os' ob : Option Addr} {cells : List Value} {ms : List Im} {m : Im} {n d : Nat} {bs : Bl} (p : PL h0 h3 os cells ms) (w3 : Wf h3) (hl : cells.length = n * 4) (hms : ms.length = n) (hs : h0.size ≤ h1.size)
    (o : O2 h1 h3 ob d m.pl bs []) (hd : m.pl.length ≤ d) (hos : ∀ x, At os x → x < h1.size) (f : Fm (At os) h3 h5) (n5 : ∀ x, At os' x → At os x ∨ h3.size ≤ x) : PL h0 h5 os' (cells ++ imC m ob d) (ms ++ [m]) := fun i m' hm => by
  by_cases hi : i < n
  · rw [List.getElem?_append_left (by omega)] at hm
    obtain ⟨ob', d', bs', e, l, o', a, b⟩ := p i m' hm
    refine ⟨ob', d', bs', ?_, l, o'.keep w3 f a b, fun x hx h5 => ?_, fun y hy x hx h5 => ?_⟩
    · rw [List.drop_append_of_le_length (by omega), List.take_append_of_le_length (by rw [List.length_drop]; omega)]
      exact e
    · rcases n5 x h5 with q | q
      · exact a x hx q
      · have := o'.out.lt w3 x hx; omega
    · rcases n5 x h5 with q | q
      · exact b y hy x hx q
      · have := (o'.inlt w3 x ⟨y, hy, hx⟩).2; omega
  · have hi2 : i = n := by
      have := (List.getElem?_eq_some_iff.1 hm).1
      rw [List.length_append, List.length_singleton] at this
      omega
    subst hi2
    rw [List.getElem?_append_right (by omega), hms, Nat.sub_self] at hm
    cases hm
    have hO : ∀ x, At ob x → ¬ At os x := fun x hx q => by have := o.nwO x hx; have := hos x q; omega
    have hI : ∀ y ∈ bs, ∀ x, At y.1 x → ¬ At os x := fun y hy x hx q => by have := o.nwI y hy x hx; have := hos x q; omega
    refine ⟨ob, d, bs, ?_, hd, (o.older hs).keep w3 f hO hI, fun x hx h5 => ?_, fun y hy x hx h5 => ?_⟩
    · rw [List.drop_append, List.drop_of_length_le (by omega), List.nil_append, hl, Nat.sub_self, List.drop_zero, List.take_of_length_le (by simp [imC])]
    · rcases n5 x h5 with q | q
      · exact hO x hx q
      · have := o.out.lt w3 x hx; omega
    · rcases n5 x h5 with q | q
      · exact hI y hy x hx q
      · have := (o.inlt w3 x ⟨y, hy, hx⟩).2; omega
theorem ceil {W w C : Nat} (pw : 1 ≤ w) (hw : w ≤ W) (h : (W + w - 1) / w = C) : 1 ≤ C ∧ (C - 1) * w < W ∧ W ≤ C * w := by
  obtain ⟨h1, h2⟩ := (div_iff (a := W + w - 1) (q := C) pw).1 h
  have hC : 1 ≤ C := by
    rcases Nat.eq_zero_or_pos C with e | e
    · subst e; omega
    · exact e
  have : C * w = (C - 1) * w + w := by
    obtain ⟨c, rfl⟩ : ∃ c, C = c + 1 := ⟨C - 1, by omega⟩
    rw [Nat.add_sub_cancel, Nat.add_mul, Nat.one_mul]
  exact ⟨hC, by omega, by omega⟩
theorem core {h : Hp} (m : Im) (a b : Nat) {ob : Option Addr} {d : Nat} (r : R2 h ob m.pl) (hz : Sz m.pl) (ha' : a ≤ 255) (hb' : b ≤ 255) :
    ACalls Tryz.prog 7 [.agg (imC m ob d).toArray, .int .u8 (a : Int), .int .u8 (b : Int)] h fun v h' => v = .bool true := by
  refine dioramalaw15_ItemParts_ok.snd Af.hm rfl fun wf => ?_
  rw [WF_eq, dioramalaw15_ItemParts]
  obtain ⟨ha, ea⟩ : ∃ g, h.new ⟨imC m ob d, .own⟩ = g := ⟨_, rfl⟩
  have wa : Wf ha := ea ▸ wf.new
  have fa : Fm No h ha := ea ▸ Fm.new Fm.refl
  have ga : ha.get h.size = some ⟨imC m ob d, .own⟩ := ea ▸ gnew
  have sa : ha.size = h.size + 1 := by rw [← ea]; rfl
  have na : ∀ g, Fm No ha g → g.rdN h.size 0 4 = some (imC m ob d) := fun g fg => rdN_mk (fg.keep wa ga (fun f => f)) (by simp [imC])
  have ea' := ea
  have na' := na
  simp only [imC] at ea' na'
  simp +contextual (disch := omega) only [↓AM, ↓AV, AP, CQ, imC, ea', na' ha Fm.refl]
  refine (c_plain (r.keep wf fa) hz).use ?_
  rintro _ h1 w1 ⟨rfl, f1⟩
  by_cases hp : plainB m = true
  case neg =>
    simp +contextual (disch := omega) only [↓AM, ↓AV, AP, CQ, hp]
    refine (c_awake h1).use ?_
    rintro _ h7 w7 ⟨rfl, rfl⟩
    simp +contextual (disch := omega) only [↓AM, ↓AV, AP, CQ]
  simp +contextual (disch := omega) only [↓AM, ↓AV, AP, CQ, hp, ea', na' h1 f1]
  refine (c_rcheck ((r.keep wf fa).keep wa f1) hz).use ?_
  rintro _ h2 w2 ⟨rfl, f2⟩
  have fa2 := f1.trans f2 fun _ _ x => x
  by_cases hq : pchk m = 0
  case neg =>
    simp +contextual (disch := omega) only [↓AM, ↓AV, AP, CQ, EqI, hq, ea']
    refine (c_awake h2).use ?_
    rintro _ h7 w7 ⟨rfl, rfl⟩
    simp +contextual (disch := omega) only [↓AM, ↓AV, AP, CQ]
  have g := pchk_good.1 hq
  obtain ⟨hWe, hW1, hW64⟩ := g.w_eq
  obtain ⟨hHe, hH1, hH64⟩ := g.h_eq
  obtain ⟨W, hW⟩ : ∃ W, m.w = W := ⟨_, rfl⟩
  obtain ⟨H, hH⟩ : ∃ H, m.h = H := ⟨_, rfl⟩
  have hWe' : m.wd = (W : Int) := hW ▸ hWe
  have hHe' : m.hg = (H : Int) := hH ▸ hHe
  have hI : imC m ob d = [.int .i64 (W : Int), .int .i64 (H : Int), .int .i64 m.bt, .slice ob m.pl.length d] := by unfold imC; rw [hWe', hHe']
  rw [hW] at hW1 hW64
  rw [hH] at hH1 hH64
  obtain ⟨w, hw⟩ : ∃ w, a % W + 1 = w := ⟨_, rfl⟩
  obtain ⟨hh, hhh⟩ : ∃ hh, b % H + 1 = hh := ⟨_, rfl⟩
  have hwW : 1 ≤ w ∧ w ≤ W := by have := Nat.mod_lt a (show 0 < W by omega); omega
  have hhH : 1 ≤ hh ∧ hh ≤ H := by have := Nat.mod_lt b (show 0 < H by omega); omega
  obtain ⟨C, hC⟩ : ∃ C, (W + w - 1) / w = C := ⟨_, rfl⟩
  obtain ⟨R, hR⟩ : ∃ R, (H + hh - 1) / hh = R := ⟨_, rfl⟩
  obtain ⟨pC, c1, c2⟩ := ceil hwW.1 hwW.2 hC
  obtain ⟨pR, r1, r2⟩ := ceil hhH.1 hhH.2 hR
  have C64 : C ≤ 200 := hC ▸ Nat.le_trans (Nat.div_le_self _ _) (by omega)
  have R64 : R ≤ 200 := hR ▸ Nat.le_trans (Nat.div_le_self _ _) (by omega)
  have ga2 : h2.get h.size = some ⟨[.int .i64 (W : Int), .int .i64 (H : Int), .int .i64 m.bt, .slice ob m.pl.length d], .own⟩ := hI ▸ fa2.keep wa ga (fun f => f)
  have W0 : ((W : Nat) : Int) ≠ 0 := by omega
  have H0 : ((H : Nat) : Int) ≠ 0 := by omega
  have w0 : ((w : Nat) : Int) ≠ 0 := by omega
  have hh0 : ((hh : Nat) : Int) ≠ 0 := by omega
  simp +contextual (disch := omega) only [↓AM, ↓AV, AP, CQ, EqI, It.eqI_self, hq, ea', rd_mk ga2, i64, tmodN, tdivN, W0, H0, w0, hh0, hw, hhh, nsubc1, hC, hR]
  by_cases c8 : (8 : Int) < (C : Int)
  · simp +contextual (disch := omega) only [c8, not_true, true_and, forall_const, false_implies, implies_true, and_true]
    refine (c_awake h2).use ?_
    rintro _ h7 w7 ⟨rfl, rfl⟩
    simp +contextual (disch := omega) only [↓AM, ↓AV, AP, CQ]
  by_cases r8 : (8 : Int) < (R : Int)
  · simp +contextual (disch := omega) only [c8, r8, not_true, not_false_eq_true, true_and, forall_const, false_implies, implies_true, and_true]
    refine (c_awake h2).use ?_
    rintro _ h7 w7 ⟨rfl, rfl⟩
    simp +contextual (disch := omega) only [↓AM, ↓AV, AP, CQ]
  simp +contextual (disch := omega) only [c8, r8, not_true, not_false_eq_true, true_and, forall_const, false_implies, implies_true, and_true]
  have hna : ∀ g, Fm No h2 g → g.rdN h.size 0 4 = some [.int .i64 (W : Int), .int .i64 (H : Int), .int .i64 m.bt, .slice ob m.pl.length d] := fun g fg => hI ▸ na g (fa2.trans fg fun _ _ x => x)
  have hs2 := fa2.size
  have fh2 := fa.trans fa2 fun _ _ x => x
  refine WL.mk (fun k t h' => ∃ (j : Nat) (os : Option Addr) (c' : Nat) (cells : List Value), Wf h' ∧ Ow h' 4 os (j * C) c' cells ∧ PL h2 h' os cells (partsL m w hh C (j * C)) ∧ (∀ x, At os x → h2.size ≤ x) ∧ Fm No h2 h' ∧ j ≤ R ∧ k = R - j ∧
      t = [(3, some (.pointer (some ⟨h.size, 0, none⟩))), (7, some (.int .i64 (w : Int))), (8, some (.int .i64 (hh : Int))), (9, some (.int .i64 (C : Int))), (10, some (.int .i64 (R : Int))), (11, some (.slice os (j * C) c')), (12, some (.int .i64 (j : Int)))])
    ⟨R, 0, none, 0, [], w2, by rw [Nat.zero_mul]; exact Ow.mk0, by rw [Nat.zero_mul]; exact PL.nil, fun x hx => absurd hx At.none, Fm.refl, by omega, rfl, by rw [Nat.zero_mul]; rfl⟩ ?_
  rintro k t h3 ⟨j, os, c', cells, w3, o3, p3, n3, f3, hj, rfl, rfl⟩
  by_cases hjn : j < R
  · simp +contextual (disch := omega) only [↓AM, ↓AV, AP, CQ, hjn]
    refine WL.mk (fun k t h' => ∃ (i : Nat) (os : Option Addr) (c' : Nat) (cells : List Value), Wf h' ∧ Ow h' 4 os (j * C + i) c' cells ∧ PL h2 h' os cells (partsL m w hh C (j * C + i)) ∧ (∀ x, At os x → h2.size ≤ x) ∧ Fm No h2 h' ∧ i ≤ C ∧ k = C - i ∧
        t = [(3, some (.pointer (some ⟨h.size, 0, none⟩))), (7, some (.int .i64 (w : Int))), (8, some (.int .i64 (hh : Int))), (9, some (.int .i64 (C : Int))), (10, some (.int .i64 (R : Int))), (11, some (.slice os (j * C + i) c')), (12, some (.int .i64 (j : Int))), (13, some (.int .i64 (i : Int)))])
      ⟨C, 0, os, c', cells, w3, o3, p3, n3, f3, by omega, rfl, rfl⟩ ?_
    rintro k t h4 ⟨i, os, c', cells, w4, o4, p4, n4, f4, hi, rfl, rfl⟩
    by_cases hin : i < C
    · have hsm : j * C + i < R * C := by have := at_lt hin hjn; rw [Nat.mul_comm C R] at this; exact this
      have hRC : R * C ≤ 64 := Nat.mul_le_mul (show R ≤ 8 by omega) (show C ≤ 8 by omega)
      have b1 : i * w ≤ 8 * 64 := Nat.mul_le_mul (by omega) (by omega)
      have b2 : j * hh ≤ 8 * 64 := Nat.mul_le_mul (by omega) (by omega)
      simp +contextual (disch := omega) only [↓AM, ↓AV, AP, CQ, hin, hna h4 f4, nmul, i64]
      have cp := c_part (h := h4) (m := m) (ob := ob) (d := d) (X := i * w) (Y := j * hh) (w := w) (hh := hh) (r.keep wf (fh2.trans f4 fun _ _ x => x)) g (by omega) (by omega) (by omega) (by omega)
      rw [hI] at cp
      refine cp.use ?_
      rintro _ h5 w5 ⟨⟨on, cn, bs, rfl, o5, l5⟩, f5⟩
      have hPm : partP m (i * w) (j * hh) w hh = partP m ((j * C + i) % C * w) ((j * C + i) / C * hh) w hh := by rw [at_mod hin, at_div hin]
      obtain ⟨P, hP⟩ : ∃ P, partP m (i * w) (j * hh) w hh = P := ⟨_, rfl⟩
      rw [hP] at o5 l5 hPm ⊢
      have hsrc : (h5.new ⟨imC P on cn, .own⟩).src 4 (.slice (some ⟨h5.size, 0, none⟩) 1 1) = some (imC P on cn) := Rd.src (Rd.of (sp := none) rfl (rdN_mk gnew (by simp [imC])))
      simp only [imC] at hsrc
      simp +contextual (disch := omega) only [↓AM, ↓AV, AP, CQ, imC, hsrc]
      have oo := o4.keep w4 f5 (fun _ _ f => f)
      refine oo.push (bytes := 48) (m := 1) (xs := imC P on cn) w5 rfl (by omega) fun os' c'' h6 o6 w6 f6 n6 => ?_
      have hlen : cells.length = (j * C + i) * 4 := o4.rd.len
      have p6 := (p4.keep w4 f5).push (h1 := h4) w5 hlen partsL_len f4.size o5 l5 (o4.lt w4) f6 n6
      have hPs : partsL m w hh C (j * C + (i + 1)) = partsL m w hh C (j * C + i) ++ [P] := by rw [← Nat.add_assoc, partsL_S, hPm]
      have f46 : Fm No h2 h6 := (f4.trans f5 fun _ _ x => x).trans f6 fun z hz q => by have := n4 z q; omega
      simp +contextual (disch := omega) only [↓AM, ↓AV, AP, CQ, i64]
      refine ⟨C - (i + 1), by omega, i + 1, os', c'', cells ++ imC P on cn, w6, o6, by rw [hPs]; exact p6, fun x hx => ?_, f46, by omega, rfl, rfl⟩
      rcases n6 x hx with q | q
      · exact n4 x q
      · have := f4.size; have := f5.size; omega
    · have hie : i = C := by omega
      subst hie
      have hj1 : j * i + i = (j + 1) * i := by rw [Nat.add_mul, Nat.one_mul]
      rw [hj1] at o4 p4
      simp +contextual (disch := omega) only [↓AM, ↓AV, AP, CQ, hin, hj1, i64]
      exact ⟨R - (j + 1), by omega, j + 1, os, c', cells, w4, o4, p4, n4, f4, by omega, rfl, rfl⟩
  · have hje : j = R := by omega
    subst hje
    have hRC : j * C ≤ 64 := Nat.mul_le_mul (show j ≤ 8 by omega) (show C ≤ 8 by omega)
    have g3 : h3.get h.size = some ⟨[.int .i64 (W : Int), .int .i64 (H : Int), .int .i64 m.bt, .slice ob m.pl.length d], .own⟩ := f3.keep w2 ga2 (fun f => f)
    simp +contextual (disch := omega) only [↓AM, ↓AV, AP, CQ, hjn, rd_mk g3]
    have r3 : R3 h3 os (partsL m w hh C (j * C)) := p3.r3 (c := c') (by rw [partsL_len]; exact o3)
    have s3 : S3 (partsL m w hh C (j * C)) := ⟨by rw [partsL_len]; omega, fun x hx => by
      obtain ⟨n, _, rfl⟩ := List.mem_map.1 hx
      exact (partP_good g (by omega) (by omega)).sm.sz⟩
    obtain ⟨gE, gR⟩ := parts_grid g (w := w) (h := hh) (C := C) (R := j) (by omega) (by omega) (by omega) (by omega) (by rw [hW]; exact c1) (by rw [hW]; exact c2) (by rw [hH]; exact r1) (by rw [hH]; exact r2)
    have cg := c_Grid (c := c') (rows := (j : Int)) (cols := (C : Int)) (wide := m.wd) (high := m.hg) r3 s3
    rw [partsL_len, gE, gR, hWe', hHe'] at cg
    refine cg.use ?_
    rintro _ h5 w5 ⟨⟨u, rfl, ou⟩, f5⟩
    obtain ⟨ox, cx, bx, rfl, o5, l5⟩ := ou
    obtain ⟨h6, e6⟩ : ∃ g, h5.new ⟨imC m ox cx, .own⟩ = g := ⟨_, rfl⟩
    have w6 : Wf h6 := e6 ▸ w5.new
    have f6 : Fm No h5 h6 := e6 ▸ Fm.new Fm.refl
    have g6 : h6.get h5.size = some ⟨imC m ox cx, .own⟩ := e6 ▸ gnew
    have n6 : h6.rdN h5.size 0 4 = some (imC m ox cx) := rdN_mk g6 (by simp [imC])
    have f26 := (f3.trans f5 fun _ _ x => x).trans f6 fun _ _ x => x
    have nm6 := na h6 (fa2.trans f26 fun _ _ x => x)
    simp only [imC] at e6 n6 nm6
    simp +contextual (disch := omega) only [↓AM, ↓AV, AP, CQ, EqI, It.eqI_self, imC, e6, n6, nm6]
    refine (c_EqImage (o5.r2.keep w5 f6) (r.keep wf (fh2.trans f26 fun _ _ x => x)) hz).use ?_
    rintro _ h9 w9 ⟨rfl, f9⟩
    simp +contextual (disch := omega) only [↓AM, ↓AV, AP, CQ, EqI, It.eqI_self]
    refine (c_awake h9).use ?_
    rintro _ h11 w11 ⟨rfl, rfl⟩
    simp +contextual (disch := omega) only [↓AM, ↓AV, AP, CQ]
theorem walk {h : Hp} (x0 : Im) (cs0 : List Value) (x1 : Int) (x2 : Int) (A0 : imK.A h x0 cs0) (w0 : ((Lit.int .i64 x0.1).wf = true) ∧ ((Lit.int .i64 x0.2.1).wf = true) ∧ ((Lit.int .i64 x0.2.2.1).wf = true) ∧ (x0.2.2.2.length * Tryz.prog.bytesOf 39 ≤ 140737488351232 ∧ ∀ x ∈ x0.2.2.2, x.length * Tryz.prog.bytesOf 3 ≤ 140737488351232 ∧ ∀ y ∈ x, (Lit.int .i64 y).wf = true)) (w1 : (Lit.int .u8 x1).wf = true) (w2 : (Lit.int .u8 x2).wf = true) :
    ACalls Tryz.prog 7 [.agg cs0.toArray, .int .u8 x1, .int .u8 x2] h fun v h' => v = .bool true := by
  obtain ⟨oa, c, rfl, r, l⟩ := im_open A0
  obtain ⟨_, _, _, q1, q2⟩ := w0
  have hx1 : 0 ≤ x1 ∧ x1 ≤ 255 := (Lit.wf_int_iff .u8 x1).1 w1
  have hx2 : 0 ≤ x2 ∧ x2 ≤ 255 := (Lit.wf_int_iff .u8 x2).1 w2
  obtain ⟨a, rfl⟩ : ∃ a : Nat, x1 = a := ⟨x1.toNat, by omega⟩
  obtain ⟨b, rfl⟩ : ∃ b : Nat, x2 = b := ⟨x2.toNat, by omega⟩
  exact core x0 a b r (sz_of bytes2 bytes1 q1 fun x hx => (q2 x hx).1) (by omega) (by omega)
end Go.Proofs.YtmkcngcnedjfkaaGreat.LItemParts
