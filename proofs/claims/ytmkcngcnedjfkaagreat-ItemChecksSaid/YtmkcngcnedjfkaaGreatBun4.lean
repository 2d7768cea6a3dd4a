/- Over, the program's and the document's. Plain theorems over the abstract machine.
   Conditions: none. -/
import Derived.Test.YtmkcngcnedjfkaaGreatBun3
namespace Go.Proofs.YtmkcngcnedjfkaaGreat.It
open Go Go.RowKit Go.Proofs.YtmkcngcnedjfkaaGreat.Am Go.Proofs.YtmkcngcnedjfkaaGreat.Af Go.Proofs.YtmkcngcnedjfkaaGreat.Md
set_option linter.unusedVariables false
set_option linter.unusedSimpArgs false
set_option linter.defProp false
set_option maxRecDepth 20000
set_option maxHeartbeats 2000000

/-- The error of Over. -/
def overE (cv m : Im) (x y : Int) : Int := if pchk cv = 0 then (if pchk m = 0 then (if (-64 ≤ x ∧ x ≤ 64) ∧ -64 ≤ y ∧ y ≤ 64 then (if cv.bt = m.bt ∧ cv.pl.length = m.pl.length then 0 else 151) else 1) else pchk m) else pchk cv
def overR (cv m : Im) (x y : Int) : Im := if overE cv m x y = 0 then drI cv m x y else zIm
theorem overR_ne {cv m : Im} {x y : Int} (h : overE cv m x y ≠ 0) : overR cv m x y = zIm := if_neg h
theorem overR_0 {cv m : Im} {x y : Int} (h : overE cv m x y = 0) : overR cv m x y = drI cv m x y := if_pos h
theorem overE_1 {cv m : Im} {x y : Int} (h : ¬ pchk cv = 0) : overE cv m x y = pchk cv := if_neg h
theorem overE_2 {cv m : Im} {x y : Int} (h : pchk cv = 0) (h2 : ¬ pchk m = 0) : overE cv m x y = pchk m := by unfold overE; rw [if_pos h, if_neg h2]
theorem overE_3 {cv m : Im} {x y : Int} (h : pchk cv = 0) (h2 : pchk m = 0) (h3 : ¬ ((-64 ≤ x ∧ x ≤ 64) ∧ -64 ≤ y ∧ y ≤ 64)) : overE cv m x y = 1 := by unfold overE; rw [if_pos h, if_pos h2, if_neg h3]
theorem overE_4 {cv m : Im} {x y : Int} (h : pchk cv = 0) (h2 : pchk m = 0) (h3 : (-64 ≤ x ∧ x ≤ 64) ∧ -64 ≤ y ∧ y ≤ 64) (h4 : ¬ (cv.bt = m.bt ∧ cv.pl.length = m.pl.length)) : overE cv m x y = 151 := by unfold overE; rw [if_pos h, if_pos h2, if_pos h3, if_neg h4]
theorem overE_5 {cv m : Im} {x y : Int} (h : pchk cv = 0) (h2 : pchk m = 0) (h3 : (-64 ≤ x ∧ x ≤ 64) ∧ -64 ≤ y ∧ y ≤ 64) (h4 : cv.bt = m.bt ∧ cv.pl.length = m.pl.length) : overE cv m x y = 0 := by unfold overE; rw [if_pos h, if_pos h2, if_pos h3, if_pos h4]

theorem c_Over {h : Hp} {cv m : Im} {oa ob : Option Addr} {c d : Nat} {x y : Int} (r : R2 h oa cv.pl) (rm : R2 h ob m.pl) (hc : cv.pl.length ≤ c) (hz : Sz cv.pl) (hzm : Sz m.pl) :
    ACalls Tryz.prog 25 [.agg (imC cv oa c).toArray, .agg (imC m ob d).toArray, .int .i64 x, .int .i64 y] h fun v h' => (∃ u, v = .tuple #[u, .int .i64 (overE cv m x y)] ∧ OI h h' u (overR cv m x y)) ∧ Fm No h h' := by
  refine item_Over_ok.snd Af.hm rfl fun wf => ?_
  rw [WF_eq, item_Over]
  obtain ⟨ha, ea⟩ : ∃ g, h.new ⟨[.int .i64 cv.wd, .int .i64 cv.hg, .int .i64 cv.bt, .slice oa cv.pl.length c], .own⟩ = g := ⟨_, rfl⟩
  have wa : Wf ha := ea ▸ wf.new
  have fa : Fm No h ha := ea ▸ Fm.new Fm.refl
  have ga : ha.get h.size = some ⟨[.int .i64 cv.wd, .int .i64 cv.hg, .int .i64 cv.bt, .slice oa cv.pl.length c], .own⟩ := ea ▸ gnew
  have sa : ha.size = h.size + 1 := by rw [← ea]; rfl
  obtain ⟨hb, eb⟩ : ∃ g, ha.new ⟨[.int .i64 m.wd, .int .i64 m.hg, .int .i64 m.bt, .slice ob m.pl.length d], .own⟩ = g := ⟨_, rfl⟩
  have wb : Wf hb := eb ▸ wa.new
  have fb : Fm No ha hb := eb ▸ Fm.new Fm.refl
  have gb : hb.get ha.size = some ⟨[.int .i64 m.wd, .int .i64 m.hg, .int .i64 m.bt, .slice ob m.pl.length d], .own⟩ := eb ▸ gnew
  have gab := fb.keep wa ga (fun f => f)
  have sb : hb.size = ha.size + 1 := by rw [← eb]; rfl
  obtain ⟨hc0, ec⟩ : ∃ g, hb.new ⟨[.int .i64 0, .int .i64 0, .int .i64 0, .slice none 0 0], .own⟩ = g := ⟨_, rfl⟩
  have wc : Wf hc0 := ec ▸ wb.new
  have fc : Fm No hb hc0 := ec ▸ Fm.new Fm.refl
  have gc : hc0.get hb.size = some ⟨[.int .i64 0, .int .i64 0, .int .i64 0, .slice none 0 0], .own⟩ := ec ▸ gnew
  have gac := fc.keep wb gab (fun f => f)
  have gbc := fc.keep wb gb (fun f => f)
  have sc : hc0.size = hb.size + 1 := by rw [← ec]; rfl
  have fac : Fm No h hc0 := (fa.trans fb fun _ _ x => x).trans fc fun _ _ x => x
  have n4 : ∀ g, Fm No hc0 g → g.rdN h.size 0 4 = some [.int .i64 cv.wd, .int .i64 cv.hg, .int .i64 cv.bt, .slice oa cv.pl.length c] := fun g fg => rdN_mk (fg.keep wc gac (fun f => f)) (by simp)
  have n5 : ∀ g, Fm No hc0 g → g.rdN ha.size 0 4 = some [.int .i64 m.wd, .int .i64 m.hg, .int .i64 m.bt, .slice ob m.pl.length d] := fun g fg => rdN_mk (fg.keep wc gbc (fun f => f)) (by simp)
  have put : ∀ (g : Hp) (x : List Value), Wf g → Fm No h g → g.get hb.size = some ⟨[.int .i64 0, .int .i64 0, .int .i64 0, .slice none 0 0], .own⟩ → x.length = 4 → ∃ g', g.put hb.size ⟨x, .own⟩ = g' ∧ g'.rdN hb.size 0 4 = some x ∧ Fm (fun z => z = hb.size) g g' ∧ Fm No h g' := fun g x wg fg hg hx => by
    have fp : Fm (fun z => z = hb.size) g (g.put hb.size ⟨x, .own⟩) := Fm.put Fm.refl fun _ => rfl
    refine ⟨_, rfl, ?_, fp, fg.trans fp fun z hz hy => by have : z = hb.size := hy; omega⟩
    rw [rdN_mk gput (by simp [hx])]
    simp [← hx]
  simp +contextual (disch := omega) only [↓AM, ↓AV, AP, CQ, imC, ea, eb, ec, n4 hc0 Fm.refl, n5 hc0 Fm.refl]
  refine WL.mk (fun k t h' => ∃ (i : Nat), Wf h' ∧ Fm No hc0 h' ∧ i ≤ 2 ∧ k = 2 - i ∧ (1 ≤ i → pchk cv = 0) ∧ (2 ≤ i → pchk m = 0) ∧
      t = [(2, some (.int .i64 x)), (3, some (.int .i64 y)), (4, some (.pointer (some ⟨h.size, 0, none⟩))), (5, some (.pointer (some ⟨ha.size, 0, none⟩))), (8, some (.pointer (some ⟨hb.size, 0, none⟩))),
        (16, some (.agg #[.int .i64 cv.wd, .int .i64 cv.hg, .int .i64 cv.bt, .slice oa cv.pl.length c, .int .i64 m.wd, .int .i64 m.hg, .int .i64 m.bt, .slice ob m.pl.length d])), (17, some (.int .i64 (i : Int)))])
    ⟨2, 0, wc, Fm.refl, by omega, rfl, by omega, by omega, rfl⟩ ?_
  rintro k t hA ⟨i, wA, fA, hi, rfl, p1, p2, rfl⟩
  have gA8 := fA.keep wc gc (fun f => f)
  have fhA := fac.trans fA fun _ _ x => x
  have hl8 : [Value.int .i64 cv.wd, .int .i64 cv.hg, .int .i64 cv.bt, .slice oa cv.pl.length c, .int .i64 m.wd, .int .i64 m.hg, .int .i64 m.bt, .slice ob m.pl.length d].length = 8 := rfl
  have td0 : List.take 4 (List.drop (0 * 4) [Value.int .i64 cv.wd, .int .i64 cv.hg, .int .i64 cv.bt, .slice oa cv.pl.length c, .int .i64 m.wd, .int .i64 m.hg, .int .i64 m.bt, .slice ob m.pl.length d]) = [.int .i64 cv.wd, .int .i64 cv.hg, .int .i64 cv.bt, .slice oa cv.pl.length c] := rfl
  have td1 : List.take 4 (List.drop 4 [Value.int .i64 cv.wd, .int .i64 cv.hg, .int .i64 cv.bt, .slice oa cv.pl.length c, .int .i64 m.wd, .int .i64 m.hg, .int .i64 m.bt, .slice ob m.pl.length d]) = [.int .i64 m.wd, .int .i64 m.hg, .int .i64 m.bt, .slice ob m.pl.length d] := rfl
  have k00 : ((0 : Nat) : Int) < 2 := by decide
  have k01 : ((1 : Nat) : Int) < 2 := by decide
  have k02 : ¬ ((2 : Nat) : Int) < 2 := by decide
  have k03 : 0 * 4 + 4 ≤ 8 := by decide
  have k04 : 4 + 4 ≤ 8 := by decide
  have k05 : 0 < 2 := by decide
  have k06 : 1 < 2 := by decide
  have hi3 : i = 0 ∨ i = 1 ∨ i = 2 := by omega
  rcases hi3 with rfl | rfl | rfl
  · obtain ⟨h1, e1⟩ : ∃ g, hA.new ⟨[.int .i64 cv.wd, .int .i64 cv.hg, .int .i64 cv.bt, .slice oa cv.pl.length c], .own⟩ = g := ⟨_, rfl⟩
    have w1 : Wf h1 := e1 ▸ wA.new
    have f1 : Fm No hA h1 := e1 ▸ Fm.new Fm.refl
    have g1 : h1.rdN hA.size 0 4 = some [.int .i64 cv.wd, .int .i64 cv.hg, .int .i64 cv.bt, .slice oa cv.pl.length c] := rdN_mk (e1 ▸ gnew) (by simp)
    simp +contextual (disch := omega) only [↓AM, ↓AV, AP, CQ, imC, ea, eb, ec, e1, g1, hl8, td0, td1, k00, k01, k03, k04, k05, k06]
    refine (c_pcheck ((r.keep wf fhA).keep wA f1) hz).use ?_
    rintro _ h2 w2 ⟨rfl, f2⟩
    have fA2 : Fm No hA h2 := f1.trans f2 fun _ _ x => x
    by_cases hp : pchk cv = 0
    · simp +contextual (disch := omega) only [↓AM, ↓AV, AP, CQ, EqI, hp, ea, eb, ec, e1]
      exact ⟨1, by omega, 1, w2, fA.trans fA2 fun _ _ x => x, by omega, rfl, fun _ => trivial, by omega, rfl⟩
    · obtain ⟨g', k1, k2, k3, k4⟩ := put h2 [.int .i64 0, .int .i64 0, .int .i64 0, .slice none 0 0] w2 (fhA.trans fA2 fun _ _ x => x) (fA2.keep wA gA8 (fun f => f)) rfl
      have g82 := fA2.keep wA gA8 (fun f => f)
      simp +contextual (disch := omega) only [↓AM, ↓AV, AP, CQ, EqI, hp, ea, eb, ec, e1, g82, spl_S, spl_0, spl_00, k1, k2]
      have he := overE_1 (m := m) (x := x) (y := y) hp
      exact ⟨⟨_, by rw [he], by rw [overR_ne (by rw [he]; exact hp)]; exact oi_zero⟩, k4⟩
  · obtain ⟨h1, e1⟩ : ∃ g, hA.new ⟨[.int .i64 m.wd, .int .i64 m.hg, .int .i64 m.bt, .slice ob m.pl.length d], .own⟩ = g := ⟨_, rfl⟩
    have w1 : Wf h1 := e1 ▸ wA.new
    have f1 : Fm No hA h1 := e1 ▸ Fm.new Fm.refl
    have g1 : h1.rdN hA.size 0 4 = some [.int .i64 m.wd, .int .i64 m.hg, .int .i64 m.bt, .slice ob m.pl.length d] := rdN_mk (e1 ▸ gnew) (by simp)
    simp +contextual (disch := omega) only [↓AM, ↓AV, AP, CQ, imC, ea, eb, ec, e1, g1, hl8, td0, td1, k00, k01, k03, k04, k05, k06]
    refine (c_pcheck ((rm.keep wf fhA).keep wA f1) hzm).use ?_
    rintro _ h2 w2 ⟨rfl, f2⟩
    have fA2 : Fm No hA h2 := f1.trans f2 fun _ _ x => x
    by_cases hp : pchk m = 0
    · simp +contextual (disch := omega) only [↓AM, ↓AV, AP, CQ, EqI, hp, ea, eb, ec, e1]
      exact ⟨0, by omega, 2, w2, fA.trans fA2 fun _ _ x => x, by omega, rfl, fun _ => p1 (Nat.le_refl _), fun _ => trivial, rfl⟩
    · obtain ⟨g', k1, k2, k3, k4⟩ := put h2 [.int .i64 0, .int .i64 0, .int .i64 0, .slice none 0 0] w2 (fhA.trans fA2 fun _ _ x => x) (fA2.keep wA gA8 (fun f => f)) rfl
      have g82 := fA2.keep wA gA8 (fun f => f)
      simp +contextual (disch := omega) only [↓AM, ↓AV, AP, CQ, EqI, hp, ea, eb, ec, e1, g82, spl_S, spl_0, spl_00, k1, k2]
      have he := overE_2 (x := x) (y := y) (p1 (Nat.le_refl _)) hp
      exact ⟨⟨_, by rw [he], by rw [overR_ne (by rw [he]; exact hp)]; exact oi_zero⟩, k4⟩
  · have q1 := p1 (by omega)
    have q2 := p2 (by omega)
    have zer := put hA [.int .i64 0, .int .i64 0, .int .i64 0, .slice none 0 0] wA fhA gA8 rfl
    obtain ⟨g', k1, k2, k3, k4⟩ := zer
    simp +contextual (disch := omega) only [↓AM, ↓AV, AP, CQ, ea, eb, ec, k02]
    refine c_iw.use ?_
    rintro _ h9 _ ⟨rfl, e9⟩
    subst h9
    by_cases c1 : -64 ≤ x ∧ x ≤ 64
    case neg =>
      simp +contextual (disch := omega) only [↓AM, ↓AV, AP, CQ, ea, eb, ec, c1, gA8, spl_S, spl_0, spl_00, k1, k2]
      have he := overE_3 q1 q2 (x := x) (y := y) (fun z => c1 z.1)
      exact ⟨⟨_, by rw [he], by rw [overR_ne (by rw [he]; decide)]; exact oi_zero⟩, k4⟩
    simp +contextual (disch := omega) only [↓AM, ↓AV, AP, CQ, ea, eb, ec, c1]
    refine c_iw.use ?_
    rintro _ h9 _ ⟨rfl, e9⟩
    subst h9
    by_cases c2 : -64 ≤ y ∧ y ≤ 64
    case neg =>
      simp +contextual (disch := omega) only [↓AM, ↓AV, AP, CQ, ea, eb, ec, c1, c2, gA8, spl_S, spl_0, spl_00, k1, k2]
      have he := overE_3 q1 q2 (x := x) (y := y) (fun z => c2 z.2)
      exact ⟨⟨_, by rw [he], by rw [overR_ne (by rw [he]; decide)]; exact oi_zero⟩, k4⟩
    have gA4 := fA.keep wc gac (fun f => f)
    have gA5 := fA.keep wc gbc (fun f => f)
    by_cases c3 : cv.bt = m.bt
    case neg =>
      simp +contextual (disch := omega) only [↓AM, ↓AV, AP, CQ, EqI, ea, eb, ec, c1, c2, c3, rd_mk gA4, rd_mk gA5, gA8, spl_S, spl_0, spl_00, k1, k2]
      have he := overE_4 q1 q2 ⟨c1, c2⟩ (fun z => c3 z.1)
      exact ⟨⟨_, by rw [he], by rw [overR_ne (by rw [he]; decide)]; exact oi_zero⟩, k4⟩
    by_cases c4 : cv.pl.length = m.pl.length
    case neg =>
      have c4' : ¬ ((cv.pl.length : Int) = (m.pl.length : Int)) := by omega
      simp +contextual (disch := omega) only [↓AM, ↓AV, AP, CQ, EqI, ea, eb, ec, c1, c2, c3, c4, c4', rd_mk gA4, rd_mk gA5, gA8, spl_S, spl_0, spl_00, k1, k2]
      have he := overE_4 q1 q2 ⟨c1, c2⟩ (fun z => c4 z.2)
      exact ⟨⟨_, by rw [he], by rw [overR_ne (by rw [he]; decide)]; exact oi_zero⟩, k4⟩
    have he := overE_5 q1 q2 ⟨c1, c2⟩ ⟨c3, c4⟩
    have gcv := (pchk_good.1 q1)
    have gm := (pchk_good.1 q2)
    have c4' : ((cv.pl.length : Int) = (m.pl.length : Int)) = True := eq_true (by omega)
    have c3' : (cv.bt = m.bt) = True := eq_true c3
    simp +contextual (disch := omega) only [↓AM, ↓AV, AP, CQ, EqI, ea, eb, ec, c1, c2, c3', c4', n4 hA fA, rd_mk gA4, rd_mk gA5]
    -- the clone
    refine (c_clone (r.keep wf fhA) hc gcv.sm).use ?_
    rintro _ h1 w1 ⟨⟨oa1, c1', bs, rfl, o1, lc1⟩, f1⟩
    have fA1 := fA.trans f1 fun _ _ x => x
    have fh1 := fhA.trans f1 fun _ _ x => x
    obtain ⟨h2, e2⟩ : ∃ g, h1.new ⟨imC cv oa1 c1', .own⟩ = g := ⟨_, rfl⟩
    have w2 : Wf h2 := e2 ▸ w1.new
    have f2 : Fm No h1 h2 := e2 ▸ Fm.new Fm.refl
    have g2 : h2.get h1.size = some ⟨imC cv oa1 c1', .own⟩ := e2 ▸ gnew
    have s2 : h2.size = h1.size + 1 := by rw [← e2]; rfl
    have fA2 := fA1.trans f2 fun _ _ x => x
    have fh2 := fh1.trans f2 fun _ _ x => x
    have inlt := o1.inlt w1
    have n2 : h2.rdN h1.size 0 4 = some (imC cv oa1 c1') := rdN_mk g2 (by simp [imC])
    have e2' := e2
    simp only [imC] at e2' n2
    have sA := fA.size
    have s1 := f1.size
    have keepB : ∀ g, Fm (InB bs) h2 g → R2 g ob m.pl ∧ g.get h1.size = some ⟨imC cv oa1 c1', .own⟩ ∧ g.get hb.size = some ⟨[.int .i64 0, .int .i64 0, .int .i64 0, .slice none 0 0], .own⟩ ∧ Fm No h g := fun g fg => by
      have f' : Fm (InB bs) h g := (fh2.mono fun _ _ f => f.elim).trans fg fun _ _ x => x
      have sh : h.size ≤ hc0.size := fac.size
      have hno : ∀ z, z < hA.size → ¬ InB bs z := fun z hz f => by have := (inlt _ f).1; omega
      refine ⟨rm.keepW wf f' fun z hz => hno z (by omega), fg.keep w2 g2 fun f => ?_, fg.keep w2 (fA2.keep wc gc (fun f => f)) (hno _ (by omega)), fh2.trans fg fun z hz f => (hno z (by omega) f).elim⟩
      have := (inlt _ f).2
      omega
    simp +contextual (disch := omega) only [↓AM, ↓AV, AP, CQ, imC, ea, eb, ec, e2', n2, n5 h2 fA2]
    refine (c_put (o1.keepN w1 f2) gcv.fit gm.fit c4.symm (by omega) (by omega) fun g fg => (keepB g fg).1).use ?_
    rintro _ h3 w3 ⟨o3, f3⟩
    obtain ⟨_, g3, g38, f03⟩ := keepB h3 f3
    have n3 : h3.rdN h1.size 0 4 = some (imC cv oa1 c1') := rdN_mk g3 (by simp [imC])
    simp only [imC] at n3
    obtain ⟨g', k1, k2, k3, k4⟩ := put h3 [.int .i64 cv.wd, .int .i64 cv.hg, .int .i64 cv.bt, .slice oa1 cv.pl.length c1'] w3 f03 g38 rfl
    simp +contextual (disch := omega) only [↓AM, ↓AV, AP, CQ, imC, ea, eb, ec, e2', n3, g38, spl_S, spl_0, spl_00, k1, k2]
    refine ⟨⟨_, by rw [he], ?_⟩, k4⟩
    rw [overR_0 he]
    refine ⟨oa1, c1', bs, ?_, (o3.keepB w3 k3 fun z hz => by have : z = hb.size := hz; omega).older (by have := fhA.size; omega), by rw [drI_len]; exact lc1⟩
    simp [imC, Im.wd, Im.hg, Im.bt, Im.pl, drI, drA, stD_len]
theorem c_rOver {h : Hp} {cv m : Im} {oa ob : Option Addr} {c d : Nat} {x y : Int} (r : R2 h oa cv.pl) (rm : R2 h ob m.pl) (hz : Sz cv.pl) (hzm : Sz m.pl) :
    ACalls Tryz.prog 26 [.agg (imC cv oa c).toArray, .agg (imC m ob d).toArray, .int .i64 x, .int .i64 y] h fun v h' => (∃ u, v = .tuple #[u, .int .i64 (overE cv m x y)] ∧ OI h h' u (overR cv m x y)) ∧ Fm No h h' := by
  refine dioramaref15_Over_ok.snd Af.hm rfl fun wf => ?_
  rw [WF_eq, dioramaref15_Over]
  obtain ⟨ha, ea⟩ : ∃ g, h.new ⟨[.int .i64 cv.wd, .int .i64 cv.hg, .int .i64 cv.bt, .slice oa cv.pl.length c], .own⟩ = g := ⟨_, rfl⟩
  have wa : Wf ha := ea ▸ wf.new
  have fa : Fm No h ha := ea ▸ Fm.new Fm.refl
  have ga : ha.get h.size = some ⟨[.int .i64 cv.wd, .int .i64 cv.hg, .int .i64 cv.bt, .slice oa cv.pl.length c], .own⟩ := ea ▸ gnew
  have sa : ha.size = h.size + 1 := by rw [← ea]; rfl
  obtain ⟨hb, eb⟩ : ∃ g, ha.new ⟨[.int .i64 m.wd, .int .i64 m.hg, .int .i64 m.bt, .slice ob m.pl.length d], .own⟩ = g := ⟨_, rfl⟩
  have wb : Wf hb := eb ▸ wa.new
  have fb : Fm No ha hb := eb ▸ Fm.new Fm.refl
  have gb : hb.get ha.size = some ⟨[.int .i64 m.wd, .int .i64 m.hg, .int .i64 m.bt, .slice ob m.pl.length d], .own⟩ := eb ▸ gnew
  have gab := fb.keep wa ga (fun f => f)
  have sb : hb.size = ha.size + 1 := by rw [← eb]; rfl
  obtain ⟨hc0, ec⟩ : ∃ g, hb.new ⟨[.int .i64 0, .int .i64 0, .int .i64 0, .slice none 0 0], .own⟩ = g := ⟨_, rfl⟩
  have wc : Wf hc0 := ec ▸ wb.new
  have fc : Fm No hb hc0 := ec ▸ Fm.new Fm.refl
  have gc : hc0.get hb.size = some ⟨[.int .i64 0, .int .i64 0, .int .i64 0, .slice none 0 0], .own⟩ := ec ▸ gnew
  have gac := fc.keep wb gab (fun f => f)
  have gbc := fc.keep wb gb (fun f => f)
  have sc : hc0.size = hb.size + 1 := by rw [← ec]; rfl
  have fac : Fm No h hc0 := (fa.trans fb fun _ _ x => x).trans fc fun _ _ x => x
  have n4 : ∀ g, Fm No hc0 g → g.rdN h.size 0 4 = some [.int .i64 cv.wd, .int .i64 cv.hg, .int .i64 cv.bt, .slice oa cv.pl.length c] := fun g fg => rdN_mk (fg.keep wc gac (fun f => f)) (by simp)
  have n5 : ∀ g, Fm No hc0 g → g.rdN ha.size 0 4 = some [.int .i64 m.wd, .int .i64 m.hg, .int .i64 m.bt, .slice ob m.pl.length d] := fun g fg => rdN_mk (fg.keep wc gbc (fun f => f)) (by simp)
  have put : ∀ (g : Hp) (x : List Value), Wf g → Fm No hc0 g → x.length = 4 → ∃ g', g.put hb.size ⟨x, .own⟩ = g' ∧ g.get hb.size = some ⟨[.int .i64 0, .int .i64 0, .int .i64 0, .slice none 0 0], .own⟩ ∧ g'.rdN hb.size 0 4 = some x ∧ Fm (fun z => z = hb.size) g g' ∧ Fm No h g' := fun g x wg fg hx => by
    have fp : Fm (fun z => z = hb.size) g (g.put hb.size ⟨x, .own⟩) := Fm.put Fm.refl fun _ => rfl
    refine ⟨_, rfl, fg.keep wc gc (fun f => f), ?_, fp, (fac.trans fg fun _ _ x => x).trans fp fun z hz hy => by have : z = hb.size := hy; omega⟩
    rw [rdN_mk gput (by simp [hx])]
    simp [← hx]
  simp +contextual (disch := omega) only [↓AM, ↓AV, AP, CQ, imC, ea, eb, ec, n4 hc0 Fm.refl]
  refine (c_rcheck (r.keep wf fac) hz).use ?_
  rintro _ h1 w1 ⟨rfl, f1⟩
  by_cases hp : pchk cv = 0
  case neg =>
    obtain ⟨g', k1, k0, k2, k3, k4⟩ := put h1 [.int .i64 0, .int .i64 0, .int .i64 0, .slice none 0 0] w1 f1 rfl
    simp +contextual (disch := omega) only [↓AM, ↓AV, AP, CQ, EqI, hp, ea, eb, ec, k0, spl_S, spl_0, spl_00, k1, k2]
    have he := overE_1 (m := m) (x := x) (y := y) hp
    exact ⟨⟨_, by rw [he], by rw [overR_ne (by rw [he]; exact hp)]; exact oi_zero⟩, k4⟩
  simp +contextual (disch := omega) only [↓AM, ↓AV, AP, CQ, EqI, hp, ea, eb, ec, n5 h1 f1]
  refine (c_rcheck ((rm.keep wf fac).keep wc f1) hzm).use ?_
  rintro _ h2 w2 ⟨rfl, f2⟩
  have f12 := f1.trans f2 fun _ _ x => x
  obtain ⟨g', k1, k0, k2, k3, k4⟩ := put h2 [.int .i64 0, .int .i64 0, .int .i64 0, .slice none 0 0] w2 f12 rfl
  by_cases hq : pchk m = 0
  case neg =>
    simp +contextual (disch := omega) only [↓AM, ↓AV, AP, CQ, EqI, hq, ea, eb, ec, k0, spl_S, spl_0, spl_00, k1, k2]
    have he := overE_2 (x := x) (y := y) hp hq
    exact ⟨⟨_, by rw [he], by rw [overR_ne (by rw [he]; exact hq)]; exact oi_zero⟩, k4⟩
  simp +contextual (disch := omega) only [↓AM, ↓AV, AP, CQ, EqI, hq, ea, eb, ec]
  refine c_in15.use ?_
  rintro _ h9 _ ⟨rfl, e9⟩
  subst h9
  by_cases c1 : -64 ≤ x ∧ x ≤ 64
  case neg =>
    simp +contextual (disch := omega) only [↓AM, ↓AV, AP, CQ, ea, eb, ec, c1, k0, spl_S, spl_0, spl_00, k1, k2]
    have he := overE_3 hp hq (x := x) (y := y) (fun z => c1 z.1)
    exact ⟨⟨_, by rw [he], by rw [overR_ne (by rw [he]; decide)]; exact oi_zero⟩, k4⟩
  simp +contextual (disch := omega) only [↓AM, ↓AV, AP, CQ, ea, eb, ec, c1]
  refine c_in15.use ?_
  rintro _ h9 _ ⟨rfl, e9⟩
  subst h9
  by_cases c2 : -64 ≤ y ∧ y ≤ 64
  case neg =>
    simp +contextual (disch := omega) only [↓AM, ↓AV, AP, CQ, ea, eb, ec, c1, c2, k0, spl_S, spl_0, spl_00, k1, k2]
    have he := overE_3 hp hq (x := x) (y := y) (fun z => c2 z.2)
    exact ⟨⟨_, by rw [he], by rw [overR_ne (by rw [he]; decide)]; exact oi_zero⟩, k4⟩
  have gA4 := f12.keep wc gac (fun f => f)
  have gA5 := f12.keep wc gbc (fun f => f)
  by_cases c3 : cv.bt = m.bt
  case neg =>
    simp +contextual (disch := omega) only [↓AM, ↓AV, AP, CQ, EqI, ea, eb, ec, c1, c2, c3, rd_mk gA4, rd_mk gA5, k0, spl_S, spl_0, spl_00, k1, k2]
    have he := overE_4 hp hq ⟨c1, c2⟩ (fun z => c3 z.1)
    exact ⟨⟨_, by rw [he], by rw [overR_ne (by rw [he]; decide)]; exact oi_zero⟩, k4⟩
  by_cases c4 : cv.pl.length = m.pl.length
  case neg =>
    have c4' : ¬ ((cv.pl.length : Int) = (m.pl.length : Int)) := by omega
    simp +contextual (disch := omega) only [↓AM, ↓AV, AP, CQ, EqI, ea, eb, ec, c1, c2, c3, c4, c4', rd_mk gA4, rd_mk gA5, k0, spl_S, spl_0, spl_00, k1, k2]
    have he := overE_4 hp hq ⟨c1, c2⟩ (fun z => c4 z.2)
    exact ⟨⟨_, by rw [he], by rw [overR_ne (by rw [he]; decide)]; exact oi_zero⟩, k4⟩
  have he := overE_5 hp hq ⟨c1, c2⟩ ⟨c3, c4⟩
  have gcv := (pchk_good.1 hp)
  have gm := (pchk_good.1 hq)
  have c4' : ((cv.pl.length : Int) = (m.pl.length : Int)) = True := eq_true (by omega)
  have c3' : (cv.bt = m.bt) = True := eq_true c3
  simp +contextual (disch := omega) only [↓AM, ↓AV, AP, CQ, EqI, ea, eb, ec, c1, c2, c3', c4', n4 h2 f12, n5 h2 f12, rd_mk gA4, rd_mk gA5]
  have fh2 := fac.trans f12 fun _ _ x => x
  refine (c_drawn (x := x) (y := y) (r.keep wf fh2) (rm.keep wf fh2) gcv.fit gm.fit c4.symm (by omega) (by omega)).use ?_
  rintro _ h3 w3 ⟨oi, f3⟩
  obtain ⟨oc, cc, bsc, rfl, o3, l3⟩ := oi
  obtain ⟨g'', j1, j0, j2, j3, j4⟩ := put h3 (imC (drI cv m x y) oc cc) w3 (f12.trans f3 fun _ _ x => x) rfl
  simp only [imC] at j1 j2
  simp +contextual (disch := omega) only [↓AM, ↓AV, AP, CQ, imC, ea, eb, ec, j0, spl_S, spl_0, spl_00, j1, j2]
  refine ⟨⟨_, by rw [he], ?_⟩, j4⟩
  rw [overR_0 he]
  exact ⟨oc, cc, bsc, rfl, (o3.keepB w3 j3 fun z hz => by have : z = hb.size := hz; have := f12.size; omega).older fh2.size, l3⟩
end Go.Proofs.YtmkcngcnedjfkaaGreat.It

/- The law ItemTurns: a picture turned and flipped. The walk over the abstract machine.
   Conditions: none. -/
namespace Go.Proofs.YtmkcngcnedjfkaaGreat.LItemTurns
open Go Go.RowKit Go.Proofs.YtmkcngcnedjfkaaGreat.Am Go.Proofs.YtmkcngcnedjfkaaGreat.Af Go.Proofs.YtmkcngcnedjfkaaGreat.Md Go.Proofs.YtmkcngcnedjfkaaGreat.It
set_option linter.unusedVariables false
set_option linter.unusedSimpArgs false
set_option linter.defProp false
set_option maxRecDepth 20000
set_option maxHeartbeats 2000000

abbrev imK : AKd Im := AKd.pair (AKd.int .i64) (AKd.pair (AKd.int .i64) (AKd.pair (AKd.int .i64) (AKd.slice (AKd.slice (AKd.int .i64)))))
theorem im_open {h : Hp} {x : Im} {cs : List Value} (a : imK.A h x cs) : ∃ oa c, cs = imC x oa c ∧ R2 h oa x.pl ∧ x.pl.length ≤ c := by
  obtain ⟨c1, c2, rfl, h1, c3, c4, rfl, h2, c5, c6, rfl, h3, h4⟩ := a
  have h1 : c1 = [.int .i64 x.1] := h1
  have h2 : c3 = [.int .i64 x.2.1] := h2
  have h3 : c5 = [.int .i64 x.2.2.1] := h3
  obtain ⟨oa, c, rfl, r, l⟩ := R2.of h4
  exact ⟨oa, c, by rw [h1, h2, h3]; rfl, r, l⟩
theorem bytes1 : 1 ≤ Tryz.prog.bytesOf 3 := by decide +kernel
theorem bytes2 : 1 ≤ Tryz.prog.bytesOf 39 := by decide +kernel
theorem sz_of {ls : List (List Int)} {a b : Nat} (ha : 1 ≤ a) (hb : 1 ≤ b) (h1 : ls.length * a ≤ 140737488351232) (h2 : ∀ x ∈ ls, x.length * b ≤ 140737488351232) : Sz ls :=
  ⟨Nat.le_trans (Nat.le_mul_of_pos_right _ ha) h1, fun l hl => Nat.le_trans (Nat.le_mul_of_pos_right _ hb) (h2 l hl)⟩
/-- Rows that are there whatever the boxes s and t get. -/
def K2 (h : Hp) (s t : Nat) (oa : Option Addr) (ls : List (List Int)) : Prop := ∀ g, Fm (fun x => x = s ∨ x = t) h g → R2 g oa ls
theorem K2.of {h : Hp} {s t : Nat} {oa : Option Addr} {ls : List (List Int)} (r : R2 h oa ls) (w : Wf h) (hs : h.size ≤ s) (ht : h.size ≤ t) : K2 h s t oa ls := fun g f => r.keepW w f fun x hx e => by rcases e with e | e <;> omega
theorem K2.keep {h h' : Hp} {s t : Nat} {oa : Option Addr} {ls : List (List Int)} (k : K2 h s t oa ls) (f : Fm (fun x => x = s ∨ x = t) h h') : K2 h' s t oa ls := fun g fg => k g (f.trans fg fun _ _ x => x)
theorem K2.keepN {h h' : Hp} {s t : Nat} {oa : Option Addr} {ls : List (List Int)} (k : K2 h s t oa ls) (f : Fm No h h') : K2 h' s t oa ls := k.keep (f.mono fun _ _ f => f.elim)
theorem K2.r2 {h : Hp} {s t : Nat} {oa : Option Addr} {ls : List (List Int)} (k : K2 h s t oa ls) : R2 h oa ls := k h Fm.refl
theorem k2_o2 {h0 h : Hp} {s t : Nat} {oa : Option Addr} {c : Nat} {ls : List (List Int)} {bs : Bl} (o : O2 h0 h oa c ls bs []) (w : Wf h) (hs : s < h0.size) (ht : t < h0.size) : K2 h s t oa ls := fun g f => (o.keepB w f fun x hx => by rcases hx with e | e <;> omega).r2

theorem core {h : Hp} (m : Im) (a b : Int) (f : Bool) {oa : Option Addr} {c : Nat} (r : R2 h oa m.pl) (hc : m.pl.length ≤ c) (hz : Sz m.pl) :
    ACalls Tryz.prog 3 [.agg #[.int .i64 m.wd, .int .i64 m.hg, .int .i64 m.bt, .slice oa m.pl.length c, .int .i64 a, .int .i64 b, .bool f]] h fun v h' => v = .bool true := by
  refine dioramalaw15_ItemTurns_ok.snd Af.hm rfl fun w => ?_
  rw [WF_eq, dioramalaw15_ItemTurns]
  obtain ⟨ha, ea⟩ : ∃ g, h.new ⟨[.int .i64 m.wd, .int .i64 m.hg, .int .i64 m.bt, .slice oa m.pl.length c, .int .i64 a, .int .i64 b, .bool f], .own⟩ = g := ⟨_, rfl⟩
  have wa : Wf ha := ea ▸ w.new
  have fa : Fm No h ha := ea ▸ Fm.new Fm.refl
  have ga : ha.get h.size = some ⟨[.int .i64 m.wd, .int .i64 m.hg, .int .i64 m.bt, .slice oa m.pl.length c, .int .i64 a, .int .i64 b, .bool f], .own⟩ := ea ▸ gnew
  have sa : ha.size = h.size + 1 := by rw [← ea]; rfl
  have na : ha.rdN h.size 0 4 = some [.int .i64 m.wd, .int .i64 m.hg, .int .i64 m.bt, .slice oa m.pl.length c] := rdN_mk ga (by simp)
  obtain ⟨hb, eb⟩ : ∃ g, ha.new ⟨[.int .i64 m.wd, .int .i64 m.hg, .int .i64 m.bt, .slice oa m.pl.length c], .own⟩ = g := ⟨_, rfl⟩
  have wb : Wf hb := eb ▸ wa.new
  have fb : Fm No ha hb := eb ▸ Fm.new Fm.refl
  have gb : hb.get ha.size = some ⟨[.int .i64 m.wd, .int .i64 m.hg, .int .i64 m.bt, .slice oa m.pl.length c], .own⟩ := eb ▸ gnew
  have sb : hb.size = ha.size + 1 := by rw [← eb]; rfl
  have fab : Fm No h hb := fa.trans fb fun _ _ x => x
  have nb : ∀ g, Fm No hb g → g.rdN ha.size 0 4 = some [.int .i64 m.wd, .int .i64 m.hg, .int .i64 m.bt, .slice oa m.pl.length c] := fun g fg => rdN_mk (fg.keep wb gb (fun f => f)) (by simp)
  have rb := r.keep w fab
  have gab := fb.keep wa ga (fun f => f)
  simp +contextual (disch := omega) only [↓AM, ↓AV, AP, CQ, ea, na, rd_mk ga, rd_mk gab, eb, nb hb Fm.refl]
  refine (c_plain rb hz).use ?_
  rintro _ h1 w1 ⟨rfl, f1⟩
  by_cases hpl : plainB m = true
  case neg => simp +contextual (disch := omega) only [↓AM, ↓AV, AP, CQ, hpl]
  simp +contextual (disch := omega) only [↓AM, ↓AV, AP, CQ, hpl, ea, eb, nb h1 f1]
  -- the first turn, the program's
  refine (c_Turn (f := f) (rb.keep wb f1) hc hz).use ?_
  rintro _ h2 w2 ⟨⟨u, rfl, ou⟩, f2⟩
  have f12 : Fm No hb h2 := f1.trans f2 fun _ _ x => x
  obtain ⟨ox, cx, bx, rfl, o2x, lx⟩ := ou
  obtain ⟨x, hx⟩ : ∃ x, turnR m a f = x := ⟨_, rfl⟩
  rw [hx] at o2x lx
  obtain ⟨h3, e3⟩ : ∃ g, h2.new ⟨imC x ox cx, .own⟩ = g := ⟨_, rfl⟩
  have w3 : Wf h3 := e3 ▸ w2.new
  have f3 : Fm No h2 h3 := e3 ▸ Fm.new Fm.refl
  have g3 : h3.get h2.size = some ⟨imC x ox cx, .own⟩ := e3 ▸ gnew
  have s3 : h3.size = h2.size + 1 := by rw [← e3]; rfl
  have f13 : Fm No hb h3 := f12.trans f3 fun _ _ x => x
  have e3' := e3
  simp only [imC] at e3'
  simp +contextual (disch := omega) only [↓AM, ↓AV, AP, CQ, imC, hx, ea, eb, e3', nb h3 f13]
  -- the document's
  refine (c_rTurn (f := f) (rb.keep wb f13) hz).use ?_
  rintro _ h4 w4 ⟨⟨u, rfl, ou⟩, f4⟩
  have f14 : Fm No hb h4 := f13.trans f4 fun _ _ x => x
  obtain ⟨oy, cy, by_, rfl, o2y, ly⟩ := ou
  rw [hx] at o2y ly
  obtain ⟨h5, e5⟩ : ∃ g, h4.new ⟨imC x oy cy, .own⟩ = g := ⟨_, rfl⟩
  have w5 : Wf h5 := e5 ▸ w4.new
  have f5 : Fm No h4 h5 := e5 ▸ Fm.new Fm.refl
  have g5 : h5.get h4.size = some ⟨imC x oy cy, .own⟩ := e5 ▸ gnew
  have s5 : h5.size = h4.size + 1 := by rw [← e5]; rfl
  have f15 : Fm No hb h5 := f14.trans f5 fun _ _ x => x
  have f35 : Fm No h3 h5 := f4.trans f5 fun _ _ x => x
  have g35 := f35.keep w3 g3 (fun f => f)
  have n3 : h5.rdN h2.size 0 4 = some (imC x ox cx) := rdN_mk g35 (by simp [imC])
  have n5 : h5.rdN h4.size 0 4 = some (imC x oy cy) := rdN_mk g5 (by simp [imC])
  have e5' := e5
  simp only [imC] at e5' n3 n5
  have szx : Sz x.pl := by
    rw [← hx]
    unfold turnR
    split
    · rename_i h0
      have gg := (turnE_0.1 h0).1
      unfold turnS
      split
      · exact ((gg.rotN _).flp.sm).sz
      · exact ((gg.rotN _).sm).sz
    · exact ⟨Nat.zero_le _, fun l hl => by cases hl⟩
  simp +contextual (disch := omega) only [↓AM, ↓AV, AP, CQ, imC, hx, ea, eb, e3', e5', n3, n5, It.eqI_self]
  have rx5 := (o2x.r2.keep w2 f3).keep w3 f35
  have ry5 := o2y.r2.keep w4 f5
  refine (c_EqImage rx5 ry5 szx).use ?_
  rintro _ h6 w6 ⟨rfl, f6⟩
  by_cases he : turnE m a = 0
  case neg =>
    simp +contextual (disch := omega) only [↓AM, ↓AV, AP, CQ, EqI, he]
    refine (c_awake h6).use ?_
    rintro _ h7 w7 ⟨rfl, rfl⟩
    simp +contextual (disch := omega) only [↓AM, ↓AV, AP, CQ]
  obtain ⟨g, ha0, ha3⟩ := turnE_0.1 he
  obtain ⟨an, rfl⟩ : ∃ an : Nat, a = an := ⟨a.toNat, by omega⟩
  have han : an ≤ 3 := by omega
  have f16 : Fm No hb h6 := f15.trans f6 fun _ _ x => x
  simp +contextual (disch := omega) only [↓AM, ↓AV, AP, CQ, EqI, he]
  refine c_Within4.use ?_
  rintro _ h6 _ ⟨⟨k, rfl, hk⟩, rfl⟩
  have g36 := f6.keep w5 g35 (fun f => f)
  have g56 := f6.keep w5 g5 (fun f => f)
  -- the boxes of x and y from here on
  have hs2 := f3.size
  have hs35 := f35.size
  have hs6 := f6.size
  have hsb2 := f12.size
  have hs34 := f4.size
  have hne : h2.size < h4.size := by omega
  have put : ∀ (g0 : Hp) (t t' : Nat) (o o' : Ob) (z : List Value), Wf g0 → g0.get t = some o → g0.get t' = some o' → ((t = h2.size ∧ t' = h4.size) ∨ (t = h4.size ∧ t' = h2.size)) → ∃ g', g0.put t ⟨z, .own⟩ = g' ∧ Wf g' ∧ g'.get t = some ⟨z, .own⟩ ∧ g'.get t' = some o' ∧ Fm (fun y => y = h2.size ∨ y = h4.size) g0 g' := fun g0 t t' o o' z wg hg hg' ht => by
    have fp : Fm (fun y => y = t) g0 (g0.put t ⟨z, .own⟩) := Fm.put Fm.refl fun _ => rfl
    refine ⟨_, rfl, wg.put (wg.lt hg), gput, fp.keep wg hg' (fun e => by have : t' = t := e; omega), fp.mono fun y _ e => ?_⟩
    have : y = t := e
    omega
  have box : ∀ g0 g', Fm (fun y => y = h2.size ∨ y = h4.size) g0 g' → Fm No hb g0 → Fm No hb g' := fun g0 g' fg f0 => f0.trans fg fun y hy e => by rcases e with e | e <;> omega
  have big : ∀ g0, Fm No h5 g0 → h4.size < g0.size := fun g0 fg => by have := fg.size; omega
  simp +contextual (disch := omega) only [↓AM, ↓AV, AP, CQ, nb h6 f16]
  -- turned by a
  have ta := turnR_ok (f := false) g han
  refine (c_Turn (f := false) (rb.keep wb f16) hc hz).use ?_
  rintro _ h7 w7 ⟨⟨u, rfl, ou⟩, f7⟩
  rw [ta.2, show turnS m an false = rotN an m from rfl] at ou
  obtain ⟨o7, c7, b7, rfl, o27, l7⟩ := ou
  have g37 := f7.keep w6 g36 (fun f => f)
  have g57 := f7.keep w6 g56 (fun f => f)
  obtain ⟨h8, e8, w8, g8, g58, f8⟩ := put h7 h2.size h4.size _ _ (imC (rotN an m) o7 c7) w7 g37 g57 (.inl ⟨rfl, rfl⟩)
  have e8' := e8
  simp only [imC] at e8'
  have kx8 : K2 h8 h2.size h4.size o7 (rotN an m).pl := (k2_o2 o27 w7 (by omega) (by omega)).keep f8
  have f18 : Fm No hb h8 := box _ _ f8 (f16.trans f7 fun _ _ x => x)
  have n8 : h8.rdN h2.size 0 4 = some (imC (rotN an m) o7 c7) := rdN_mk g8 (by simp [imC])
  simp only [imC] at n8
  have s8 := f8.size
  have s7 := f7.size
  have gak := g.rotN an
  simp +contextual (disch := omega) only [↓AM, ↓AV, AP, CQ, imC, ta.1, g37, spl_S, spl_0, spl_00, e8', EqI, n8]
  -- turned by k then
  have tk := turnR_ok (f := false) gak hk
  refine (c_Turn (f := false) kx8.r2 l7 gak.sm.sz).use ?_
  rintro _ h9 w9 ⟨⟨u, rfl, ou⟩, f9⟩
  rw [tk.2, show turnS (rotN an m) k false = rotN k (rotN an m) from rfl, rotN_add] at ou
  obtain ⟨o9, c9, b9, rfl, o29, l9⟩ := ou
  have s9 := f9.size
  have g39 := f9.keep w8 g8 (fun f => f)
  have g59 := f9.keep w8 g58 (fun f => f)
  obtain ⟨h10, e10, w10, g10, g510, f10⟩ := put h9 h2.size h4.size _ _ (imC (rotN (an + k) m) o9 c9) w9 g39 g59 (.inl ⟨rfl, rfl⟩)
  have e10' := e10
  simp only [imC] at e10' g39
  have kx10 : K2 h10 h2.size h4.size o9 (rotN (an + k) m).pl := (k2_o2 o29 w9 (by omega) (by omega)).keep f10
  have f110 : Fm No hb h10 := box _ _ f10 (f18.trans f9 fun _ _ x => x)
  have hmod : IntKind.i64.wrap ((an : Int) + (k : Int)) = ((an + k : Nat) : Int) := by rw [i64 (by omega)]; rfl
  have hmod2 : IntKind.i64.wrap ((an + k : Nat) : Int) = ((an + k : Nat) : Int) := i64 (by omega)
  have htm : ((an + k : Nat) : Int).tmod 4 = (((an + k) % 4 : Nat) : Int) := by rw [Int.tmod_eq_emod_of_nonneg (by omega)]; omega
  have h40 : (4 : Int) ≠ 0 := by decide
  have hq4 : (an + k) % 4 ≤ 3 := by omega
  simp +contextual (disch := omega) only [↓AM, ↓AV, AP, CQ, imC, tk.1, g39, spl_S, spl_0, spl_00, e10', EqI, nb h10 f110, hmod, hmod2, htm, h40]
  -- at once
  have tq := turnR_ok (f := false) g hq4
  refine (c_Turn (f := false) (rb.keep wb f110) hc hz).use ?_
  rintro _ h11 w11 ⟨⟨u, rfl, ou⟩, f11⟩
  rw [tq.2, show turnS m ((an + k) % 4) false = rotN ((an + k) % 4) m from rfl, ← rotN_mod g] at ou
  obtain ⟨o11, c11, b11, rfl, o211, l11⟩ := ou
  have s11 := f11.size
  have s10 := f10.size
  have g311 := f11.keep w10 g10 (fun f => f)
  have g511 := f11.keep w10 g510 (fun f => f)
  obtain ⟨h12, e12, w12, g12, g312, f12'⟩ := put h11 h4.size h2.size _ _ (imC (rotN (an + k) m) o11 c11) w11 g511 g311 (.inr ⟨rfl, rfl⟩)
  have e12' := e12
  simp only [imC] at e12' g511 g312
  have kx12 : K2 h12 h2.size h4.size o9 (rotN (an + k) m).pl := (kx10.keepN f11).keep f12'
  have ky12 : K2 h12 h2.size h4.size o11 (rotN (an + k) m).pl := (k2_o2 o211 w11 (by omega) (by omega)).keep f12'
  have f112 : Fm No hb h12 := box _ _ f12' (f110.trans f11 fun _ _ x => x)
  have n12 : h12.rdN h2.size 0 4 = some (imC (rotN (an + k) m) o9 c9) := rdN_mk g312 (by simp [imC])
  have m12 : h12.rdN h4.size 0 4 = some (imC (rotN (an + k) m) o11 c11) := rdN_mk g12 (by simp [imC])
  simp only [imC] at n12 m12
  have gak2 := g.rotN (an + k)
  simp +contextual (disch := omega) only [↓AM, ↓AV, AP, CQ, imC, tq.1, g511, spl_S, spl_0, spl_00, e12', EqI, n12, m12]
  refine (c_EqImage kx12.r2 ky12.r2 gak2.sm.sz).use ?_
  rintro _ h13 w13 ⟨rfl, f13'⟩
  have f113 : Fm No hb h13 := f112.trans f13' fun _ _ x => x
  have s12 := f12'.size
  have s13 := f13'.size
  have g313 := f13'.keep w12 g312 (fun f => f)
  have g513 := f13'.keep w12 g12 (fun f => f)
  simp +contextual (disch := omega) only [↓AM, ↓AV, AP, CQ, imC, EqI, It.eqI_self, nb h13 f113]
  -- the mirror
  have t0 := turnR_ok (f := true) g (show 0 ≤ 3 by omega)
  refine (c_Turn (q := 0) (f := true) (rb.keep wb f113) hc hz).use ?_
  rintro _ h14 w14 ⟨⟨u, rfl, ou⟩, f14'⟩
  rw [show (0 : Int) = ((0 : Nat) : Int) from rfl, t0.2, show turnS m 0 true = flpI m from rfl] at ou
  obtain ⟨o14, c14, b14, rfl, o214, l14⟩ := ou
  have s14 := f14'.size
  have g314 := f14'.keep w13 g313 (fun f => f)
  have g514 := f14'.keep w13 g513 (fun f => f)
  obtain ⟨h15, e15, w15, g15, g515, f15'⟩ := put h14 h2.size h4.size _ _ (imC (flpI m) o14 c14) w14 g314 g514 (.inl ⟨rfl, rfl⟩)
  have e15' := e15
  simp only [imC] at e15' g314
  have kx15 : K2 h15 h2.size h4.size o14 (flpI m).pl := (k2_o2 o214 w14 (by omega) (by omega)).keep f15'
  have f115 : Fm No hb h15 := box _ _ f15' (f113.trans f14' fun _ _ x => x)
  have n15 : h15.rdN h2.size 0 4 = some (imC (flpI m) o14 c14) := rdN_mk g15 (by simp [imC])
  simp only [imC] at n15
  have gf := g.flp
  have z0 := t0.1
  simp only [Int.natCast_zero, Int.cast_ofNat_Int] at z0
  simp +contextual (disch := omega) only [↓AM, ↓AV, AP, CQ, imC, z0, g314, spl_S, spl_0, spl_00, e15', EqI, n15]
  -- and back
  have t1 := turnR_ok (f := true) gf (show 0 ≤ 3 by omega)
  refine (c_Turn (q := 0) (f := true) kx15.r2 l14 gf.sm.sz).use ?_
  rintro _ h16 w16 ⟨⟨u, rfl, ou⟩, f16'⟩
  rw [show (0 : Int) = ((0 : Nat) : Int) from rfl, t1.2, show turnS (flpI m) 0 true = flpI (flpI m) from rfl, flpI_2 g] at ou
  obtain ⟨o16, c16, b16, rfl, o216, l16⟩ := ou
  have s15 := f15'.size
  have s16 := f16'.size
  have g316 := f16'.keep w15 g15 (fun f => f)
  have g516 := f16'.keep w15 g515 (fun f => f)
  obtain ⟨h17, e17, w17, g17, g517, f17⟩ := put h16 h2.size h4.size _ _ (imC m o16 c16) w16 g316 g516 (.inl ⟨rfl, rfl⟩)
  have e17' := e17
  simp only [imC] at e17' g316
  have kx17 : K2 h17 h2.size h4.size o16 m.pl := (k2_o2 o216 w16 (by omega) (by omega)).keep f17
  have f117 : Fm No hb h17 := box _ _ f17 (f115.trans f16' fun _ _ x => x)
  have n17 : h17.rdN h2.size 0 4 = some (imC m o16 c16) := rdN_mk g17 (by simp [imC])
  simp only [imC] at n17
  have z1 := t1.1
  simp only [Int.natCast_zero, Int.cast_ofNat_Int] at z1
  simp +contextual (disch := omega) only [↓AM, ↓AV, AP, CQ, imC, z1, g316, spl_S, spl_0, spl_00, e17', EqI, n17, nb h17 f117]
  refine (c_EqImage kx17.r2 (rb.keep wb f117) hz).use ?_
  rintro _ h18 w18 ⟨rfl, f18'⟩
  simp +contextual (disch := omega) only [↓AM, ↓AV, AP, CQ, EqI, It.eqI_self]
  refine (c_awake h18).use ?_
  rintro _ h19 w19 ⟨rfl, rfl⟩
  simp +contextual (disch := omega) only [↓AM, ↓AV, AP, CQ]
theorem walk {h : Hp} (x0 : (Im × Int × Int × Bool)) (cs0 : List Value) (A0 : (AKd.pair (AKd.pair (AKd.int .i64) (AKd.pair (AKd.int .i64) (AKd.pair (AKd.int .i64) (AKd.slice (AKd.slice (AKd.int .i64)))))) (AKd.pair (AKd.int .i64) (AKd.pair (AKd.int .i64) AKd.bool))).A h x0 cs0) (w0 : (((Lit.int .i64 x0.1.1).wf = true) ∧ ((Lit.int .i64 x0.1.2.1).wf = true) ∧ ((Lit.int .i64 x0.1.2.2.1).wf = true) ∧ (x0.1.2.2.2.length * Tryz.prog.bytesOf 39 ≤ 140737488351232 ∧ ∀ x ∈ x0.1.2.2.2, x.length * Tryz.prog.bytesOf 3 ≤ 140737488351232 ∧ ∀ y ∈ x, (Lit.int .i64 y).wf = true)) ∧ ((Lit.int .i64 x0.2.1).wf = true) ∧ ((Lit.int .i64 x0.2.2.1).wf = true) ∧ (True)) : ACalls Tryz.prog 3 [.agg cs0.toArray] h fun v h' => v = .bool true := by
  obtain ⟨m, a, b, f⟩ := x0
  obtain ⟨c1, c2, rfl, h1, c3, c4, rfl, h2, c5, c6, rfl, h3, h4⟩ := A0
  obtain ⟨oa, c, rfl, r, l⟩ := im_open h1
  have h2 : c3 = [.int .i64 a] := h2
  have h3 : c5 = [.int .i64 b] := h3
  have h4 : c6 = [.bool f] := h4
  subst h2 h3 h4
  obtain ⟨⟨_, _, _, q1, q2⟩, _⟩ := w0
  exact core m a b f r l (sz_of bytes2 bytes1 q1 fun x hx => (q2 x hx).1)
end Go.Proofs.YtmkcngcnedjfkaaGreat.LItemTurns

/- Lists of pictures, read. Plain theorems over the abstract machine.
   Conditions: none. -/
namespace Go.Proofs.YtmkcngcnedjfkaaGreat.It
open Go Go.RowKit Go.Proofs.YtmkcngcnedjfkaaGreat.Am Go.Proofs.YtmkcngcnedjfkaaGreat.Af Go.Proofs.YtmkcngcnedjfkaaGreat.Md
open Go.Proofs.YtmkcngcnedjfkaaGreat.LItemTurns (im_open imK)
set_option linter.unusedVariables false
set_option linter.unusedSimpArgs false
set_option linter.defProp false
set_option maxRecDepth 20000
set_option maxHeartbeats 2000000

def R3 (h : Hp) (oa : Option Addr) (ls : List Im) : Prop :=
  ∃ cs : List Value, Rd h 4 oa ls.length cs ∧ ∀ (i : Nat) (m : Im), ls[i]? = some m → ∃ ob d, (cs.drop (i * 4)).take 4 = imC m ob d ∧ m.pl.length ≤ d ∧ R2 h ob m.pl
theorem R3.keep {h h' : Hp} {oa : Option Addr} {ls : List Im} (w : Wf h) (r : R3 h oa ls) (f : Fm No h h') : R3 h' oa ls := by
  obtain ⟨cs, r1, r2⟩ := r
  exact ⟨cs, r1.keep w f (fun _ _ => id), fun i l hl => let ⟨ob, c, a, b, d⟩ := r2 i l hl; ⟨ob, c, a, b, d.keep w f⟩⟩
theorem R3.keepW {h h' : Hp} {oa : Option Addr} {ls : List Im} {F : Nat → Prop} (w : Wf h) (r : R3 h oa ls) (f : Fm F h h') (hF : ∀ x, x < h.size → ¬ F x) : R3 h' oa ls := by
  obtain ⟨cs, r1, r2⟩ := r
  exact ⟨cs, r1.keepW w f hF, fun i l hl => let ⟨ob, c, a, b, d⟩ := r2 i l hl; ⟨ob, c, a, b, d.keepW w f hF⟩⟩
theorem R3.at {h : Hp} {oa : Option Addr} {ls : List Im} (r : R3 h oa ls) {i : Nat} (hi : i < ls.length) :
    ∃ b off sp ob d m, oa = some ⟨b, off, sp⟩ ∧ flagOk sp = true ∧ ls[i]? = some m ∧ h.rdN b (off + i * 4) 4 = some (imC m ob d) ∧ m.pl.length ≤ d ∧ R2 h ob m.pl := by
  obtain ⟨cs, r1, r2⟩ := r
  obtain ⟨b, off, sp, e, f1, hr⟩ := r1.pos (by omega)
  obtain ⟨ob, d, h1, h2, h3⟩ := r2 i ls[i] (List.getElem?_eq_getElem hi)
  have h4 := rdN_sub (k := i * 4) (l := 4) hr (by omega)
  rw [h1] at h4
  exact ⟨b, off, sp, ob, d, _, e, f1, List.getElem?_eq_getElem hi, h4, h2, h3⟩
theorem R3.of {h : Hp} {ls : List Im} {cs : List Value} (a : (AKd.slice imK).A h ls cs) : ∃ oa c, cs = [.slice oa ls.length c] ∧ R3 h oa ls ∧ ls.length ≤ c := by
  obtain ⟨oa, c, r, h1, h2, h3, h4⟩ := a
  refine ⟨oa, c, h1, ⟨r, h2, fun i l hl => ?_⟩, h4⟩
  have hg := AKd.Row.get (z := 4) (fun x cs h => imK.alen h) h3 hl
  obtain ⟨ob, cc, e, r1, lc⟩ := im_open hg
  exact ⟨ob, cc, e, lc, r1⟩
def S3 (ls : List Im) : Prop := ls.length ≤ 140737488351232 ∧ ∀ m ∈ ls, Sz m.pl
def picsB (ls : List Im) : Bool := ls.all plainB && decide ((ls.length : Int) ≤ 70)
theorem all_take_S {α : Type} {p : α → Bool} {ls : List α} {i : Nat} {m : α} (h : (ls.take i).all p = true) (hm : ls[i]? = some m) (hp : p m = true) : (ls.take (i + 1)).all p = true := by
  rw [List.take_add_one, hm, List.all_append, h]
  simp [hp]
theorem c_pictures {h : Hp} {ls : List Im} {oa : Option Addr} {c : Nat} (r : R3 h oa ls) (hz : S3 ls) :
    ACalls Tryz.prog 27 [.slice oa ls.length c] h fun v h' => v = .bool (picsB ls) ∧ Fm No h h' := by
  refine dioramalaw15_pictures_ok.snd Af.hm rfl fun w => ?_
  rw [WF_eq, dioramalaw15_pictures]
  have hz1 := hz.1
  simp +contextual (disch := omega) only [↓AM, ↓AV, AP, CQ]
  refine WL.mk (fun k t h' => ∃ (i : Nat), Wf h' ∧ Fm No h h' ∧ i ≤ ls.length ∧ k = ls.length - i ∧ (ls.take i).all plainB = true ∧
      t = [(0, some (.slice oa ls.length c)), (3, some (.int .i64 (i : Int)))])
    ⟨ls.length, 0, w, Fm.refl, by omega, rfl, rfl, rfl⟩ ?_
  rintro k t h1 ⟨i, w1, f1, hi, rfl, ha, rfl⟩
  by_cases hin : i < ls.length
  · obtain ⟨b, off, sp, ob, d, m, rfl, fo, hm, hr, ld, rm⟩ := (r.keep w f1).at hin
    simp +contextual (disch := omega) only [↓AM, ↓AV, AP, CQ, hin, fo, hr]
    refine (c_plain rm (hz.2 m (List.mem_of_getElem? hm))).use ?_
    rintro _ h2 w2 ⟨rfl, f2⟩
    by_cases hp : plainB m = true
    · simp +contextual (disch := omega) only [↓AM, ↓AV, AP, CQ, hp, i64]
      exact ⟨ls.length - (i + 1), by omega, i + 1, w2, f1.trans f2 fun _ _ x => x, by omega, rfl, all_take_S ha hm hp, rfl⟩
    · simp +contextual (disch := omega) only [↓AM, ↓AV, AP, CQ, hp]
      refine ⟨?_, f1.trans f2 fun _ _ x => x⟩
      unfold picsB
      have : ls.all plainB = false := by
        rw [Bool.eq_false_iff]
        intro ht
        exact hp (List.all_eq_true.1 ht m (List.mem_of_getElem? hm))
      rw [this]; rfl
  · have hie : i = ls.length := by omega
    subst hie
    rw [List.take_length] at ha
    simp +contextual (disch := omega) only [↓AM, ↓AV, AP, CQ, hin]
    exact ⟨by unfold picsB; rw [ha]; simp, f1⟩
/-- The shape of a picture. -/
def shC (m : Im) : List Value := [.int .i64 m.wd, .int .i64 m.hg, .int .i64 m.bt, .int .i64 (m.pl.length : Int)]
theorem c_shapeOf {h : Hp} {m : Im} {oa : Option Addr} {c : Nat} : ACalls Tryz.prog 71 [.agg (imC m oa c).toArray] h fun v h' => v = .agg (shC m).toArray ∧ Fm No h h' := by
  refine item_shapeOf_ok.snd Af.hm rfl fun w => ?_
  rw [WF_eq, item_shapeOf]
  obtain ⟨ha, ea⟩ : ∃ g, h.new ⟨[.int .i64 m.wd, .int .i64 m.hg, .int .i64 m.bt, .slice oa m.pl.length c], .own⟩ = g := ⟨_, rfl⟩
  have wa : Wf ha := ea ▸ w.new
  have fa : Fm No h ha := ea ▸ Fm.new Fm.refl
  have ga : ha.get h.size = some ⟨[.int .i64 m.wd, .int .i64 m.hg, .int .i64 m.bt, .slice oa m.pl.length c], .own⟩ := ea ▸ gnew
  obtain ⟨hb, eb⟩ : ∃ g, ha.new ⟨[.int .i64 0, .int .i64 0, .int .i64 0, .int .i64 0], .own⟩ = g := ⟨_, rfl⟩
  have wb : Wf hb := eb ▸ wa.new
  have fb : Fm No ha hb := eb ▸ Fm.new Fm.refl
  have gb : hb.get ha.size = some ⟨[.int .i64 0, .int .i64 0, .int .i64 0, .int .i64 0], .own⟩ := eb ▸ gnew
  have gab := fb.keep wa ga (fun f => f)
  have sa : ha.size = h.size + 1 := by rw [← ea]; rfl
  obtain ⟨hc, ec⟩ : ∃ g, hb.put ha.size ⟨shC m, .own⟩ = g := ⟨_, rfl⟩
  have fc : Fm (fun z => z = ha.size) hb hc := ec ▸ Fm.put Fm.refl fun _ => rfl
  have gc : hc.rdN ha.size 0 4 = some (shC m) := by rw [← ec]; exact rdN_mk gput (by simp [shC])
  simp only [shC] at ec gc
  simp +contextual (disch := omega) only [↓AM, ↓AV, AP, CQ, imC, ea, eb, rd_mk gab, gb, spl_S, spl_0, spl_00, ec, gc]
  exact ⟨rfl, (fa.trans fb fun _ _ x => x).trans fc fun z hz e => by have : z = ha.size := e; omega⟩
theorem c_of {h : Hp} {m : Im} {oa : Option Addr} {c : Nat} : ACalls Tryz.prog 74 [.agg (imC m oa c).toArray] h fun v h' => v = .agg (shC m).toArray ∧ Fm No h h' := by
  refine dioramaref15_of_ok.snd Af.hm rfl fun w => ?_
  rw [WF_eq, dioramaref15_of]
  obtain ⟨ha, ea⟩ : ∃ g, h.new ⟨[.int .i64 m.wd, .int .i64 m.hg, .int .i64 m.bt, .slice oa m.pl.length c], .own⟩ = g := ⟨_, rfl⟩
  have wa : Wf ha := ea ▸ w.new
  have fa : Fm No h ha := ea ▸ Fm.new Fm.refl
  have ga : ha.get h.size = some ⟨[.int .i64 m.wd, .int .i64 m.hg, .int .i64 m.bt, .slice oa m.pl.length c], .own⟩ := ea ▸ gnew
  obtain ⟨hb, eb⟩ : ∃ g, ha.new ⟨[.int .i64 0, .int .i64 0, .int .i64 0, .int .i64 0], .own⟩ = g := ⟨_, rfl⟩
  have wb : Wf hb := eb ▸ wa.new
  have fb : Fm No ha hb := eb ▸ Fm.new Fm.refl
  have gb : hb.get ha.size = some ⟨[.int .i64 0, .int .i64 0, .int .i64 0, .int .i64 0], .own⟩ := eb ▸ gnew
  have gab := fb.keep wa ga (fun f => f)
  have sa : ha.size = h.size + 1 := by rw [← ea]; rfl
  obtain ⟨hc, ec⟩ : ∃ g, hb.put ha.size ⟨shC m, .own⟩ = g := ⟨_, rfl⟩
  have fc : Fm (fun z => z = ha.size) hb hc := ec ▸ Fm.put Fm.refl fun _ => rfl
  have gc : hc.rdN ha.size 0 4 = some (shC m) := by rw [← ec]; exact rdN_mk gput (by simp [shC])
  simp only [shC] at ec gc
  simp +contextual (disch := omega) only [↓AM, ↓AV, AP, CQ, imC, ea, eb, rd_mk gab, gb, spl_S, spl_0, spl_00, ec, gc]
  exact ⟨rfl, (fa.trans fb fun _ _ x => x).trans fc fun z hz e => by have : z = ha.size := e; omega⟩
theorem c_side {h : Hp} {n : Int} : ACalls Tryz.prog 70 [.int .i64 n] h fun v h' => v = .bool (decide (1 ≤ n ∧ n ≤ 64)) ∧ h' = h := by
  refine item_side_ok.snd Af.hm rfl fun w => ?_
  rw [WF_eq, item_side]
  simp +contextual (disch := omega) only [↓AM, ↓AV, AP, CQ]
  refine c_iw.use ?_
  rintro _ h9 _ ⟨rfl, e9⟩
  subst h9
  simp +contextual (disch := omega) only [↓AM, ↓AV, AP, CQ]
end Go.Proofs.YtmkcngcnedjfkaaGreat.It

/- Shapes that make a grid. Plain theorems over the abstract machine.
   Conditions: none. -/
namespace Go.Proofs.YtmkcngcnedjfkaaGreat.It
open Go Go.RowKit Go.Proofs.YtmkcngcnedjfkaaGreat.Am Go.Proofs.YtmkcngcnedjfkaaGreat.Af Go.Proofs.YtmkcngcnedjfkaaGreat.Md
open Go.Proofs.YtmkcngcnedjfkaaGreat.LItemTurns (im_open imK)
set_option linter.unusedVariables false
set_option linter.unusedSimpArgs false
set_option linter.defProp false
set_option maxRecDepth 20000
set_option maxHeartbeats 2000000

def S4 (h : Hp) (os : Option Addr) (ls : List Im) : Prop := Rd h 4 os ls.length (ls.flatMap shC)
theorem shC_len (m : Im) : (shC m).length = 4 := rfl
theorem sh_get : ∀ {ls : List Im} {i : Nat} {m : Im}, ls[i]? = some m → ((ls.flatMap shC).drop (i * 4)).take 4 = shC m
  | [], i, m, h => by simp at h
  | x :: xs, 0, m, h => by
    simp at h
    subst h
    rw [List.flatMap_cons, Nat.zero_mul, List.drop_zero, List.take_append_of_le_length (by rw [shC_len]; exact Nat.le_refl _), List.take_of_length_le (by rw [shC_len]; exact Nat.le_refl _)]
  | x :: xs, i + 1, m, h => by
    rw [List.flatMap_cons, List.drop_append, List.drop_of_length_le (by rw [shC_len]; omega), List.nil_append, shC_len, show (i + 1) * 4 - 4 = i * 4 by omega]
    exact sh_get (by simpa using h)
theorem S4.at {h : Hp} {os : Option Addr} {ls : List Im} (r : S4 h os ls) {i : Nat} (hi : i < ls.length) :
    ∃ b off sp m, os = some ⟨b, off, sp⟩ ∧ flagOk sp = true ∧ ls[i]? = some m ∧ h.rdN b (off + i * 4) 4 = some (shC m) := by
  obtain ⟨b, off, sp, e, f1, hr⟩ := Rd.pos r (by omega)
  have h4 := rdN_sub (k := i * 4) (l := 4) hr (by omega)
  rw [sh_get (List.getElem?_eq_getElem hi)] at h4
  exact ⟨b, off, sp, _, e, f1, List.getElem?_eq_getElem hi, h4⟩
def shp (m : Im) : Int × Int × Int × Int := (m.wd, m.hg, m.bt, (m.pl.length : Int))
def covB (parts size whole : Int) : Bool := decide ((parts - 1) * size < whole) && decide (whole ≤ parts * size)
def l0 (ls : List Im) : Im := ls.getD 0 zIm
def fitB (ls : List Im) (rows cols wide high : Int) : Bool := (ls.all fun m => decide (shp m = shp (l0 ls))) && (covB cols (l0 ls).wd wide && covB rows (l0 ls).hg high)
theorem l0_at {ls : List Im} (h : 0 < ls.length) : ls[0]? = some (l0 ls) := by
  unfold l0
  simp [List.getD, List.getElem?_eq_getElem h]
theorem mulb {a b : Int} (ha : 0 ≤ a ∧ a ≤ 8) (hb : 1 ≤ b ∧ b ≤ 64) : 0 ≤ a * b ∧ a * b ≤ 512 :=
  ⟨Int.mul_nonneg ha.1 (by omega), Int.le_trans (Int.mul_le_mul_of_nonneg_right ha.2 (by omega)) (by omega)⟩
theorem eq4 {a b c d a' b' c' d' : Int} : eqCells [1, 1, 1, 1] [Value.int .i64 a, .int .i64 b, .int .i64 c, .int .i64 d] [Value.int .i64 a', .int .i64 b', .int .i64 c', .int .i64 d'] = some (decide ((a, b, c, d) = (a', b', c', d'))) := by
  by_cases h1 : a = a' <;> by_cases h2 : b = b' <;> by_cases h3 : c = c' <;> by_cases h4 : d = d' <;> simp [eqCells, eqCell, h1, h2, h3, h4]
theorem c_gridShape {h : Hp} {ls : List Im} {os : Option Addr} {c : Nat} {rows cols wide high : Int} (r : S4 h os ls) (hn : 0 < ls.length) (hs : ls.length ≤ 1000) (hg : Good (l0 ls)) (hr : 1 ≤ rows ∧ rows ≤ 8) (hc : 1 ≤ cols ∧ cols ≤ 8) :
    ACalls Tryz.prog 72 [.slice os ls.length c, .int .i64 rows, .int .i64 cols, .int .i64 wide, .int .i64 high] h fun v h' => (∃ p q s t : Int, v = .tuple #[.agg #[.int .i64 p, .int .i64 q, .int .i64 s, .int .i64 t], .int .i64 (if fitB ls rows cols wide high then 0 else 151)]) ∧ Fm No h h' := by
  refine item_gridShape_ok.snd Af.hm rfl fun w => ?_
  rw [WF_eq, item_gridShape]
  obtain ⟨ha, ea⟩ : ∃ g, h.new ⟨[.int .i64 0, .int .i64 0, .int .i64 0, .int .i64 0], .own⟩ = g := ⟨_, rfl⟩
  have wa : Wf ha := ea ▸ w.new
  have fa : Fm No h ha := ea ▸ Fm.new Fm.refl
  have ga : ha.get h.size = some ⟨[.int .i64 0, .int .i64 0, .int .i64 0, .int .i64 0], .own⟩ := ea ▸ gnew
  have sa : ha.size = h.size + 1 := by rw [← ea]; rfl
  have put : ∀ (g : Hp) (a b c d : Int), Fm No ha g → ∃ g', g.put h.size ⟨[.int .i64 a, .int .i64 b, .int .i64 c, .int .i64 d], .own⟩ = g' ∧ g.get h.size = some ⟨[.int .i64 0, .int .i64 0, .int .i64 0, .int .i64 0], .own⟩ ∧ g'.rdN h.size 0 4 = some [.int .i64 a, .int .i64 b, .int .i64 c, .int .i64 d] ∧ Fm No h g' := fun g a b c d fg => by
    refine ⟨_, rfl, fg.keep wa ga (fun f => f), rdN_mk gput (by simp), ?_⟩
    exact (fa.trans fg fun _ _ x => x).trans (Fm.put (F := fun z => z = h.size) Fm.refl fun _ => rfl) fun z hz e => by have : z = h.size := e; omega
  simp +contextual (disch := omega) only [↓AM, ↓AV, AP, CQ, ea]
  refine WL.mk (fun k t h' => ∃ (i : Nat), Wf h' ∧ Fm No ha h' ∧ i ≤ ls.length ∧ k = ls.length - i ∧ (ls.take i).all (fun m => decide (shp m = shp (l0 ls))) = true ∧
      t = [(0, some (.slice os ls.length c)), (1, some (.int .i64 rows)), (2, some (.int .i64 cols)), (3, some (.int .i64 wide)), (4, some (.int .i64 high)), (10, some (.pointer (some ⟨h.size, 0, none⟩))), (15, some (.slice os ls.length c)), (16, some (.int .i64 (ls.length : Int))), (17, some (.int .i64 (i : Int)))])
    ⟨ls.length, 0, wa, Fm.refl, by omega, rfl, rfl, rfl⟩ ?_
  rintro k t h1 ⟨i, w1, f1, hi, rfl, hall, rfl⟩
  have fh1 := fa.trans f1 fun _ _ x => x
  have r1 : S4 h1 os ls := Rd.keep w r fh1 (fun _ _ f => f)
  obtain ⟨b0, off0, sp0, m0, e0, fo0, hm0, hr0⟩ := r1.at hn
  rw [l0_at hn] at hm0
  cases hm0
  by_cases hin : i < ls.length
  · obtain ⟨b, off, sp, m, e1, fo, hm, hr1⟩ := r1.at hin
    rw [e0] at e1
    cases e1
    obtain ⟨h2, e2⟩ : ∃ g, h1.new ⟨shC m, .own⟩ = g := ⟨_, rfl⟩
    have w2 : Wf h2 := e2 ▸ w1.new
    have f2 : Fm No h1 h2 := e2 ▸ Fm.new Fm.refl
    have g2 : h2.rdN h1.size 0 4 = some (shC m) := by rw [← e2]; exact rdN_mk gnew (by simp [shC])
    have hr2 : h2.rdN b0 (off0 + 0 * 4) 4 = some (shC (l0 ls)) := by
      have := S4.at (Rd.keep w1 r1 f2 (fun _ _ f => f)) hn
      obtain ⟨b', off', sp', m', e', _, hm', hr'⟩ := this
      rw [e0] at e'
      cases e'
      rw [l0_at hn] at hm'
      cases hm'
      exact hr'
    subst e0
    have hn' : (0 : Int) < (ls.length : Int) := by omega
    simp only [shC] at e2 g2 hr1 hr2
    have heq : ∀ b, decide ((m.wd, m.hg, m.bt, (m.pl.length : Int)) = ((l0 ls).wd, (l0 ls).hg, (l0 ls).bt, ((l0 ls).pl.length : Int))) = b ↔ decide (shp m = shp (l0 ls)) = b := fun b => Iff.rfl
    by_cases hs : decide (shp m = shp (l0 ls)) = true
    · have hs' := (heq _).2 hs
      simp +contextual (disch := omega) only [↓AM, ↓AV, AP, CQ, ea, hin, hn, hn', fo, hr1, e2, g2, hr2, eq4, hs', i64]
      exact ⟨ls.length - (i + 1), by omega, i + 1, w2, f1.trans f2 fun _ _ x => x, by omega, rfl, all_take_S hall hm hs, rfl⟩
    · have hs' := (heq false).2 (Bool.eq_false_iff.2 hs)
      obtain ⟨g', k1, k2, k3, k4⟩ := put h2 0 0 0 0 (f1.trans f2 fun _ _ x => x)
      simp +contextual (disch := omega) only [↓AM, ↓AV, AP, CQ, ea, hin, hn, hn', fo, hr1, e2, g2, hr2, eq4, hs', k2, spl_S, spl_0, spl_00, k1, k3]
      have hf : fitB ls rows cols wide high = false := by
        have : (ls.all fun m => decide (shp m = shp (l0 ls))) = false := by
          rw [Bool.eq_false_iff]
          intro ht
          exact hs (List.all_eq_true.1 ht m (List.mem_of_getElem? hm))
        unfold fitB
        rw [this]; rfl
      exact ⟨⟨0, 0, 0, 0, by rw [hf]; rfl⟩, k4⟩
  · have hie : i = ls.length := by omega
    subst hie
    rw [List.take_length] at hall
    have hn' : (0 : Int) < (ls.length : Int) := by omega
    obtain ⟨h2, e2⟩ : ∃ g, h1.new ⟨shC (l0 ls), .own⟩ = g := ⟨_, rfl⟩
    have w2 : Wf h2 := e2 ▸ w1.new
    have f2 : Fm No h1 h2 := e2 ▸ Fm.new Fm.refl
    have g2 : h2.get h1.size = some ⟨shC (l0 ls), .own⟩ := by rw [← e2]; exact gnew
    subst e0
    simp only [shC] at e2 g2 hr0
    obtain ⟨wd1, hg1, hd2⟩ := hg.dim
    have b1 := mulb (a := cols - 1) (b := (l0 ls).wd) (by omega) hg.dim.1.1
    have b2 := mulb (a := cols) (b := (l0 ls).wd) (by omega) hg.dim.1.1
    have b3 := mulb (a := rows - 1) (b := (l0 ls).hg) (by omega) hg.dim.1.2
    have b4 := mulb (a := rows) (b := (l0 ls).hg) (by omega) hg.dim.1.2
    have hf : fitB ls rows cols wide high = (covB cols (l0 ls).wd wide && covB rows (l0 ls).hg high) := by unfold fitB; rw [hall]; rfl
    have ff := f1.trans f2 fun _ _ x => x
    by_cases c1 : wide ≤ (cols - 1) * (l0 ls).wd
    · obtain ⟨g', k1, k2, k3, k4⟩ := put h2 0 0 0 0 ff
      simp +contextual (disch := omega) only [↓AM, ↓AV, AP, CQ, ea, hin, hn, hn', fo0, hr0, e2, rd_mk g2, i64, c1, k2, spl_S, spl_0, spl_00, k1, k3]
      have : fitB ls rows cols wide high = false := by rw [hf]; unfold covB; rw [decide_eq_false (by omega : ¬ (cols - 1) * (l0 ls).wd < wide)]; rfl
      exact ⟨⟨0, 0, 0, 0, by rw [this]; rfl⟩, k4⟩
    by_cases c2 : cols * (l0 ls).wd < wide
    · obtain ⟨g', k1, k2, k3, k4⟩ := put h2 0 0 0 0 ff
      simp +contextual (disch := omega) only [↓AM, ↓AV, AP, CQ, ea, hin, hn, hn', fo0, hr0, e2, rd_mk g2, i64, c1, c2, gt_iff_lt, k2, spl_S, spl_0, spl_00, k1, k3]
      have : fitB ls rows cols wide high = false := by rw [hf]; unfold covB; rw [decide_eq_false (by omega : ¬ wide ≤ cols * (l0 ls).wd), Bool.and_false]; rfl
      exact ⟨⟨0, 0, 0, 0, by rw [this]; rfl⟩, k4⟩
    by_cases c3 : high ≤ (rows - 1) * (l0 ls).hg
    · obtain ⟨g', k1, k2, k3, k4⟩ := put h2 0 0 0 0 ff
      simp +contextual (disch := omega) only [↓AM, ↓AV, AP, CQ, ea, hin, hn, hn', fo0, hr0, e2, rd_mk g2, i64, c1, c2, c3, gt_iff_lt, k2, spl_S, spl_0, spl_00, k1, k3]
      have : fitB ls rows cols wide high = false := by rw [hf]; unfold covB; rw [decide_eq_false (by omega : ¬ (rows - 1) * (l0 ls).hg < high), Bool.false_and, Bool.and_false]
      exact ⟨⟨0, 0, 0, 0, by rw [this]; rfl⟩, k4⟩
    by_cases c4 : rows * (l0 ls).hg < high
    · obtain ⟨g', k1, k2, k3, k4⟩ := put h2 0 0 0 0 ff
      simp +contextual (disch := omega) only [↓AM, ↓AV, AP, CQ, ea, hin, hn, hn', fo0, hr0, e2, rd_mk g2, i64, c1, c2, c3, c4, gt_iff_lt, k2, spl_S, spl_0, spl_00, k1, k3]
      have : fitB ls rows cols wide high = false := by rw [hf]; unfold covB; rw [decide_eq_false (by omega : ¬ high ≤ rows * (l0 ls).hg), Bool.and_false, Bool.and_false]
      exact ⟨⟨0, 0, 0, 0, by rw [this]; rfl⟩, k4⟩
    obtain ⟨g', k1, k2, k3, k4⟩ := put h2 wide high (l0 ls).bt ((l0 ls).pl.length : Int) ff
    simp +contextual (disch := omega) only [↓AM, ↓AV, AP, CQ, ea, hin, hn, hn', fo0, hr0, e2, rd_mk g2, i64, c1, c2, c3, c4, gt_iff_lt, k2, spl_S, spl_0, spl_00, k1, k3]
    have : fitB ls rows cols wide high = true := by rw [hf]; unfold covB; rw [decide_eq_true (by omega), decide_eq_true (by omega), decide_eq_true (by omega), decide_eq_true (by omega)]; rfl
    exact ⟨⟨wide, high, (l0 ls).bt, ((l0 ls).pl.length : Int), by rw [this]; rfl⟩, k4⟩
theorem c_covers {h : Hp} {a b c : Int} (ha : 1 ≤ a ∧ a ≤ 8) (hb : 1 ≤ b ∧ b ≤ 64) : ACalls Tryz.prog 121 [.int .i64 a, .int .i64 b, .int .i64 c] h fun v h' => v = .bool (covB a b c) ∧ h' = h := by
  refine dioramaref15_covers_ok.snd Af.hm rfl fun w => ?_
  rw [WF_eq, dioramaref15_covers]
  have b1 := mulb (a := a - 1) (b := b) (by omega) hb
  have b2 := mulb (a := a) (b := b) (by omega) hb
  by_cases c1 : (a - 1) * b < c
  · simp +contextual (disch := omega) only [↓AM, ↓AV, AP, CQ, i64, c1]
    unfold covB
    rw [decide_eq_true c1]; rfl
  · simp +contextual (disch := omega) only [↓AM, ↓AV, AP, CQ, i64, c1]
    unfold covB
    rw [decide_eq_false c1]; rfl
theorem c_gridFits {h : Hp} {ls : List Im} {os : Option Addr} {c : Nat} {rows cols wide high : Int} (r : S4 h os ls) (hn : 0 < ls.length) (hs : ls.length ≤ 1000) (hg : Good (l0 ls)) (hr : 1 ≤ rows ∧ rows ≤ 8) (hc : 1 ≤ cols ∧ cols ≤ 8) :
    ACalls Tryz.prog 75 [.slice os ls.length c, .int .i64 rows, .int .i64 cols, .int .i64 wide, .int .i64 high] h fun v h' => v = .bool (fitB ls rows cols wide high) ∧ h' = h := by
  refine dioramaref15_gridFits_ok.snd Af.hm rfl fun w => ?_
  rw [WF_eq, dioramaref15_gridFits]
  simp +contextual (disch := omega) only [↓AM, ↓AV, AP, CQ]
  refine WL.mk (fun k t h' => ∃ (i : Nat), h' = h ∧ i ≤ ls.length ∧ k = ls.length - i ∧ (ls.take i).all (fun m => decide (shp m = shp (l0 ls))) = true ∧
      t = [(0, some (.slice os ls.length c)), (1, some (.int .i64 rows)), (2, some (.int .i64 cols)), (3, some (.int .i64 wide)), (4, some (.int .i64 high)), (11, some (.int .i64 (i : Int)))])
    ⟨ls.length, 0, rfl, by omega, rfl, rfl, rfl⟩ ?_
  rintro k t h1 ⟨i, e1, hi, rfl, hall, rfl⟩
  subst h1
  obtain ⟨b0, off0, sp0, m0, e0, fo0, hm0, hr0⟩ := r.at hn
  rw [l0_at hn] at hm0
  cases hm0
  have hn' : (0 : Int) < (ls.length : Int) := by omega
  by_cases hin : i < ls.length
  · obtain ⟨b, off, sp, m, e1, fo, hm, hr1⟩ := r.at hin
    rw [e0] at e1
    cases e1
    subst e0
    simp only [shC] at hr0 hr1
    have heq : ∀ b, decide ((m.wd, m.hg, m.bt, (m.pl.length : Int)) = ((l0 ls).wd, (l0 ls).hg, (l0 ls).bt, ((l0 ls).pl.length : Int))) = b ↔ decide (shp m = shp (l0 ls)) = b := fun b => Iff.rfl
    by_cases hs : decide (shp m = shp (l0 ls)) = true
    · have hs' := (heq _).2 hs
      simp +contextual (disch := omega) only [↓AM, ↓AV, AP, CQ, hin, hn, hn', fo, hr1, hr0, eq4, hs', i64]
      exact ⟨ls.length - (i + 1), by omega, i + 1, by omega, rfl, all_take_S hall hm hs, rfl⟩
    · have hs' := (heq false).2 (Bool.eq_false_iff.2 hs)
      simp +contextual (disch := omega) only [↓AM, ↓AV, AP, CQ, hin, hn, hn', fo, hr1, hr0, eq4, hs']
      have : (ls.all fun m => decide (shp m = shp (l0 ls))) = false := by
        rw [Bool.eq_false_iff]
        intro ht
        exact hs (List.all_eq_true.1 ht m (List.mem_of_getElem? hm))
      unfold fitB
      rw [this]; rfl
  · have hie : i = ls.length := by omega
    subst hie
    rw [List.take_length] at hall
    have hf : fitB ls rows cols wide high = (covB cols (l0 ls).wd wide && covB rows (l0 ls).hg high) := by unfold fitB; rw [hall]; rfl
    subst e0
    have q0 := rdN_get hr0 (i := 0) (v := .int .i64 (l0 ls).wd) rfl
    have q1 := rdN_get hr0 (i := 1) (v := .int .i64 (l0 ls).hg) rfl
    rw [Nat.add_zero] at q0
    simp +contextual (disch := omega) only [↓AM, ↓AV, AP, CQ, hin, hn, hn', fo0, q0, q1]
    refine (c_covers hc hg.dim.1.1).use ?_
    rintro _ h9 _ ⟨rfl, e9⟩
    subst h9
    cases hcv : covB cols (l0 ls).wd wide with
    | false =>
      simp +contextual (disch := omega) only [↓AM, ↓AV, AP, CQ, hcv]
      rw [hf, hcv]; rfl
    | true =>
      simp +contextual (disch := omega) only [↓AM, ↓AV, AP, CQ, hn, hn', fo0, q0, q1, hcv]
      refine (c_covers hr hg.dim.1.2).use ?_
      rintro _ h9 _ ⟨rfl, e9⟩
      subst h9
      simp +contextual (disch := omega) only [↓AM, ↓AV, AP, CQ, hcv]
      rw [hf, hcv]; rfl
end Go.Proofs.YtmkcngcnedjfkaaGreat.It

/- Pictures laid as a grid. Plain theorems over the abstract machine.
   Conditions: none. -/
namespace Go.Proofs.YtmkcngcnedjfkaaGreat.It
open Go Go.RowKit Go.Proofs.YtmkcngcnedjfkaaGreat.Am Go.Proofs.YtmkcngcnedjfkaaGreat.Af Go.Proofs.YtmkcngcnedjfkaaGreat.Md
open Go.Proofs.YtmkcngcnedjfkaaGreat.LItemTurns (im_open imK)
set_option linter.unusedVariables false
set_option linter.unusedSimpArgs false
set_option linter.defProp false
set_option maxRecDepth 20000
set_option maxHeartbeats 2000000

/-- The first n pictures drawn on z. -/
def tileN (ls : List Im) (cols : Nat) (z : Im) : Nat → Im
  | 0 => z
  | n + 1 => drI (tileN ls cols z n) (ls.getD n zIm) (((n % cols : Nat) : Int) * (l0 ls).wd) (((n / cols : Nat) : Int) * (l0 ls).hg)
def tileI (ls : List Im) (cols : Nat) (wide high : Int) : Im := tileN ls cols (zim wide high (l0 ls).bt (l0 ls).pl.length) ls.length
theorem tileN_hd (ls : List Im) (cols : Nat) (z : Im) : ∀ n, (tileN ls cols z n).wd = z.wd ∧ (tileN ls cols z n).hg = z.hg ∧ (tileN ls cols z n).bt = z.bt ∧ (tileN ls cols z n).pl.length = z.pl.length
  | 0 => ⟨rfl, rfl, rfl, rfl⟩
  | n + 1 => by
    obtain ⟨a, b, c, d⟩ := tileN_hd ls cols z n
    exact ⟨a, b, c, by rw [← d]; exact drI_len⟩
theorem tileN_fit {ls : List Im} {cols : Nat} {z : Im} (f : Fit z) : ∀ n, Fit (tileN ls cols z n)
  | 0 => f
  | n + 1 => drI_fit (tileN_fit f n)
theorem zim_fit {w h b : Int} {n : Nat} (hw : 1 ≤ w ∧ w ≤ 64) (hh : 1 ≤ h ∧ h ≤ 64) (hn : n ≤ 1000) : Fit (zim w h b n) := by
  have e1 : (zim w h b n).w = w.toNat := rfl
  have e2 : (zim w h b n).h = h.toNat := rfl
  refine ⟨?_, ?_, fun l hl => ?_, ?_⟩
  · rw [e1]; show w = _ ∧ _; omega
  · rw [e2]; show h = _ ∧ _; omega
  · rw [e1, e2, List.eq_of_mem_replicate hl, List.length_replicate, Int.toNat_mul (by omega) (by omega)]
  · show (List.replicate n _).length ≤ 1000
    rw [List.length_replicate]; exact hn
theorem mulc {a b n : Int} (ha : 0 ≤ a ∧ a ≤ n) (hb : 1 ≤ b ∧ b ≤ 64) : 0 ≤ a * b ∧ a * b ≤ n * 64 :=
  ⟨Int.mul_nonneg ha.1 (by omega), Int.le_trans (Int.mul_le_mul_of_nonneg_right ha.2 (by omega)) (Int.mul_le_mul_of_nonneg_left hb.2 (by omega))⟩
theorem getD_im {ls : List Im} {i : Nat} {m : Im} (h : ls[i]? = some m) : ls.getD i zIm = m := by simp [List.getD, h]
theorem c_tiled {h : Hp} {ls : List Im} {oa : Option Addr} {c C : Nat} {wide high : Int} (r : R3 h oa ls) (hn : 0 < ls.length) (hs : ls.length ≤ 64) (hg : ∀ m ∈ ls, Good m) (hsh : ∀ m ∈ ls, shp m = shp (l0 ls)) (hc : 1 ≤ C ∧ C ≤ 8)
    (hw : 1 ≤ wide ∧ wide ≤ 64) (hh : 1 ≤ high ∧ high ≤ 64) :
    ACalls Tryz.prog 73 [.slice oa ls.length c, .int .i64 (C : Int), .int .i64 wide, .int .i64 high] h fun v h' => OI h h' v (tileI ls C wide high) ∧ Fm No h h' := by
  refine item_tiled_ok.snd Af.hm rfl fun w => ?_
  rw [WF_eq, item_tiled]
  have g0 := hg _ (List.mem_of_getElem? (l0_at hn))
  have np0 : (l0 ls).pl.length ≤ 1000 := g0.fit.np
  obtain ⟨ha, ea⟩ : ∃ g, h.new ⟨[.int .i64 0, .int .i64 0, .int .i64 0, .slice none 0 0], .own⟩ = g := ⟨_, rfl⟩
  have wa : Wf ha := ea ▸ w.new
  have fa : Fm No h ha := ea ▸ Fm.new Fm.refl
  have ga : ha.get h.size = some ⟨[.int .i64 0, .int .i64 0, .int .i64 0, .slice none 0 0], .own⟩ := ea ▸ gnew
  have sa : ha.size = h.size + 1 := by rw [← ea]; rfl
  obtain ⟨b0, off0, sp0, ob0, d0, m0, e0, fo0, hm0, hr0, ld0, rm0⟩ := (r.keep w fa).at hn
  rw [l0_at hn] at hm0
  cases hm0
  have hn' : (0 : Int) < (ls.length : Int) := by omega
  simp only [imC] at hr0
  have q2 := rdN_get hr0 (i := 2) (v := .int .i64 (l0 ls).bt) rfl
  have q3 := rdN_get hr0 (i := 3) (v := .slice ob0 (l0 ls).pl.length d0) rfl
  have q2' := q2
  have q3' := q3
  simp only [Nat.zero_mul, Nat.add_zero] at q2' q3'
  have bw := rdN_wf wa hr0
  have rdl : ∀ g, Fm No ha g → g.rd b0 (off0 + 0 * 4 + 2) = some (.int .i64 (l0 ls).bt) ∧ g.rd b0 (off0 + 0 * 4 + 3) = some (.slice ob0 (l0 ls).pl.length d0) := fun g fg => by
    unfold Hp.rd at q2 q3 ⊢
    rw [fg.get _ bw (fun f => f)]
    exact ⟨q2, q3⟩
  subst e0
  simp +contextual (disch := omega) only [↓AM, ↓AV, AP, CQ, ea, hn, hn', fo0, q2, q3, q2', q3']
  refine (c_blank (h := ha) (b := (l0 ls).bt) hw hh np0).use ?_
  rintro _ h1 w1 ⟨⟨on, cn, bs, rfl, o1, lc1⟩, f1⟩
  obtain ⟨p2, p3⟩ := rdl h1 f1
  have p2' := p2
  have p3' := p3
  simp only [Nat.zero_mul, Nat.add_zero] at p2' p3'
  have hs1 := f1.size
  have zl : (zim wide high (l0 ls).bt (l0 ls).pl.length).pl.length = (l0 ls).pl.length := List.length_replicate
  obtain ⟨z, hz⟩ : ∃ z, zim wide high (l0 ls).bt (l0 ls).pl.length = z := ⟨_, rfl⟩
  have fz : Fit z := hz ▸ zim_fit hw hh np0
  have hzd : z.wd = wide ∧ z.hg = high ∧ z.bt = (l0 ls).bt ∧ z.pl.length = (l0 ls).pl.length := hz ▸ ⟨rfl, rfl, rfl, List.length_replicate⟩
  rw [hz] at o1 lc1
  have eim : ∀ n, imC (tileN ls C z n) on cn = [.int .i64 wide, .int .i64 high, .int .i64 (l0 ls).bt, .slice on (l0 ls).pl.length cn] := fun n => by
    obtain ⟨a, b, c, d⟩ := tileN_hd ls C z n
    obtain ⟨a', b', c', d'⟩ := hzd
    unfold imC
    rw [a, b, c, d, a', b', c', d']
  have ez : imC z on cn = [.int .i64 wide, .int .i64 high, .int .i64 (l0 ls).bt, .slice on (l0 ls).pl.length cn] := eim 0
  obtain ⟨h2, e2⟩ : ∃ g, h1.new ⟨[.int .i64 wide, .int .i64 high, .int .i64 (l0 ls).bt, .slice on (l0 ls).pl.length cn], .own⟩ = g := ⟨_, rfl⟩
  have w2 : Wf h2 := e2 ▸ w1.new
  have f2 : Fm No h1 h2 := e2 ▸ Fm.new Fm.refl
  have g2 : h2.get h1.size = some ⟨[.int .i64 wide, .int .i64 high, .int .i64 (l0 ls).bt, .slice on (l0 ls).pl.length cn], .own⟩ := e2 ▸ gnew
  have s2 : h2.size = h1.size + 1 := by rw [← e2]; rfl
  have inlt := o1.inlt w1
  have fa2 : Fm No ha h2 := f1.trans f2 fun _ _ x => x
  have fh2 : Fm No h h2 := fa.trans fa2 fun _ _ x => x
  have keepA : ∀ g, Fm (InB bs) h2 g → R3 g (some ⟨b0, off0, sp0⟩) ls ∧ g.get h1.size = some ⟨[.int .i64 wide, .int .i64 high, .int .i64 (l0 ls).bt, .slice on (l0 ls).pl.length cn], .own⟩ ∧ g.get h.size = some ⟨[.int .i64 0, .int .i64 0, .int .i64 0, .slice none 0 0], .own⟩ ∧ Fm No h g ∧ Fm (InB bs) ha g := fun g fg => by
    have f' : Fm (InB bs) ha g := (fa2.mono fun _ _ f => f.elim).trans fg fun _ _ x => x
    refine ⟨(r.keep w fa).keepW wa f' fun z hz f => ?_, fg.keep w2 g2 fun f => ?_, f'.keep wa ga fun f => ?_, fa.trans f' fun z hz f => ?_, f'⟩
    · have := (inlt _ f).1; omega
    · have := (inlt _ f).2; omega
    · have := (inlt _ f).1; omega
    · have := (inlt _ f).1; omega
  have hnoA : ∀ x, x < ha.size → ¬ InB bs x := fun x hx f => by have := (inlt _ f).1; omega
  rw [hz, ez]
  have hC0 : ((C : Nat) : Int) ≠ 0 := by omega
  simp +contextual (disch := omega) only [↓AM, ↓AV, AP, CQ, ea, e2, p2, p3, p2', p3', hn, hn', fo0]
  refine WL.mk (fun k t h' => ∃ (i : Nat), Wf h' ∧ O2 ha h' on cn (tileN ls C z i).pl bs [] ∧ Fm (InB bs) h2 h' ∧ i ≤ ls.length ∧ k = ls.length - i ∧
      t = [(1, some (.int .i64 (C : Int))), (8, some (.pointer (some ⟨h.size, 0, none⟩))), (9, some (.pointer (some ⟨h1.size, 0, none⟩))), (24, some (.slice (some ⟨b0, off0, sp0⟩) ls.length c)), (25, some (.int .i64 (ls.length : Int))), (26, some (.int .i64 (i : Int)))])
    ⟨ls.length, 0, w2, o1.keepN w1 f2, Fm.refl, by omega, rfl, rfl⟩ ?_
  rintro k t h3 ⟨i, w3, o3, f3, hi, rfl, rfl⟩
  obtain ⟨r3, g39, g38, fh3, fa3⟩ := keepA h3 f3
  by_cases hin : i < ls.length
  · obtain ⟨b, off, sp, ob, d, m, e1, fo, hm, hrA, ld, rm⟩ := (r.keep w fa).at hin
    cases e1
    have hr : h3.rdN b0 (off0 + i * 4) 4 = some (imC m ob d) := by
      rw [rdN_keep (fa3.get _ bw (hnoA _ bw))]; exact hrA
    obtain ⟨Q, hQ⟩ : ∃ Q, i / C = Q := ⟨_, rfl⟩
    obtain ⟨R, hR⟩ : ∃ R, i % C = R := ⟨_, rfl⟩
    have hQ1 : Q ≤ i := hQ ▸ Nat.div_le_self _ _
    have hR1 : R < C := hR ▸ Nat.mod_lt _ (by omega)
    have gm := hg m (List.mem_of_getElem? hm)
    have sm := hsh m (List.mem_of_getElem? hm)
    unfold shp at sm
    simp only [Prod.mk.injEq] at sm
    obtain ⟨sm1, sm2, sm3, sm4⟩ := sm
    obtain ⟨h4, e4⟩ : ∃ g, h3.new ⟨imC m ob d, .own⟩ = g := ⟨_, rfl⟩
    have w4 : Wf h4 := e4 ▸ w3.new
    have f4 : Fm No h3 h4 := e4 ▸ Fm.new Fm.refl
    have g4 : h4.get h3.size = some ⟨imC m ob d, .own⟩ := e4 ▸ gnew
    have f34 : Fm (InB bs) h2 h4 := f3.trans (f4.mono fun _ _ f => f.elim) fun _ _ x => x
    obtain ⟨r4, g49, g48, fh4, fa4⟩ := keepA h4 f34
    have n49 : h4.rdN h1.size 0 4 = some [.int .i64 wide, .int .i64 high, .int .i64 (l0 ls).bt, .slice on (l0 ls).pl.length cn] := rdN_mk g49 (by simp)
    have n4 : h4.rdN h3.size 0 4 = some (imC m ob d) := rdN_mk g4 (by simp [imC])
    simp only [imC] at e4 g4 n4 hr
    have bb1 := mulc (a := (R : Int)) (b := m.wd) (n := 8) (by omega) gm.dim.1.1
    have bb2 := mulc (a := (Q : Int)) (b := m.hg) (n := 64) (by omega) gm.dim.1.2
    simp +contextual (disch := omega) only [↓AM, ↓AV, AP, CQ, ea, e2, hin, fo, hr, e4, rd_mk g4, n49, n4, hC0, tmodN, tdivN, hQ, hR, i64]
    have cp := c_put (h0 := ha) (h := h4) (cv := tileN ls C z i) (m := m) (oa := on) (ob := ob) (c := cn) (d := d) (x := (R : Int) * m.wd) (y := (Q : Int) * m.hg) (o3.keepN w3 f4) (tileN_fit fz i) gm.fit
      (by have := (tileN_hd ls C z i).2.2.2; have := hzd.2.2.2; omega) (by omega) (by omega) fun g fg => by
        exact rm.keepW wa (fa4.trans fg fun _ _ x => x) hnoA
    rw [eim i] at cp
    refine cp.use ?_
    rintro _ h5 w5 ⟨o5, f5⟩
    simp +contextual (disch := omega) only [↓AM, ↓AV, AP, CQ, ea, e2, e4, i64]
    refine ⟨ls.length - (i + 1), by omega, i + 1, w5, ?_, f34.trans f5 fun _ _ x => x, by omega, rfl, rfl⟩
    show O2 ha h5 on cn (drI (tileN ls C z i) (ls.getD i zIm) (((i % C : Nat) : Int) * (l0 ls).wd) (((i / C : Nat) : Int) * (l0 ls).hg)).pl bs []
    rw [getD_im hm, ← sm1, ← sm2, hQ, hR]
    exact o5
  · have hie : i = ls.length := by omega
    subst hie
    have n3 : h3.rdN h1.size 0 4 = some [.int .i64 wide, .int .i64 high, .int .i64 (l0 ls).bt, .slice on (l0 ls).pl.length cn] := rdN_mk g39 (by simp)
    obtain ⟨hD, eD⟩ : ∃ g, h3.put h.size ⟨[.int .i64 wide, .int .i64 high, .int .i64 (l0 ls).bt, .slice on (l0 ls).pl.length cn], .own⟩ = g := ⟨_, rfl⟩
    have fD : Fm (fun x => x = h.size) h3 hD := eD ▸ Fm.put Fm.refl fun _ => rfl
    have gD : hD.rdN h.size 0 4 = some [.int .i64 wide, .int .i64 high, .int .i64 (l0 ls).bt, .slice on (l0 ls).pl.length cn] := by rw [← eD]; exact rdN_mk gput (by simp)
    simp +contextual (disch := omega) only [↓AM, ↓AV, AP, CQ, hin, n3, g38, spl_S, spl_0, spl_00, eD, gD]
    have htl : (tileN ls C z ls.length).pl.length = (l0 ls).pl.length := by have := (tileN_hd ls C z ls.length).2.2.2; have := hzd.2.2.2; omega
    refine ⟨⟨on, cn, bs, ?_, ?_, ?_⟩, fh3.trans fD fun z hz hy => by have : z = h.size := hy; omega⟩
    · unfold tileI
      rw [hz, eim]
    · unfold tileI
      rw [hz]
      exact (o3.keepB w3 fD fun z hz => by have : z = h.size := hz; omega).older (by omega)
    · unfold tileI
      rw [hz, htl, ← hzd.2.2.2]
      exact lc1
end Go.Proofs.YtmkcngcnedjfkaaGreat.It

/- The ranges of an item's numbers. Plain theorems over the abstract machine.
   Conditions: none. -/
namespace Go.Proofs.YtmkcngcnedjfkaaGreat.Is
open Go Go.RowKit Go.Proofs.YtmkcngcnedjfkaaGreat.Am Go.Proofs.YtmkcngcnedjfkaaGreat.Af Go.Proofs.YtmkcngcnedjfkaaGreat.Md Go.Proofs.YtmkcngcnedjfkaaGreat.It
set_option linter.unusedVariables false
set_option linter.unusedSimpArgs false
set_option linter.defProp false
set_option maxRecDepth 20000
set_option maxHeartbeats 4000000

/-- Outside a range. -/
def outB (a b n : Int) : Bool := !decide (a ≤ n ∧ n ≤ b)
def rangesP (x : Item) : Prop := (1 ≤ x.id ∧ x.id ≤ 1000) ∧ (0 ≤ x.kd ∧ x.kd ≤ 3) ∧ (0 ≤ x.tn ∧ x.tn ≤ 3) ∧ (x.kd = 1 → (x.of.length : Int) = 1) ∧
  (x.kd = 2 → (1 ≤ x.wd ∧ x.wd ≤ 64) ∧ (1 ≤ x.hg ∧ x.hg ≤ 64) ∧ (1 ≤ (x.fl.length : Int) ∧ (x.fl.length : Int) ≤ 4) ∧ x.fl.any (outB 0 4095) = false ∧ (x.of.length : Int) ≤ 8 ∧ (x.at_.length : Int) = 2 * (x.of.length : Int) ∧ x.at_.any (outB (-64) 64) = false) ∧
  (x.kd = 3 → (1 ≤ x.wd ∧ x.wd ≤ 64) ∧ (1 ≤ x.hg ∧ x.hg ≤ 64) ∧ (1 ≤ x.rows ∧ x.rows ≤ 8) ∧ (1 ≤ x.cols ∧ x.cols ≤ 8) ∧ (x.of.length : Int) = x.rows * x.cols)
instance (x : Item) : Decidable (rangesP x) := by unfold rangesP; infer_instance
theorem Val_bool {a b : Bool} : (Value.bool a = Value.bool b) = (a = b) := by simp
theorem mul8 {a b : Int} (ha : 1 ≤ a ∧ a ≤ 8) (hb : 1 ≤ b ∧ b ≤ 8) : 0 ≤ a * b ∧ a * b ≤ 8 * 64 := mulc (by omega) (by omega)
theorem c_f1 {h : Hp} {n : Int} : ACalls Tryz.prog 109 ((#[] : Array Value).toList ++ [.int .i64 n] ++ (#[] : Array Value).toList) h fun v h' => v = .bool (outB 0 4095 n) ∧ Fm No h h' := by
  refine item_ranges_1_ok.snd Af.hm rfl fun w => ?_
  rw [WF_eq, item_ranges_1]
  simp +contextual (disch := omega) only [↓AM, ↓AV, AP, CQ]
  refine c_iw.use ?_
  rintro _ h9 _ ⟨rfl, e9⟩
  subst h9
  simp +contextual (disch := omega) only [↓AM, ↓AV, AP, CQ, outB]
  exact Fm.refl
theorem c_f2 {h : Hp} {n : Int} : ACalls Tryz.prog 110 ((#[] : Array Value).toList ++ [.int .i64 n] ++ (#[] : Array Value).toList) h fun v h' => v = .bool (outB (-64) 64 n) ∧ Fm No h h' := by
  refine item_ranges_2_ok.snd Af.hm rfl fun w => ?_
  rw [WF_eq, item_ranges_2]
  simp +contextual (disch := omega) only [↓AM, ↓AV, AP, CQ]
  refine c_iw.use ?_
  rintro _ h9 _ ⟨rfl, e9⟩
  subst h9
  simp +contextual (disch := omega) only [↓AM, ↓AV, AP, CQ, outB]
  exact Fm.refl
theorem c_all {h : Hp} {a : Option Addr} {c : Nat} {L : List Int} {lo hi : Int} (ha : Rd h 1 a L.length (iV L)) (hn : L.length ≤ 140737488351232) :
    ACalls Tryz.prog 115 [.slice a L.length c, .int .i64 lo, .int .i64 hi] h fun v h' => v = .bool (!L.any (outB lo hi)) ∧ h' = h := by
  refine dioramaref15_all_ok.snd Af.hm rfl fun w => ?_
  rw [WF_eq, dioramaref15_all]
  simp +contextual (disch := omega) only [↓AM, ↓AV, AP, CQ]
  refine WL.mk (fun k t h' => ∃ i : Nat, h' = h ∧ i ≤ L.length ∧ k = L.length - i ∧ (L.take i).any (outB lo hi) = false ∧ t = [(0, some (.slice a L.length c)), (1, some (.int .i64 lo)), (2, some (.int .i64 hi)), (7, some (.int .i64 (i : Int)))]) ⟨L.length, 0, rfl, by omega, rfl, rfl, rfl⟩ ?_
  rintro k t h1 ⟨i, e1, hi', rfl, hall, rfl⟩
  subst h1
  by_cases hin : i < L.length
  · obtain ⟨b1, o1, s1, rfl, f1, x, hx, r1⟩ := Rd.int ha hin
    simp +contextual (disch := omega) only [↓AM, ↓AV, AP, CQ, f1, r1, hin]
    refine c_in15.use ?_
    rintro _ h9 _ ⟨rfl, e9⟩
    subst h9
    by_cases hp : lo ≤ x ∧ x ≤ hi
    · simp +contextual (disch := omega) only [↓AM, ↓AV, AP, CQ, hp, i64]
      exact ⟨L.length - (i + 1), by omega, i + 1, by omega, rfl, by rw [List.take_add_one, hx]; simp [hall, outB, hp], rfl⟩
    · simp +contextual (disch := omega) only [↓AM, ↓AV, AP, CQ, hp]
      have : L.any (outB lo hi) = true := List.any_eq_true.2 ⟨x, List.mem_of_getElem? hx, by unfold outB; rw [decide_eq_false hp]; rfl⟩
      rw [this]; rfl
  · simp +contextual (disch := omega) only [↓AM, ↓AV, AP, CQ, hin]
    rw [List.take_of_length_le (by omega)] at hall
    rw [hall]; rfl
theorem c_ranges {h : Hp} {x : Item} {p : IA} (ri : RI h x p) (hz : SI x) : ACalls Tryz.prog 53 [.agg (itC x p).toArray] h fun v h' => v = .bool (decide (rangesP x)) ∧ Fm No h h' := by
  refine item_ranges_ok.snd Af.hm rfl fun w => ?_
  rw [WF_eq, item_ranges]
  obtain ⟨ha, ea⟩ : ∃ g, h.new ⟨itC x p, .own⟩ = g := ⟨_, rfl⟩
  have wa : Wf ha := ea ▸ w.new
  have fa : Fm No h ha := ea ▸ Fm.new Fm.refl
  have ga : ha.get h.size = some ⟨itC x p, .own⟩ := ea ▸ gnew
  have no : ¬ rangesP x → ∀ g, Fm No ha g → (false = decide (rangesP x) ∧ Fm No h g) := fun q g fg => ⟨(decide_eq_false q).symm, fa.trans fg fun _ _ x => x⟩
  have ys : rangesP x → ∀ g, Fm No ha g → (true = decide (rangesP x) ∧ Fm No h g) := fun q g fg => ⟨(decide_eq_true q).symm, fa.trans fg fun _ _ x => x⟩
  have rf := ri.fl.keep w fa (fun _ _ => id)
  have ra := ri.at_.keep w fa (fun _ _ => id)
  have hof := hz.of
  simp only [itC] at ea ga
  simp +contextual (disch := omega) only [↓AM, ↓AV, AP, CQ, EqI, Val_bool, itC, ea, i64, rd_mk ga]
  refine c_iw.use ?_
  rintro _ h9 _ ⟨rfl, e9⟩
  subst h9
  by_cases c1 : 1 ≤ x.id ∧ x.id ≤ 1000
  case neg =>
    simp +contextual (disch := omega) only [↓AM, ↓AV, AP, CQ, EqI, Val_bool, itC, ea, i64, rd_mk ga, c1]
    exact no (fun q => c1 q.1) _ (Fm.refl)
  simp +contextual (disch := omega) only [↓AM, ↓AV, AP, CQ, EqI, Val_bool, itC, ea, i64, rd_mk ga, c1]
  refine c_iw.use ?_
  rintro _ h9 _ ⟨rfl, e9⟩
  subst h9
  by_cases c2 : 0 ≤ x.kd ∧ x.kd ≤ 3
  case neg =>
    simp +contextual (disch := omega) only [↓AM, ↓AV, AP, CQ, EqI, Val_bool, itC, ea, i64, rd_mk ga, c1, c2]
    exact no (fun q => c2 q.2.1) _ (Fm.refl)
  simp +contextual (disch := omega) only [↓AM, ↓AV, AP, CQ, EqI, Val_bool, itC, ea, i64, rd_mk ga, c1, c2]
  refine c_iw.use ?_
  rintro _ h9 _ ⟨rfl, e9⟩
  subst h9
  by_cases c3 : 0 ≤ x.tn ∧ x.tn ≤ 3
  case neg =>
    simp +contextual (disch := omega) only [↓AM, ↓AV, AP, CQ, EqI, Val_bool, itC, ea, i64, rd_mk ga, c1, c2, c3]
    exact no (fun q => c3 q.2.2.1) _ (Fm.refl)
  by_cases k1 : x.kd = 1
  · by_cases c4 : (x.of.length : Int) = 1
    · simp +contextual (disch := omega) only [↓AM, ↓AV, AP, CQ, EqI, Val_bool, itC, ea, i64, rd_mk ga, c1, c2, c3, k1, c4]
      exact ys ⟨c1, c2, c3, fun _ => c4, fun k => absurd (k1.symm.trans k) (by decide), fun k => absurd (k1.symm.trans k) (by decide)⟩ _ Fm.refl
    · simp +contextual (disch := omega) only [↓AM, ↓AV, AP, CQ, EqI, Val_bool, itC, ea, i64, rd_mk ga, c1, c2, c3, k1, c4]
      exact no (fun q => c4 (q.2.2.2.1 k1)) _ Fm.refl
  by_cases k2 : x.kd = 2
  · have k2t : (x.kd = 2) = True := eq_true k2
    simp +contextual (disch := omega) only [↓AM, ↓AV, AP, CQ, EqI, Val_bool, itC, ea, i64, rd_mk ga, c1, c2, c3, k1, k2t]
    refine c_side.use ?_
    rintro _ h9 _ ⟨rfl, e9⟩
    subst h9
    by_cases c4 : 1 ≤ x.wd ∧ x.wd ≤ 64
    case neg =>
      simp +contextual (disch := omega) only [↓AM, ↓AV, AP, CQ, EqI, Val_bool, itC, ea, i64, rd_mk ga, c1, c2, c3, k1, k2t, c4]
      exact no (fun q => c4 (q.2.2.2.2.1 k2).1) _ (Fm.refl)
    simp +contextual (disch := omega) only [↓AM, ↓AV, AP, CQ, EqI, Val_bool, itC, ea, i64, rd_mk ga, c1, c2, c3, k1, k2t, c4]
    refine c_side.use ?_
    rintro _ h9 _ ⟨rfl, e9⟩
    subst h9
    by_cases c5 : 1 ≤ x.hg ∧ x.hg ≤ 64
    case neg =>
      simp +contextual (disch := omega) only [↓AM, ↓AV, AP, CQ, EqI, Val_bool, itC, ea, i64, rd_mk ga, c1, c2, c3, k1, k2t, c4, c5]
      exact no (fun q => c5 (q.2.2.2.2.1 k2).2.1) _ (Fm.refl)
    simp +contextual (disch := omega) only [↓AM, ↓AV, AP, CQ, EqI, Val_bool, itC, ea, i64, rd_mk ga, c1, c2, c3, k1, k2t, c4, c5]
    refine c_iw.use ?_
    rintro _ h9 _ ⟨rfl, e9⟩
    subst h9
    by_cases c6 : 1 ≤ (x.fl.length : Int) ∧ (x.fl.length : Int) ≤ 4
    case neg =>
      simp +contextual (disch := omega) only [↓AM, ↓AV, AP, CQ, EqI, Val_bool, itC, ea, i64, rd_mk ga, c1, c2, c3, k1, k2t, c4, c5, c6]
      exact no (fun q => c6 (q.2.2.2.2.1 k2).2.2.1) _ (Fm.refl)
    simp +contextual (disch := omega) only [↓AM, ↓AV, AP, CQ, EqI, Val_bool, itC, ea, i64, rd_mk ga, c1, c2, c3, k1, k2t, c4, c5, c6]
    refine (c_HasInts (p := outB 0 4095) rf hz.fl (by kernel_rfl) fun n hn h1 fm w1 => c_f1).use ?_
    rintro _ h1 w1 ⟨rfl, f1⟩
    have ga1 := f1.keep wa ga (fun f => f)
    by_cases c7 : x.fl.any (outB 0 4095) = false
    case neg =>
      simp +contextual (disch := omega) only [↓AM, ↓AV, AP, CQ, EqI, Val_bool, itC, ea, i64, rd_mk ga1, c1, c2, c3, k1, k2t, c4, c5, c6, c7]
      exact no (fun q => c7 (q.2.2.2.2.1 k2).2.2.2.1) _ (f1)
    by_cases c8 : (x.of.length : Int) ≤ 8
    case neg =>
      simp +contextual (disch := omega) only [↓AM, ↓AV, AP, CQ, EqI, Val_bool, itC, ea, i64, rd_mk ga1, c1, c2, c3, k1, k2t, c4, c5, c6, c7, c8]
      exact no (fun q => c8 (q.2.2.2.2.1 k2).2.2.2.2.1) _ (f1)
    by_cases c9 : (x.at_.length : Int) = 2 * (x.of.length : Int)
    case neg =>
      simp +contextual (disch := omega) only [↓AM, ↓AV, AP, CQ, EqI, Val_bool, itC, ea, i64, rd_mk ga1, c1, c2, c3, k1, k2t, c4, c5, c6, c7, c8, c9]
      exact no (fun q => c9 (q.2.2.2.2.1 k2).2.2.2.2.2.1) _ (f1)
    have c9t : ((x.at_.length : Int) = 2 * (x.of.length : Int)) = True := eq_true c9
    simp +contextual (disch := omega) only [↓AM, ↓AV, AP, CQ, EqI, Val_bool, itC, ea, i64, rd_mk ga1, c1, c2, c3, k1, k2t, c4, c5, c6, c7, c8, c9t]
    refine (c_HasInts (p := outB (-64) 64) (ra.keep wa f1 (fun _ _ => id)) hz.at_ (by kernel_rfl) fun n hn h1 fm w1 => c_f2).use ?_
    rintro _ h2 w2 ⟨rfl, f2⟩
    by_cases c10 : x.at_.any (outB (-64) 64) = false
    case neg =>
      simp +contextual (disch := omega) only [↓AM, ↓AV, AP, CQ, EqI, Val_bool, itC, ea, i64, rd_mk ga1, c1, c2, c3, k1, k2t, c4, c5, c6, c7, c8, c9t, c10]
      exact no (fun q => c10 (q.2.2.2.2.1 k2).2.2.2.2.2.2) _ (f1.trans f2 fun _ _ x => x)
    simp +contextual (disch := omega) only [↓AM, ↓AV, AP, CQ, EqI, Val_bool, itC, ea, i64, rd_mk ga1, c1, c2, c3, k1, k2t, c4, c5, c6, c7, c8, c9t, c10]
    exact ys ⟨c1, c2, c3, fun k => absurd k k1, fun _ => ⟨c4, c5, c6, c7, c8, c9, c10⟩, fun k => absurd (k2.symm.trans k) (by decide)⟩ _ (f1.trans f2 fun _ _ x => x)
  by_cases k3 : x.kd = 3
  · have k3t : (x.kd = 3) = True := eq_true k3
    simp +contextual (disch := omega) only [↓AM, ↓AV, AP, CQ, EqI, Val_bool, itC, ea, i64, rd_mk ga, c1, c2, c3, k1, k2, k3t]
    refine c_side.use ?_
    rintro _ h9 _ ⟨rfl, e9⟩
    subst h9
    by_cases c4 : 1 ≤ x.wd ∧ x.wd ≤ 64
    case neg =>
      simp +contextual (disch := omega) only [↓AM, ↓AV, AP, CQ, EqI, Val_bool, itC, ea, i64, rd_mk ga, c1, c2, c3, k1, k2, k3t, c4]
      exact no (fun q => c4 (q.2.2.2.2.2 k3).1) _ (Fm.refl)
    simp +contextual (disch := omega) only [↓AM, ↓AV, AP, CQ, EqI, Val_bool, itC, ea, i64, rd_mk ga, c1, c2, c3, k1, k2, k3t, c4]
    refine c_side.use ?_
    rintro _ h9 _ ⟨rfl, e9⟩
    subst h9
    by_cases c5 : 1 ≤ x.hg ∧ x.hg ≤ 64
    case neg =>
      simp +contextual (disch := omega) only [↓AM, ↓AV, AP, CQ, EqI, Val_bool, itC, ea, i64, rd_mk ga, c1, c2, c3, k1, k2, k3t, c4, c5]
      exact no (fun q => c5 (q.2.2.2.2.2 k3).2.1) _ (Fm.refl)
    simp +contextual (disch := omega) only [↓AM, ↓AV, AP, CQ, EqI, Val_bool, itC, ea, i64, rd_mk ga, c1, c2, c3, k1, k2, k3t, c4, c5]
    refine c_iw.use ?_
    rintro _ h9 _ ⟨rfl, e9⟩
    subst h9
    by_cases c6 : 1 ≤ x.rows ∧ x.rows ≤ 8
    case neg =>
      simp +contextual (disch := omega) only [↓AM, ↓AV, AP, CQ, EqI, Val_bool, itC, ea, i64, rd_mk ga, c1, c2, c3, k1, k2, k3t, c4, c5, c6]
      exact no (fun q => c6 (q.2.2.2.2.2 k3).2.2.1) _ (Fm.refl)
    simp +contextual (disch := omega) only [↓AM, ↓AV, AP, CQ, EqI, Val_bool, itC, ea, i64, rd_mk ga, c1, c2, c3, k1, k2, k3t, c4, c5, c6]
    refine c_iw.use ?_
    rintro _ h9 _ ⟨rfl, e9⟩
    subst h9
    by_cases c7 : 1 ≤ x.cols ∧ x.cols ≤ 8
    case neg =>
      simp +contextual (disch := omega) only [↓AM, ↓AV, AP, CQ, EqI, Val_bool, itC, ea, i64, rd_mk ga, c1, c2, c3, k1, k2, k3t, c4, c5, c6, c7]
      exact no (fun q => c7 (q.2.2.2.2.2 k3).2.2.2.1) _ (Fm.refl)
    have hm := mul8 c6 c7
    by_cases c8 : (x.of.length : Int) = x.rows * x.cols
    case neg =>
      simp +contextual (disch := omega) only [↓AM, ↓AV, AP, CQ, EqI, Val_bool, itC, ea, i64, rd_mk ga, c1, c2, c3, k1, k2, k3t, c4, c5, c6, c7, c8]
      exact no (fun q => c8 (q.2.2.2.2.2 k3).2.2.2.2) _ (Fm.refl)
    have c8t : ((x.of.length : Int) = x.rows * x.cols) = True := eq_true c8
    simp +contextual (disch := omega) only [↓AM, ↓AV, AP, CQ, EqI, Val_bool, itC, ea, i64, rd_mk ga, c1, c2, c3, k1, k2, k3t, c4, c5, c6, c7, c8t]
    exact ys ⟨c1, c2, c3, fun k => absurd k k1, fun k => absurd k k2, fun _ => ⟨c4, c5, c6, c7, c8⟩⟩ _ Fm.refl
  simp +contextual (disch := omega) only [↓AM, ↓AV, AP, CQ, EqI, Val_bool, itC, ea, i64, rd_mk ga, c1, c2, c3, k1, k2, k3]
  exact ys ⟨c1, c2, c3, fun k => absurd k k1, fun k => absurd k k2, fun k => absurd k k3⟩ _ Fm.refl
theorem c_rranges {h : Hp} {x : Item} {p : IA} (ri : RI h x p) (hz : SI x) : ACalls Tryz.prog 59 [.agg (itC x p).toArray] h fun v h' => v = .bool (decide (rangesP x)) ∧ Fm No h h' := by
  refine dioramaref15_ranges_ok.snd Af.hm rfl fun w => ?_
  rw [WF_eq, dioramaref15_ranges]
  obtain ⟨ha, ea⟩ : ∃ g, h.new ⟨itC x p, .own⟩ = g := ⟨_, rfl⟩
  have wa : Wf ha := ea ▸ w.new
  have fa : Fm No h ha := ea ▸ Fm.new Fm.refl
  have ga : ha.get h.size = some ⟨itC x p, .own⟩ := ea ▸ gnew
  have no : ¬ rangesP x → ∀ g, Fm No ha g → (false = decide (rangesP x) ∧ Fm No h g) := fun q g fg => ⟨(decide_eq_false q).symm, fa.trans fg fun _ _ x => x⟩
  have ys : rangesP x → ∀ g, Fm No ha g → (true = decide (rangesP x) ∧ Fm No h g) := fun q g fg => ⟨(decide_eq_true q).symm, fa.trans fg fun _ _ x => x⟩
  have rf := ri.fl.keep w fa (fun _ _ => id)
  have ra := ri.at_.keep w fa (fun _ _ => id)
  have hof := hz.of
  simp only [itC] at ea ga
  simp +contextual (disch := omega) only [↓AM, ↓AV, AP, CQ, EqI, Val_bool, itC, ea, i64, rd_mk ga]
  refine c_in15.use ?_
  rintro _ h9 _ ⟨rfl, e9⟩
  subst h9
  by_cases c1 : 1 ≤ x.id ∧ x.id ≤ 1000
  case neg =>
    simp +contextual (disch := omega) only [↓AM, ↓AV, AP, CQ, EqI, Val_bool, itC, ea, i64, rd_mk ga, c1]
    exact no (fun q => c1 q.1) _ (Fm.refl)
  simp +contextual (disch := omega) only [↓AM, ↓AV, AP, CQ, EqI, Val_bool, itC, ea, i64, rd_mk ga, c1]
  refine c_in15.use ?_
  rintro _ h9 _ ⟨rfl, e9⟩
  subst h9
  by_cases c2 : 0 ≤ x.kd ∧ x.kd ≤ 3
  case neg =>
    simp +contextual (disch := omega) only [↓AM, ↓AV, AP, CQ, EqI, Val_bool, itC, ea, i64, rd_mk ga, c1, c2]
    exact no (fun q => c2 q.2.1) _ (Fm.refl)
  simp +contextual (disch := omega) only [↓AM, ↓AV, AP, CQ, EqI, Val_bool, itC, ea, i64, rd_mk ga, c1, c2]
  refine c_in15.use ?_
  rintro _ h9 _ ⟨rfl, e9⟩
  subst h9
  by_cases c3 : 0 ≤ x.tn ∧ x.tn ≤ 3
  case neg =>
    simp +contextual (disch := omega) only [↓AM, ↓AV, AP, CQ, EqI, Val_bool, itC, ea, i64, rd_mk ga, c1, c2, c3]
    exact no (fun q => c3 q.2.2.1) _ (Fm.refl)
  simp +contextual (disch := omega) only [↓AM, ↓AV, AP, CQ, EqI, Val_bool, itC, ea, i64, rd_mk ga, c1, c2, c3]
  refine c_in15.use ?_
  rintro _ h9 _ ⟨rfl, e9⟩
  subst h9
  by_cases c4 : 1 ≤ x.wd ∧ x.wd ≤ 64
  case neg =>
    by_cases k1 : x.kd = 1
    · by_cases ck : (x.of.length : Int) = 1
      · simp +contextual (disch := omega) only [↓AM, ↓AV, AP, CQ, EqI, Val_bool, itC, ea, i64, rd_mk ga, c1, c2, c3, c4, k1, ck]
        exact ys ⟨c1, c2, c3, fun _ => ck, fun k => absurd (k1.symm.trans k) (by decide), fun k => absurd (k1.symm.trans k) (by decide)⟩ _ Fm.refl
      · simp +contextual (disch := omega) only [↓AM, ↓AV, AP, CQ, EqI, Val_bool, itC, ea, i64, rd_mk ga, c1, c2, c3, c4, k1, ck]
        exact no (fun q => ck (q.2.2.2.1 k1)) _ Fm.refl
    by_cases k2 : x.kd = 2
    · have k2t : (x.kd = 2) = True := eq_true k2
      simp +contextual (disch := omega) only [↓AM, ↓AV, AP, CQ, EqI, Val_bool, itC, ea, i64, rd_mk ga, c1, c2, c3, c4, k1, k2t]
      exact no (fun q => c4 (q.2.2.2.2.1 k2).1) _ Fm.refl
    by_cases k3 : x.kd = 3
    · have k3t : (x.kd = 3) = True := eq_true k3
      simp +contextual (disch := omega) only [↓AM, ↓AV, AP, CQ, EqI, Val_bool, itC, ea, i64, rd_mk ga, c1, c2, c3, c4, k1, k2, k3t]
      exact no (fun q => c4 (q.2.2.2.2.2 k3).1) _ Fm.refl
    simp +contextual (disch := omega) only [↓AM, ↓AV, AP, CQ, EqI, Val_bool, itC, ea, i64, rd_mk ga, c1, c2, c3, c4, k1, k2, k3]
    exact ys ⟨c1, c2, c3, fun k => absurd k k1, fun k => absurd k k2, fun k => absurd k k3⟩ _ Fm.refl
  simp +contextual (disch := omega) only [↓AM, ↓AV, AP, CQ, EqI, Val_bool, itC, ea, i64, rd_mk ga, c1, c2, c3, c4]
  refine c_in15.use ?_
  rintro _ h9 _ ⟨rfl, e9⟩
  subst h9
  by_cases c5 : 1 ≤ x.hg ∧ x.hg ≤ 64
  case neg =>
    by_cases k1 : x.kd = 1
    · by_cases ck : (x.of.length : Int) = 1
      · simp +contextual (disch := omega) only [↓AM, ↓AV, AP, CQ, EqI, Val_bool, itC, ea, i64, rd_mk ga, c1, c2, c3, c4, c5, k1, ck]
        exact ys ⟨c1, c2, c3, fun _ => ck, fun k => absurd (k1.symm.trans k) (by decide), fun k => absurd (k1.symm.trans k) (by decide)⟩ _ Fm.refl
      · simp +contextual (disch := omega) only [↓AM, ↓AV, AP, CQ, EqI, Val_bool, itC, ea, i64, rd_mk ga, c1, c2, c3, c4, c5, k1, ck]
        exact no (fun q => ck (q.2.2.2.1 k1)) _ Fm.refl
    by_cases k2 : x.kd = 2
    · have k2t : (x.kd = 2) = True := eq_true k2
      simp +contextual (disch := omega) only [↓AM, ↓AV, AP, CQ, EqI, Val_bool, itC, ea, i64, rd_mk ga, c1, c2, c3, c4, c5, k1, k2t]
      exact no (fun q => c5 (q.2.2.2.2.1 k2).2.1) _ Fm.refl
    by_cases k3 : x.kd = 3
    · have k3t : (x.kd = 3) = True := eq_true k3
      simp +contextual (disch := omega) only [↓AM, ↓AV, AP, CQ, EqI, Val_bool, itC, ea, i64, rd_mk ga, c1, c2, c3, c4, c5, k1, k2, k3t]
      exact no (fun q => c5 (q.2.2.2.2.2 k3).2.1) _ Fm.refl
    simp +contextual (disch := omega) only [↓AM, ↓AV, AP, CQ, EqI, Val_bool, itC, ea, i64, rd_mk ga, c1, c2, c3, c4, c5, k1, k2, k3]
    exact ys ⟨c1, c2, c3, fun k => absurd k k1, fun k => absurd k k2, fun k => absurd k k3⟩ _ Fm.refl
  by_cases k1 : x.kd = 1
  · by_cases ck : (x.of.length : Int) = 1
    · simp +contextual (disch := omega) only [↓AM, ↓AV, AP, CQ, EqI, Val_bool, itC, ea, i64, rd_mk ga, c1, c2, c3, c4, c5, k1, ck]
      exact ys ⟨c1, c2, c3, fun _ => ck, fun k => absurd (k1.symm.trans k) (by decide), fun k => absurd (k1.symm.trans k) (by decide)⟩ _ Fm.refl
    · simp +contextual (disch := omega) only [↓AM, ↓AV, AP, CQ, EqI, Val_bool, itC, ea, i64, rd_mk ga, c1, c2, c3, c4, c5, k1, ck]
      exact no (fun q => ck (q.2.2.2.1 k1)) _ Fm.refl
  by_cases k2 : x.kd = 2
  · have k2t : (x.kd = 2) = True := eq_true k2
    simp +contextual (disch := omega) only [↓AM, ↓AV, AP, CQ, EqI, Val_bool, itC, ea, i64, rd_mk ga, c1, c2, c3, c4, c5, k1, k2t]
    refine c_in15.use ?_
    rintro _ h9 _ ⟨rfl, e9⟩
    subst h9
    by_cases c6 : 1 ≤ (x.fl.length : Int) ∧ (x.fl.length : Int) ≤ 4
    case neg =>
      simp +contextual (disch := omega) only [↓AM, ↓AV, AP, CQ, EqI, Val_bool, itC, ea, i64, rd_mk ga, c1, c2, c3, c4, c5, k1, k2t, c6]
      exact no (fun q => c6 (q.2.2.2.2.1 k2).2.2.1) _ (Fm.refl)
    simp +contextual (disch := omega) only [↓AM, ↓AV, AP, CQ, EqI, Val_bool, itC, ea, i64, rd_mk ga, c1, c2, c3, c4, c5, k1, k2t, c6]
    refine (c_all rf hz.fl).use ?_
    rintro _ h9 _ ⟨rfl, e9⟩
    subst h9
    by_cases c7 : x.fl.any (outB 0 4095) = false
    case neg =>
      simp +contextual (disch := omega) only [↓AM, ↓AV, AP, CQ, EqI, Val_bool, itC, ea, i64, rd_mk ga, c1, c2, c3, c4, c5, k1, k2t, c6, c7]
      exact no (fun q => c7 (q.2.2.2.2.1 k2).2.2.2.1) _ (Fm.refl)
    by_cases c8 : (x.of.length : Int) ≤ 8
    case neg =>
      simp +contextual (disch := omega) only [↓AM, ↓AV, AP, CQ, EqI, Val_bool, itC, ea, i64, rd_mk ga, c1, c2, c3, c4, c5, k1, k2t, c6, c7, c8]
      exact no (fun q => c8 (q.2.2.2.2.1 k2).2.2.2.2.1) _ (Fm.refl)
    by_cases c9 : (x.at_.length : Int) = 2 * (x.of.length : Int)
    case neg =>
      simp +contextual (disch := omega) only [↓AM, ↓AV, AP, CQ, EqI, Val_bool, itC, ea, i64, rd_mk ga, c1, c2, c3, c4, c5, k1, k2t, c6, c7, c8, c9]
      exact no (fun q => c9 (q.2.2.2.2.1 k2).2.2.2.2.2.1) _ (Fm.refl)
    have c9t : ((x.at_.length : Int) = 2 * (x.of.length : Int)) = True := eq_true c9
    simp +contextual (disch := omega) only [↓AM, ↓AV, AP, CQ, EqI, Val_bool, itC, ea, i64, rd_mk ga, c1, c2, c3, c4, c5, k1, k2t, c6, c7, c8, c9t]
    refine (c_all ra hz.at_).use ?_
    rintro _ h9 _ ⟨rfl, e9⟩
    subst h9
    by_cases c10 : x.at_.any (outB (-64) 64) = false
    case neg =>
      simp +contextual (disch := omega) only [↓AM, ↓AV, AP, CQ, EqI, Val_bool, itC, ea, i64, rd_mk ga, c1, c2, c3, c4, c5, k1, k2t, c6, c7, c8, c9t, c10]
      exact no (fun q => c10 (q.2.2.2.2.1 k2).2.2.2.2.2.2) _ (Fm.refl)
    simp +contextual (disch := omega) only [↓AM, ↓AV, AP, CQ, EqI, Val_bool, itC, ea, i64, rd_mk ga, c1, c2, c3, c4, c5, k1, k2t, c6, c7, c8, c9t, c10]
    exact ys ⟨c1, c2, c3, fun k => absurd k k1, fun _ => ⟨c4, c5, c6, c7, c8, c9, c10⟩, fun k => absurd (k2.symm.trans k) (by decide)⟩ _ Fm.refl
  by_cases k3 : x.kd = 3
  · have k3t : (x.kd = 3) = True := eq_true k3
    simp +contextual (disch := omega) only [↓AM, ↓AV, AP, CQ, EqI, Val_bool, itC, ea, i64, rd_mk ga, c1, c2, c3, c4, c5, k1, k2, k3t]
    refine c_in15.use ?_
    rintro _ h9 _ ⟨rfl, e9⟩
    subst h9
    by_cases c6 : 1 ≤ x.rows ∧ x.rows ≤ 8
    case neg =>
      simp +contextual (disch := omega) only [↓AM, ↓AV, AP, CQ, EqI, Val_bool, itC, ea, i64, rd_mk ga, c1, c2, c3, c4, c5, k1, k2, k3t, c6]
      exact no (fun q => c6 (q.2.2.2.2.2 k3).2.2.1) _ (Fm.refl)
    simp +contextual (disch := omega) only [↓AM, ↓AV, AP, CQ, EqI, Val_bool, itC, ea, i64, rd_mk ga, c1, c2, c3, c4, c5, k1, k2, k3t, c6]
    refine c_in15.use ?_
    rintro _ h9 _ ⟨rfl, e9⟩
    subst h9
    by_cases c7 : 1 ≤ x.cols ∧ x.cols ≤ 8
    case neg =>
      simp +contextual (disch := omega) only [↓AM, ↓AV, AP, CQ, EqI, Val_bool, itC, ea, i64, rd_mk ga, c1, c2, c3, c4, c5, k1, k2, k3t, c6, c7]
      exact no (fun q => c7 (q.2.2.2.2.2 k3).2.2.2.1) _ (Fm.refl)
    have hm := mul8 c6 c7
    by_cases c8 : (x.of.length : Int) = x.rows * x.cols
    case neg =>
      simp +contextual (disch := omega) only [↓AM, ↓AV, AP, CQ, EqI, Val_bool, itC, ea, i64, rd_mk ga, c1, c2, c3, c4, c5, k1, k2, k3t, c6, c7, c8]
      exact no (fun q => c8 (q.2.2.2.2.2 k3).2.2.2.2) _ (Fm.refl)
    have c8t : ((x.of.length : Int) = x.rows * x.cols) = True := eq_true c8
    simp +contextual (disch := omega) only [↓AM, ↓AV, AP, CQ, EqI, Val_bool, itC, ea, i64, rd_mk ga, c1, c2, c3, c4, c5, k1, k2, k3t, c6, c7, c8t]
    exact ys ⟨c1, c2, c3, fun k => absurd k k1, fun k => absurd k k2, fun _ => ⟨c4, c5, c6, c7, c8⟩⟩ _ Fm.refl
  simp +contextual (disch := omega) only [↓AM, ↓AV, AP, CQ, EqI, Val_bool, itC, ea, i64, rd_mk ga, c1, c2, c3, c4, c5, k1, k2, k3]
  exact ys ⟨c1, c2, c3, fun k => absurd k k1, fun k => absurd k k2, fun k => absurd k k3⟩ _ Fm.refl
end Go.Proofs.YtmkcngcnedjfkaaGreat.Is

/- The numbers that an item does not use. Plain theorems over the abstract machine.
   Conditions: none. -/
namespace Go.Proofs.YtmkcngcnedjfkaaGreat.Is
open Go Go.RowKit Go.Proofs.YtmkcngcnedjfkaaGreat.Am Go.Proofs.YtmkcngcnedjfkaaGreat.Af Go.Proofs.YtmkcngcnedjfkaaGreat.Md Go.Proofs.YtmkcngcnedjfkaaGreat.It
set_option linter.unusedVariables false
set_option linter.unusedSimpArgs false
set_option linter.defProp false
set_option maxRecDepth 20000
set_option maxHeartbeats 4000000

def unusedP (x : Item) : Prop :=
  (x.kd = 0 ∧ (x.of.length : Int) = 0 ∧ (x.rows = 0 ∧ x.cols = 0) ∧ ((x.at_.length : Int) = 0 ∧ (x.fl.length : Int) = 0) ∧ x.wd = 0 ∧ x.hg = 0) ∨
  (x.kd = 1 ∧ (x.dt.length : Int) = 0 ∧ (x.rows = 0 ∧ x.cols = 0) ∧ ((x.at_.length : Int) = 0 ∧ (x.fl.length : Int) = 0) ∧ x.wd = 0 ∧ x.hg = 0) ∨
  (x.kd = 2 ∧ (x.dt.length : Int) = 0 ∧ x.rows = 0 ∧ x.cols = 0) ∨
  (x.kd = 3 ∧ (x.dt.length : Int) = 0 ∧ (x.at_.length : Int) = 0 ∧ (x.fl.length : Int) = 0)
instance (x : Item) : Decidable (unusedP x) := by unfold unusedP; infer_instance
theorem c_unused {h : Hp} {x : Item} {p : IA} (hk : 0 ≤ x.kd ∧ x.kd ≤ 3) : ACalls Tryz.prog 54 [.agg (itC x p).toArray] h fun v h' => v = .bool (decide (unusedP x)) ∧ Fm No h h' := by
  refine item_unused_ok.snd Af.hm rfl fun w => ?_
  rw [WF_eq, item_unused]
  obtain ⟨ha, ea⟩ : ∃ g, h.new ⟨itC x p, .own⟩ = g := ⟨_, rfl⟩
  have wa : Wf ha := ea ▸ w.new
  have fa : Fm No h ha := ea ▸ Fm.new Fm.refl
  have ga : ha.get h.size = some ⟨itC x p, .own⟩ := ea ▸ gnew
  simp only [itC] at ea ga
  have yes : unusedP x → true = decide (unusedP x) := fun q => (decide_eq_true q).symm
  have no : ¬ unusedP x → false = decide (unusedP x) := fun q => (decide_eq_false q).symm
  simp +contextual (disch := omega) only [↓AM, ↓AV, AP, CQ, EqI, Val_bool, itC, ea, rd_mk ga]
  clear ea ga wa w
  repeat' first
    | exact fa
    | apply And.intro
    | (intro hh; replace hh := of_decide_eq_true hh)
    | (intro hh; replace hh := of_decide_eq_false hh)
    | intro hh
  all_goals
    clear fa yes no
    first
      | exact (decide_eq_true (by unfold unusedP; omega)).symm
      | exact (decide_eq_false (by unfold unusedP; omega)).symm
      | exact decide_eq_decide.2 (by unfold unusedP; omega)
def cleanP (x : Item) : Prop := (x.dt.length : Int) ≤ 65536 ∧ (x.kd = 0 ∨ (x.dt.length : Int) = 0) ∧ (x.kd ≠ 0 ∨ (x.of.length : Int) = 0) ∧ (x.kd = 2 ∨ (x.at_.length : Int) = 0 ∧ (x.fl.length : Int) = 0) ∧ (x.kd = 3 ∨ x.rows = 0 ∧ x.cols = 0) ∧ (x.kd = 2 ∨ x.kd = 3 ∨ x.wd = 0 ∧ x.hg = 0)
instance (x : Item) : Decidable (cleanP x) := by unfold cleanP; infer_instance
theorem clean_unused {x : Item} (hk : 0 ≤ x.kd ∧ x.kd ≤ 3) : cleanP x ↔ unusedP x ∧ (x.dt.length : Int) ≤ 65536 := by
  unfold cleanP unusedP
  omega
theorem c_clean {h : Hp} {x : Item} {p : IA} : ACalls Tryz.prog 60 [.agg (itC x p).toArray] h fun v h' => v = .bool (decide (cleanP x)) ∧ Fm No h h' := by
  refine dioramaref15_clean_ok.snd Af.hm rfl fun w => ?_
  rw [WF_eq, dioramaref15_clean]
  obtain ⟨ha, ea⟩ : ∃ g, h.new ⟨itC x p, .own⟩ = g := ⟨_, rfl⟩
  have wa : Wf ha := ea ▸ w.new
  have fa : Fm No h ha := ea ▸ Fm.new Fm.refl
  have ga : ha.get h.size = some ⟨itC x p, .own⟩ := ea ▸ gnew
  simp only [itC] at ea ga
  simp +contextual (disch := omega) only [↓AM, ↓AV, AP, CQ, EqI, Val_bool, itC, ea, rd_mk ga]
  clear ea ga wa w
  repeat' first
    | exact fa
    | apply And.intro
    | (intro hh; replace hh := of_decide_eq_true hh)
    | (intro hh; replace hh := of_decide_eq_false hh)
    | intro hh
  all_goals
    clear fa
    first
      | exact (decide_eq_true (by unfold cleanP; omega)).symm
      | exact (decide_eq_false (by unfold cleanP; omega)).symm
      | exact decide_eq_decide.2 (by unfold cleanP; omega)
end Go.Proofs.YtmkcngcnedjfkaaGreat.Is

/- Which item is made of which; the program's search for loops. Plain theorems over the abstract machine.
   Conditions: none. -/
namespace Go.Proofs.YtmkcngcnedjfkaaGreat.Is
open Go Go.RowKit Go.Proofs.YtmkcngcnedjfkaaGreat.Am Go.Proofs.YtmkcngcnedjfkaaGreat.Af Go.Proofs.YtmkcngcnedjfkaaGreat.Md Go.Proofs.YtmkcngcnedjfkaaGreat.It
set_option linter.unusedVariables false
set_option linter.unusedSimpArgs false
set_option linter.defProp false
set_option maxRecDepth 20000
set_option maxHeartbeats 4000000

/-- Item k is made of item n. -/
def nx (ls : List Item) (k n : Nat) : Prop := ∃ x, ls[k]? = some x ∧ ∃ id ∈ x.of, fI ls id = (n : Int)
inductive Rch (ls : List Item) : Nat → Nat → Prop
  | one {k n : Nat} : nx ls k n → Rch ls k n
  | step {k m n : Nat} : nx ls k m → Rch ls m n → Rch ls k n
theorem Rch.snoc {ls : List Item} {k m n : Nat} (h : Rch ls k m) (e : nx ls m n) : Rch ls k n := by
  induction h with
  | one h => exact .step h (.one e)
  | step h _ ih => exact .step h (ih e)
/-- What is named is there. -/
def Okn (ls : List Item) : Prop := ∀ x ∈ ls, ∀ id ∈ x.of, 0 ≤ fI ls id
theorem pI_lt {p : Item → Bool} : ∀ {ls : List Item} {n : Nat}, pI p n ls < ((n + ls.length : Nat) : Int) ∧ -1 ≤ pI p n ls
  | [], n => ⟨by show (-1 : Int) < _; omega, Int.le_refl _⟩
  | x :: xs, n => by
    show (if p x = true then (n : Int) else pI p (n + 1) xs) < _ ∧ -1 ≤ (if p x = true then (n : Int) else pI p (n + 1) xs)
    have := pI_lt (p := p) (ls := xs) (n := n + 1)
    rw [List.length_cons]
    split <;> omega
theorem fI_lt {ls : List Item} {id : Int} : fI ls id < (ls.length : Int) ∧ -1 ≤ fI ls id := by
  have := pI_lt (p := fun x => decide (x.id = id)) (ls := ls) (n := 0)
  rw [Nat.zero_add] at this
  exact this
theorem Okn.nat {ls : List Item} (ok : Okn ls) {x : Item} (hx : x ∈ ls) {id : Int} (hi : id ∈ x.of) : ∃ N : Nat, fI ls id = (N : Int) ∧ N < ls.length := by
  have h1 := ok x hx id hi
  have h2 := (fI_lt (ls := ls) (id := id)).1
  exact ⟨(fI ls id).toNat, by omega, by omega⟩
/-- How many are not seen. -/
def un : List Bool → Nat
  | [] => 0
  | b :: bs => (if b = true then 0 else 1) + un bs
theorem un_set : ∀ {S : List Bool} {N : Nat}, S[N]? = some false → un (S.set N true) + 1 = un S
  | [], N, h => by simp at h
  | b :: bs, 0, h => by
    simp at h
    subst h
    show (0 + un bs) + 1 = 1 + un bs
    omega
  | b :: bs, N + 1, h => by
    show ((if b = true then 0 else 1) + un (bs.set N true)) + 1 = (if b = true then 0 else 1) + un bs
    have := un_set (S := bs) (N := N) (by simpa using h)
    omega
def Sub_ (S T : List Bool) : Prop := ∀ m : Nat, S[m]? = some true → T[m]? = some true
theorem Sub_.set {S : List Bool} {N : Nat} : Sub_ S (S.set N true) := fun m hm => by
  rw [List.getElem?_set]
  by_cases e : N = m
  · subst e
    have := (List.getElem?_eq_some_iff.1 hm).1
    rw [if_pos rfl, if_pos this]
  · rw [if_neg e]; exact hm
/-- All that m is made of is seen, and none of it is i. -/
def Cl (ls : List Item) (i : Nat) (S : List Bool) (m : Nat) : Prop := ∀ n, nx ls m n → n ≠ i ∧ S[n]? = some true
theorem Cl.mono {ls : List Item} {i m : Nat} {S T : List Bool} (h : Cl ls i S m) (s : Sub_ S T) : Cl ls i T m := fun n hn => ⟨(h n hn).1, s n (h n hn).2⟩
theorem no_rch {ls : List Item} {i : Nat} {S : List Bool} (h0 : Cl ls i S i) (h1 : ∀ m : Nat, S[m]? = some true → Cl ls i S m) : ¬ Rch ls i i := by
  have key : ∀ a b, Rch ls a b → (a = i ∨ S[a]? = some true) → b ≠ i ∧ S[b]? = some true := by
    intro a b h
    induction h with
    | one e =>
      intro ha
      rcases ha with rfl | ha
      · exact h0 _ e
      · exact h1 _ ha _ e
    | step e _ ih =>
      intro ha
      have := (show _ from by
        rcases ha with rfl | ha
        · exact h0 _ e
        · exact h1 _ ha _ e : _ ≠ i ∧ S[_]? = some true)
      exact ih (.inr this.2)
  exact fun h => (key i i h (.inl rfl)).1 rfl
theorem RL.keepW {h h' : Hp} {oa : Option Addr} {ls : List Item} {F : Nat → Prop} (w : Wf h) (r : RL h oa ls) (f : Fm F h h') (hF : ∀ x, x < h.size → ¬ F x) : RL h' oa ls := by
  obtain ⟨cs, r1, r2⟩ := r
  exact ⟨cs, r1.keepW w f hF, fun i l hl => let ⟨p, a, b⟩ := r2 i l hl; ⟨p, a, b.dt.keepW w f hF, b.of.keepW w f hF, b.at_.keepW w f hF, b.fl.keepW w f hF⟩⟩
def bV (S : List Bool) : List Value := S.map Value.bool
theorem bV_set {S : List Bool} {N : Nat} {b : Bool} : (bV S).set N (.bool b) = bV (S.set N b) := by simp [bV, List.map_set]
theorem c_walk {hB : Hp} {ls : List Item} {oa : Option Addr} {c b2 b3 b5 b6 bs i : Nat} (g2 : hB.get b2 = some ⟨[.slice oa ls.length c], .own⟩) (g3 : hB.get b3 = some ⟨[.int .i64 (i : Int)], .own⟩) (g5 : hB.get b5 = some ⟨[.slice (some ⟨bs, 0, none⟩) ls.length ls.length], .own⟩)
    (g6 : hB.get b6 = some ⟨[.func (.func 114) #[] #[.pointer (some ⟨b2, 0, none⟩), .pointer (some ⟨b3, 0, none⟩), .pointer (some ⟨b5, 0, none⟩), .pointer (some ⟨b6, 0, none⟩)]], .own⟩)
    (n2 : b2 ≠ bs) (n3 : b3 ≠ bs) (n5 : b5 ≠ bs) (n6 : b6 ≠ bs) (wB : Wf hB) (hR : ∀ g, Fm (fun z => z = bs) hB g → RL g oa ls) (ok : Okn ls) (hz : SL ls) (hn : ls.length ≤ 1000) :
    ∀ (μ k : Nat) (S : List Bool) (h : Hp), un S < μ → k < ls.length → S.length = ls.length → Fm (fun z => z = bs) hB h → h.get bs = some ⟨bV S, .own⟩ →
      ACalls Tryz.prog 114 [.int .i64 (k : Int), .pointer (some ⟨b2, 0, none⟩), .pointer (some ⟨b3, 0, none⟩), .pointer (some ⟨b5, 0, none⟩), .pointer (some ⟨b6, 0, none⟩)] h fun v h' =>
        ∃ r S', v = .bool r ∧ h'.get bs = some ⟨bV S', .own⟩ ∧ Fm (fun z => z = bs) h h' ∧ S'.length = ls.length ∧ Sub_ S S' ∧ un S' ≤ un S ∧ (r = true → Rch ls k i) ∧ (r = false → Cl ls i S' k ∧ ∀ m : Nat, S'[m]? = some true → S[m]? = some true ∨ Cl ls i S' m) := by
  intro μ
  induction μ with
  | zero => intro k S h hu; omega
  | succ μ ih =>
    intro k S h hu hk hS fB gS
    refine item_loops_1_ok.snd Af.hm rfl fun w => ?_
    rw [WF_eq, item_loops_1]
    have kp : ∀ g, Fm (fun z => z = bs) hB g → g.get b2 = some ⟨[.slice oa ls.length c], .own⟩ ∧ g.get b3 = some ⟨[.int .i64 (i : Int)], .own⟩ ∧ g.get b5 = some ⟨[.slice (some ⟨bs, 0, none⟩) ls.length ls.length], .own⟩ ∧
        g.get b6 = some ⟨[.func (.func 114) #[] #[.pointer (some ⟨b2, 0, none⟩), .pointer (some ⟨b3, 0, none⟩), .pointer (some ⟨b5, 0, none⟩), .pointer (some ⟨b6, 0, none⟩)]], .own⟩ := fun g fg =>
      ⟨fg.keep wB g2 n2, fg.keep wB g3 n3, fg.keep wB g5 n5, fg.keep wB g6 n6⟩
    obtain ⟨q2, q3, q5, q6⟩ := kp h fB
    obtain ⟨b, off, sp, p, x, rfl, fo, hx, hr, ri⟩ := (hR h fB).at hk
    have r3 := rdN_get hr (i := 3) (v := .slice p.oa x.of.length p.oc) rfl
    have hxm := List.mem_of_getElem? hx
    have hsx := (hz.2 x hxm).of
    simp +contextual (disch := omega) only [↓AM, ↓AV, AP, CQ, rd_mk q2, hk, fo, r3]
    refine WL.mk (fun m t h' => ∃ (j : Nat) (S' : List Bool), Wf h' ∧ Fm (fun z => z = bs) h h' ∧ h'.get bs = some ⟨bV S', .own⟩ ∧ S'.length = ls.length ∧ Sub_ S S' ∧ un S' ≤ un S ∧ (∀ id ∈ x.of.take j, ∀ N : Nat, fI ls id = (N : Int) → N ≠ i ∧ S'[N]? = some true) ∧
        (∀ m : Nat, S'[m]? = some true → S[m]? = some true ∨ Cl ls i S' m) ∧ j ≤ x.of.length ∧ m = x.of.length - j ∧
        t = [(1, some (.pointer (some ⟨b2, 0, none⟩))), (2, some (.pointer (some ⟨b3, 0, none⟩))), (3, some (.pointer (some ⟨b5, 0, none⟩))), (4, some (.pointer (some ⟨b6, 0, none⟩))), (14, some (.slice p.oa x.of.length p.oc)), (15, some (.int .i64 (x.of.length : Int))), (16, some (.int .i64 (j : Int)))])
      ⟨x.of.length, 0, S, w, Fm.refl, gS, hS, fun _ h => h, Nat.le_refl _, fun id h => by simp at h, fun m h => .inl h, by omega, rfl, rfl⟩ ?_
    rintro m t h1 ⟨j, S1, w1, f1, gS1, hS1, sub1, un1, seen1, cl1, hj, rfl, rfl⟩
    have fB1 : Fm (fun z => z = bs) hB h1 := fB.trans f1 fun _ _ x => x
    by_cases hjn : j < x.of.length
    · obtain ⟨q21, q31, q51, q61⟩ := kp h1 fB1
      have rof : Rd h1 1 p.oa x.of.length (iV x.of) := by
        obtain ⟨bb, oo, ss, pp, xx, e, _, hxx, hrr, rii⟩ := (hR h1 fB1).at hk
        cases e
        rw [hx] at hxx
        cases hxx
        have : h1.rdN b (off + k * 12) 12 = h.rdN b (off + k * 12) 12 := by
          have hb : b ≠ bs := fun e => by
            subst e
            obtain ⟨ob, hob, hle, hcs⟩ := rdN_of hrr
            rw [gS1] at hob
            cases hob
            have h3 : ((bV S1).drop (off + k * 12)).take 12 = itC x pp := hcs.symm
            have h4 : (Value.int .i64 x.id) ∈ ((bV S1).drop (off + k * 12)).take 12 := by rw [h3]; simp [itC]
            have h5 := List.mem_of_mem_drop (List.mem_of_mem_take h4)
            obtain ⟨y, _, hy⟩ := List.mem_map.1 h5
            cases hy
          exact rdN_keep (f1.get _ (rdN_wf w hr) hb)
        rw [hr, hrr] at this
        have e3 := congrArg (fun q => q.map fun l => l[3]?) this
        simp only [itC, Option.map_some, List.getElem?_cons_succ, List.getElem?_cons_zero, Option.some.injEq, Value.slice.injEq, true_and] at e3
        rw [← e3.1]
        exact rii.of
      obtain ⟨b4, o4, s4, e4, f4, id, hid, r4⟩ := Rd.int rof hjn
      have hidm := List.mem_of_getElem? hid
      obtain ⟨N, hN, hNl⟩ := ok.nat hxm hidm
      rw [e4]
      simp +contextual (disch := omega) only [↓AM, ↓AV, AP, CQ, hjn, f4, r4, rd_mk q21]
      refine (c_find (c := c) (hR h1 fB1) hz.1).use ?_
      rintro _ h2 w2 ⟨rfl, f2⟩
      have fB2 : Fm (fun z => z = bs) hB h2 := fB1.trans (f2.mono fun _ _ f => f.elim) fun _ _ x => x
      have f02 : Fm (fun z => z = bs) h h2 := f1.trans (f2.mono fun _ _ f => f.elim) fun _ _ x => x
      obtain ⟨q22, q32, q52, q62⟩ := kp h2 fB2
      have gS2 := f2.keep w1 gS1 (fun f => f)
      have hNx : nx ls k N := ⟨x, hx, id, hidm, hN⟩
      by_cases hNi : (N : Int) = (i : Int)
      · have hNi' : N = i := by omega
        simp +contextual (disch := omega) only [↓AM, ↓AV, AP, CQ, EqI, hN, hNi, rd_mk q32]
        exact ⟨true, S1, rfl, gS2, f02, hS1, sub1, un1, fun _ => .one (hNi' ▸ hNx), fun h => by cases h⟩
      have hNi' : N ≠ i := by omega
      obtain ⟨bN, hbN⟩ : ∃ bN, S1[N]? = some bN := ⟨_, List.getElem?_eq_getElem (by omega)⟩
      have hbV : (bV S1)[N]? = some (.bool bN) := by unfold bV; rw [List.getElem?_map, hbN]; rfl
      have hNn : N < ls.length := hNl
      cases bN with
      | true =>
        simp +contextual (disch := omega) only [↓AM, ↓AV, AP, CQ, EqI, hN, hNi, hNl, rd_mk q32, rd_mk q52, rd_mk gS2, hbV, i64]
        refine ⟨x.of.length - (j + 1), by omega, j + 1, S1, w2, f02, gS2, hS1, sub1, un1, fun id' hid' N' hN' => ?_, cl1, by omega, rfl, ?_⟩
        · rw [List.take_add_one, hid, List.mem_append] at hid'
          rcases hid' with hid' | hid'
          · exact seen1 id' hid' N' hN'
          · simp at hid'
            subst hid'
            have : N' = N := by omega
            subst this
            exact ⟨hNi', hbN⟩
        · first | rfl | (rw [← e4])
      | false =>
        obtain ⟨h3, e3⟩ : ∃ g, h2.put bs ⟨bV (S1.set N true), .own⟩ = g := ⟨_, rfl⟩
        have hspl : spl (bV S1) N [Value.bool true] = bV (S1.set N true) := by rw [← bV_set]; exact spl_one _ _ _ (by unfold bV; rw [List.length_map]; omega)
        have hle : leIs (N + 1) (bV S1) = true := by rw [← leIs_p]; unfold bV; rw [List.length_map]; omega
        have w3 : Wf h3 := e3 ▸ w2.put (w2.lt gS2)
        have f3 : Fm (fun z => z = bs) h2 h3 := e3 ▸ Fm.put Fm.refl fun _ => rfl
        have g3' : h3.get bs = some ⟨bV (S1.set N true), .own⟩ := e3 ▸ gput
        have fB3 := fB2.trans f3 fun _ _ x => x
        obtain ⟨q23, q33, q53, q63⟩ := kp h3 fB3
        simp +contextual (disch := omega) only [↓AM, ↓AV, AP, CQ, EqI, hN, hNi, hNl, rd_mk q32, rd_mk q52, rd_mk gS2, gS2, hbV, i64, hspl, e3, rd_mk q63]
        have hu1 := un_set hbN
        have hsub3 : Sub_ S1 (S1.set N true) := Sub_.set
        refine ⟨hle, by kernel_rfl, (ih N (S1.set N true) h3 (by omega) hNl (by rw [List.length_set]; exact hS1) fB3 g3').use ?_⟩
        rintro _ h4 w4 ⟨r, S4, rfl, gS4, f4', hS4, sub4, un4, rt, rff⟩
        have f04 : Fm (fun z => z = bs) h h4 := (f02.trans f3 fun _ _ x => x).trans f4' fun _ _ x => x
        have sub14 : Sub_ S1 S4 := fun m hm => sub4 m (hsub3 m hm)
        have hN4 : S4[N]? = some true := sub4 N (by rw [List.getElem?_set_self (by omega)])
        cases r with
        | true =>
          simp +contextual (disch := omega) only [↓AM, ↓AV, AP, CQ]
          exact ⟨true, S4, rfl, gS4, f04, hS4, fun m hm => sub14 m (sub1 m hm), by omega, fun _ => .step hNx (rt rfl), fun h => by cases h⟩
        | false =>
          obtain ⟨clN, cl4⟩ := rff rfl
          simp +contextual (disch := omega) only [↓AM, ↓AV, AP, CQ, i64]
          refine ⟨x.of.length - (j + 1), by omega, j + 1, S4, w4, f04, gS4, hS4, fun m hm => sub14 m (sub1 m hm), by omega, fun id' hid' N' hN' => ?_, fun m hm => ?_, by omega, rfl, ?_⟩
          · rw [List.take_add_one, hid, List.mem_append] at hid'
            rcases hid' with hid' | hid'
            · have := seen1 id' hid' N' hN'
              exact ⟨this.1, sub14 N' this.2⟩
            · simp at hid'
              subst hid'
              have : N' = N := by omega
              subst this
              exact ⟨hNi', hN4⟩
          · rcases cl4 m hm with q | q
            · by_cases e : N = m
              · subst e; exact .inr clN
              · rw [List.getElem?_set, if_neg e] at q
                rcases cl1 m q with q' | q'
                · exact .inl q'
                · exact .inr (q'.mono sub14)
            · exact .inr q
          · first | rfl | (rw [← e4])
    · have hje : j = x.of.length := by omega
      subst hje
      rw [List.take_length] at seen1
      simp +contextual (disch := omega) only [↓AM, ↓AV, AP, CQ, hjn]
      refine ⟨false, S1, rfl, gS1, f1, hS1, sub1, un1, (fun h => by cases h), fun _ => ⟨fun n hn => ?_, cl1⟩⟩
      obtain ⟨x', hx', id, hid, hN⟩ := hn
      rw [hx] at hx'
      cases hx'
      exact seen1 id hid n hN
end Go.Proofs.YtmkcngcnedjfkaaGreat.Is

/- The program's search for loops, and the document's. Plain theorems over the abstract machine.
   Conditions: none. -/
namespace Go.Proofs.YtmkcngcnedjfkaaGreat.Is
open Go Go.RowKit Go.Proofs.YtmkcngcnedjfkaaGreat.Am Go.Proofs.YtmkcngcnedjfkaaGreat.Af Go.Proofs.YtmkcngcnedjfkaaGreat.Md Go.Proofs.YtmkcngcnedjfkaaGreat.It
set_option linter.unusedVariables false
set_option linter.unusedSimpArgs false
set_option linter.defProp false
set_option maxRecDepth 20000
set_option maxHeartbeats 4000000

theorem rep_bV (n : Nat) : rep n [Value.bool false] = bV (List.replicate n false) := by
  induction n with
  | zero => rfl
  | succ n ih =>
    rw [List.replicate_succ]
    simp only [rep, List.replicate_succ, List.flatten_cons] at ih ⊢
    rw [ih]
    rfl
theorem rep_false {n m : Nat} : (List.replicate n false)[m]? ≠ some true := fun h => by
  have := (List.getElem?_replicate.symm.trans h)
  split at this <;> simp at this
theorem c_loops {h : Hp} {ls : List Item} {oa : Option Addr} {c i : Nat} (r : RL h oa ls) (ok : Okn ls) (hz : SL ls) (hn : ls.length ≤ 1000) (hi : i < ls.length) :
    ACalls Tryz.prog 58 [.slice oa ls.length c, .int .i64 (i : Int)] h fun v h' => (∃ b : Bool, v = .bool b ∧ (b = true ↔ Rch ls i i)) ∧ Fm No h h' := by
  refine item_loops_ok.snd Af.hm rfl fun w => ?_
  rw [WF_eq, item_loops]
  obtain ⟨h1, e1⟩ : ∃ g, h.new ⟨[.slice oa ls.length c], .own⟩ = g := ⟨_, rfl⟩
  have w1 : Wf h1 := e1 ▸ w.new
  have f1 : Fm No h h1 := e1 ▸ Fm.new Fm.refl
  have g1 : h1.get h.size = some ⟨[.slice oa ls.length c], .own⟩ := e1 ▸ gnew
  have s1 : h1.size = h.size + 1 := by rw [← e1]; rfl
  obtain ⟨h2, e2⟩ : ∃ g, h1.new ⟨[.int .i64 (i : Int)], .own⟩ = g := ⟨_, rfl⟩
  have w2 : Wf h2 := e2 ▸ w1.new
  have f2 : Fm No h1 h2 := e2 ▸ Fm.new Fm.refl
  have g2 : h2.get h1.size = some ⟨[.int .i64 (i : Int)], .own⟩ := e2 ▸ gnew
  have s2 : h2.size = h1.size + 1 := by rw [← e2]; rfl
  obtain ⟨h3, e3⟩ : ∃ g, h2.new ⟨bV (List.replicate ls.length false), .own⟩ = g := ⟨_, rfl⟩
  have w3 : Wf h3 := e3 ▸ w2.new
  have f3 : Fm No h2 h3 := e3 ▸ Fm.new Fm.refl
  have g3 : h3.get h2.size = some ⟨bV (List.replicate ls.length false), .own⟩ := e3 ▸ gnew
  have s3 : h3.size = h2.size + 1 := by rw [← e3]; rfl
  obtain ⟨h4, e4⟩ : ∃ g, h3.new ⟨[.slice (some ⟨h2.size, 0, none⟩) ls.length ls.length], .own⟩ = g := ⟨_, rfl⟩
  have w4 : Wf h4 := e4 ▸ w3.new
  have f4 : Fm No h3 h4 := e4 ▸ Fm.new Fm.refl
  have g4 : h4.get h3.size = some ⟨[.slice (some ⟨h2.size, 0, none⟩) ls.length ls.length], .own⟩ := e4 ▸ gnew
  have s4 : h4.size = h3.size + 1 := by rw [← e4]; rfl
  obtain ⟨h5, e5⟩ : ∃ g, h4.new ⟨[.nilFunc], .own⟩ = g := ⟨_, rfl⟩
  have w5 : Wf h5 := e5 ▸ w4.new
  have f5 : Fm No h4 h5 := e5 ▸ Fm.new Fm.refl
  have g5 : h5.get h4.size = some ⟨[.nilFunc], .own⟩ := e5 ▸ gnew
  have s5 : h5.size = h4.size + 1 := by rw [← e5]; rfl
  obtain ⟨h6, e6⟩ : ∃ g, h5.put h4.size ⟨[.func (.func 114) #[] #[.pointer (some ⟨h.size, 0, none⟩), .pointer (some ⟨h1.size, 0, none⟩), .pointer (some ⟨h3.size, 0, none⟩), .pointer (some ⟨h4.size, 0, none⟩)]], .own⟩ = g := ⟨_, rfl⟩
  have w6 : Wf h6 := e6 ▸ w5.put (w5.lt g5)
  have f6 : Fm (fun z => z = h4.size) h5 h6 := e6 ▸ Fm.put Fm.refl fun _ => rfl
  have g6 : h6.get h4.size = some ⟨[.func (.func 114) #[] #[.pointer (some ⟨h.size, 0, none⟩), .pointer (some ⟨h1.size, 0, none⟩), .pointer (some ⟨h3.size, 0, none⟩), .pointer (some ⟨h4.size, 0, none⟩)]], .own⟩ := e6 ▸ gput
  have k1 : h6.get h.size = some ⟨[.slice oa ls.length c], .own⟩ := f6.keep w5 (f5.keep w4 (f4.keep w3 (f3.keep w2 (f2.keep w1 g1 (fun f => f)) (fun f => f)) (fun f => f)) (fun f => f)) (fun e => by have : h.size = h4.size := e; omega)
  have k2 : h6.get h1.size = some ⟨[.int .i64 (i : Int)], .own⟩ := f6.keep w5 (f5.keep w4 (f4.keep w3 (f3.keep w2 g2 (fun f => f)) (fun f => f)) (fun f => f)) (fun e => by have : h1.size = h4.size := e; omega)
  have k3 : h6.get h2.size = some ⟨bV (List.replicate ls.length false), .own⟩ := f6.keep w5 (f5.keep w4 (f4.keep w3 g3 (fun f => f)) (fun f => f)) (fun e => by have : h2.size = h4.size := e; omega)
  have k4 : h6.get h3.size = some ⟨[.slice (some ⟨h2.size, 0, none⟩) ls.length ls.length], .own⟩ := f6.keep w5 (f5.keep w4 g4 (fun f => f)) (fun e => by have : h3.size = h4.size := e; omega)
  have f06 : Fm No h h6 := ((((f1.trans f2 fun _ _ x => x).trans f3 fun _ _ x => x).trans f4 fun _ _ x => x).trans f5 fun _ _ x => x).trans f6 fun z hz e => by have : z = h4.size := e; omega
  have fin : ∀ g, Fm (fun z => z = h2.size) h6 g → Fm No h g := fun g fg => f06.trans fg fun z hz e => by have : z = h2.size := e; omega
  have es : okStore (.func (.func 114) #[] #[.pointer (some ⟨h.size, 0, none⟩), .pointer (some ⟨h1.size, 0, none⟩), .pointer (some ⟨h3.size, 0, none⟩), .pointer (some ⟨h4.size, 0, none⟩)] : Value) = true := rfl
  have ec : cellsOf (.func (.func 114) #[] #[.pointer (some ⟨h.size, 0, none⟩), .pointer (some ⟨h1.size, 0, none⟩), .pointer (some ⟨h3.size, 0, none⟩), .pointer (some ⟨h4.size, 0, none⟩)] : Value) = [(.func (.func 114) #[] #[.pointer (some ⟨h.size, 0, none⟩), .pointer (some ⟨h1.size, 0, none⟩), .pointer (some ⟨h3.size, 0, none⟩), .pointer (some ⟨h4.size, 0, none⟩)] : Value)] := rfl
  have el : lenIs [(.func (.func 114) #[] #[.pointer (some ⟨h.size, 0, none⟩), .pointer (some ⟨h1.size, 0, none⟩), .pointer (some ⟨h3.size, 0, none⟩), .pointer (some ⟨h4.size, 0, none⟩)] : Value)] 1 = true := rfl
  have esp : spl [Value.nilFunc] 0 [(.func (.func 114) #[] #[.pointer (some ⟨h.size, 0, none⟩), .pointer (some ⟨h1.size, 0, none⟩), .pointer (some ⟨h3.size, 0, none⟩), .pointer (some ⟨h4.size, 0, none⟩)] : Value)] = [(.func (.func 114) #[] #[.pointer (some ⟨h.size, 0, none⟩), .pointer (some ⟨h1.size, 0, none⟩), .pointer (some ⟨h3.size, 0, none⟩), .pointer (some ⟨h4.size, 0, none⟩)] : Value)] := rfl
  simp +contextual (disch := omega) only [↓AM, ↓AV, AP, CQ, es, ec, el, esp, List.getElem?_cons_zero, rep_bV, Int.toNat_natCast, e1, e2, rd_mk (f2.keep w1 g1 (fun f => f)), e3, e4, e5, g5, spl_S, spl_0, spl_00, e6, rd_mk g6, rd_mk k2]
  have cw := c_walk (hB := h6) (ls := ls) (oa := oa) (c := c) (b2 := h.size) (b3 := h1.size) (b5 := h3.size) (b6 := h4.size) (bs := h2.size) (i := i) k1 k2 k4 g6 (by omega) (by omega) (by omega) (by omega) w6 (fun g fg => r.keep w (fin g fg)) ok hz hn
    (un (List.replicate ls.length false) + 1) i (List.replicate ls.length false) h6 (by omega) hi (by simp) Fm.refl k3
  refine ⟨by omega, by kernel_rfl, cw.use ?_⟩
  rintro _ h7 w7 ⟨b, S', rfl, gS', f7, hS', sub, hu, rt, rff⟩
  simp +contextual (disch := omega) only [↓AM, ↓AV, AP, CQ]
  refine ⟨⟨b, rfl, ?_⟩, fin h7 f7⟩
  cases b with
  | true => exact ⟨fun _ => rt rfl, fun _ => rfl⟩
  | false =>
    obtain ⟨c0, c1⟩ := rff rfl
    refine ⟨fun e => (by cases e), fun hr => absurd hr (no_rch c0 fun m hm => ?_)⟩
    rcases c1 m hm with q | q
    · exact absurd q rep_false
    · exact q
/-! ### the document's queue -/
theorem un_le_len : ∀ (S : List Bool), un S ≤ S.length
  | [] => Nat.le_refl _
  | b :: bs => by
    have := un_le_len bs
    show (if b = true then 0 else 1) + un bs ≤ bs.length + 1
    split <;> omega
/-- What the queue keeps: seen is reached; what waits is i or reached; of what is seen or i and does not wait, all that it is made of is seen. -/
structure Bf (ls : List Item) (i : Nat) (S : List Bool) (Q : List Nat) : Prop where
  snd : ∀ m : Nat, S[m]? = some true → Rch ls i m
  que : ∀ q ∈ Q, q = i ∨ Rch ls i q
  lt : ∀ q ∈ Q, q < ls.length
  cl : ∀ m : Nat, S[m]? = some true ∨ m = i → m ∈ Q ∨ ∀ n, nx ls m n → S[n]? = some true
theorem Bf.done {ls : List Item} {i : Nat} {S : List Bool} (b : Bf ls i S []) : S[i]? = some true ↔ Rch ls i i := by
  refine ⟨b.snd i, fun h => ?_⟩
  have key : ∀ a c, Rch ls a c → (S[a]? = some true ∨ a = i) → S[c]? = some true := by
    intro a c h
    induction h with
    | one e => intro ha; exact (b.cl _ ha).elim (fun q => by cases q) fun q => q _ e
    | step e _ ih => intro ha; exact ih (.inl ((b.cl _ ha).elim (fun q => by cases q) fun q => q _ e))
  exact key i i h (.inr rfl)
/-- In the midst of the things that k is made of: the first j of them are seen. -/
structure Bm (ls : List Item) (i k : Nat) (x : Item) (j : Nat) (S : List Bool) (Q : List Nat) : Prop where
  snd : ∀ m : Nat, S[m]? = some true → Rch ls i m
  que : ∀ q ∈ Q, q = i ∨ Rch ls i q
  lt : ∀ q ∈ Q, q < ls.length
  kk : k = i ∨ Rch ls i k
  cl : ∀ m : Nat, S[m]? = some true ∨ m = i → m = k ∨ m ∈ Q ∨ ∀ n, nx ls m n → S[n]? = some true
  seen : ∀ id ∈ x.of.take j, ∀ N : Nat, fI ls id = (N : Int) → S[N]? = some true
theorem Bm.of {ls : List Item} {i k : Nat} {x : Item} {S : List Bool} {Q : List Nat} (b : Bf ls i S (k :: Q)) : Bm ls i k x 0 S Q :=
  ⟨b.snd, fun q hq => b.que q (List.mem_cons_of_mem _ hq), fun q hq => b.lt q (List.mem_cons_of_mem _ hq), b.que k (List.mem_cons_self ..), fun m hm => (b.cl m hm).elim (fun q => (List.mem_cons.1 q).elim .inl fun q => .inr (.inl q)) fun q => .inr (.inr q), fun id h => by simp at h⟩
theorem Bm.fin {ls : List Item} {i k : Nat} {x : Item} {S : List Bool} {Q : List Nat} (b : Bm ls i k x x.of.length S Q) (hx : ls[k]? = some x) : Bf ls i S Q :=
  ⟨b.snd, b.que, b.lt, fun m hm => (b.cl m hm).elim (fun e => .inr fun n hn => by
    subst e
    obtain ⟨x', hx', id, hid, hN⟩ := hn
    rw [hx] at hx'
    cases hx'
    exact b.seen id (by rw [List.take_length]; exact hid) n hN) fun q => q⟩
theorem Bm.old {ls : List Item} {i k N : Nat} {x : Item} {j : Nat} {id : Int} {S : List Bool} {Q : List Nat} (b : Bm ls i k x j S Q) (hid : x.of[j]? = some id) (hN : fI ls id = (N : Int)) (hs : S[N]? = some true) : Bm ls i k x (j + 1) S Q :=
  ⟨b.snd, b.que, b.lt, b.kk, b.cl, fun id' h' N' hN' => by
    rw [List.take_add_one, hid, List.mem_append] at h'
    rcases h' with h' | h'
    · exact b.seen id' h' N' hN'
    · simp at h'
      subst h'
      have : N' = N := by omega
      subst this
      exact hs⟩
theorem Bm.new {ls : List Item} {i k N : Nat} {x : Item} {j : Nat} {id : Int} {S : List Bool} {Q : List Nat} (b : Bm ls i k x j S Q) (hx : ls[k]? = some x) (hid : x.of[j]? = some id) (hN : fI ls id = (N : Int)) (hs : S[N]? = some false) (hl : N < ls.length) : Bm ls i k x (j + 1) (S.set N true) (Q ++ [N]) := by
  have sub : Sub_ S (S.set N true) := Sub_.set
  have hNS : (S.set N true)[N]? = some true := by rw [List.getElem?_set_self (List.getElem?_eq_some_iff.1 hs).1]
  have e : nx ls k N := ⟨x, hx, id, List.mem_of_getElem? hid, hN⟩
  have rN : Rch ls i N := by
    rcases b.kk with q | q
    · subst q; exact .one e
    · exact q.snoc e
  refine ⟨fun m hm => ?_, fun q hq => ?_, fun q hq => ?_, b.kk, fun m hm => ?_, fun id' h' N' hN' => ?_⟩
  · by_cases q : N = m
    · subst q; exact rN
    · rw [List.getElem?_set, if_neg q] at hm
      exact b.snd m hm
  · rcases List.mem_append.1 hq with hq | hq
    · exact b.que q hq
    · simp at hq; subst hq; exact .inr rN
  · rcases List.mem_append.1 hq with hq | hq
    · exact b.lt q hq
    · simp at hq; subst hq; exact hl
  · by_cases q : N = m
    · subst q; exact .inr (.inl (by simp))
    · have hm' : S[m]? = some true ∨ m = i := hm.imp (fun h => by rwa [List.getElem?_set, if_neg q] at h) fun h => h
      rcases b.cl m hm' with h1 | h1 | h1
      · exact .inl h1
      · exact .inr (.inl (List.mem_append_left _ h1))
      · exact .inr (.inr fun n hn => sub n (h1 n hn))
  · rw [List.take_add_one, hid, List.mem_append] at h'
    rcases h' with h' | h'
    · exact sub N' (b.seen id' h' N' hN')
    · simp at h'
      subst h'
      have : N' = N := by omega
      subst this
      exact hNS
end Go.Proofs.YtmkcngcnedjfkaaGreat.Is

/- The document's queue: what an item is made of. Plain theorems over the abstract machine.
   Conditions: none. -/
namespace Go.Proofs.YtmkcngcnedjfkaaGreat.Is
open Go Go.RowKit Go.Proofs.YtmkcngcnedjfkaaGreat.Am Go.Proofs.YtmkcngcnedjfkaaGreat.Af Go.Proofs.YtmkcngcnedjfkaaGreat.Md Go.Proofs.YtmkcngcnedjfkaaGreat.It
set_option linter.unusedVariables false
set_option linter.unusedSimpArgs false
set_option linter.defProp false
set_option maxRecDepth 20000
set_option maxHeartbeats 4000000

/-- A queue of one's own: a slice whose capacity is its length, taken from the front and appended to. -/
def Qu (h : Hp) (oa : Option Addr) (cs : List Value) : Prop :=
  ∃ b off sp o, oa = some ⟨b, off, sp⟩ ∧ h.get b = some o ∧ off + cs.length ≤ o.cs.length ∧ (o.cs.drop off).take cs.length = cs ∧ ((sp = none ∧ o.md = .own) ∨ (sp = some 0 ∧ o.md = .hid 1) ∨ (sp = some 1 ∧ cs = [] ∧ o.md = .hid 1 ∧ off + 1 ≤ o.cs.length))
theorem Qu.keep {h h' : Hp} {oa : Option Addr} {cs : List Value} {F : Nat → Prop} (q : Qu h oa cs) (w : Wf h) (f : Fm F h h') (hF : ∀ x, At oa x → ¬ F x) : Qu h' oa cs := by
  obtain ⟨b, off, sp, o, e, g, r⟩ := q
  exact ⟨b, off, sp, o, e, f.keep w g (hF b ⟨_, e, rfl⟩), r⟩
theorem Qu.lt {h : Hp} {oa : Option Addr} {cs : List Value} (q : Qu h oa cs) (w : Wf h) : ∀ x, At oa x → x < h.size := fun x ⟨a, e, hx⟩ => by
  obtain ⟨b, off, sp, o, e', g, _⟩ := q
  rw [e'] at e
  cases e
  exact hx ▸ w.lt g
theorem Qu.head {h : Hp} {oa : Option Addr} {v : Value} {cs : List Value} (q : Qu h oa (v :: cs)) : ∃ b off sp, oa = some ⟨b, off, sp⟩ ∧ flagOk sp = true ∧ h.rd b off = some v ∧ capOk sp (v :: cs).length (v :: cs).length ∧ Qu h (some (slAddr b off sp 1 1 (v :: cs).length true)) cs := by
  obtain ⟨b, off, sp, o, e, g, hl, ht, hs⟩ := q
  have h0 : o.cs[off]? = some v := by
    have := congrArg (fun l => l[0]?) ht
    simp only [List.length_cons, List.getElem?_take, List.getElem?_drop, Nat.add_zero, List.getElem?_cons_zero] at this
    rwa [if_pos (by omega)] at this
  have htl : (o.cs.drop (off + 1)).take cs.length = cs := by
    have hh := congrArg (List.drop 1) ht
    rw [List.length_cons, List.drop_take, List.drop_drop, Nat.add_sub_cancel] at hh
    simpa using hh
  rw [List.length_cons] at hl
  refine ⟨b, off, sp, e, ?_, by rw [rd_mk g]; exact h0, ?_, ?_⟩
  · rcases hs with ⟨rfl, _⟩ | ⟨rfl, _⟩ | ⟨_, q, _⟩
    · rfl
    · rfl
    · cases q
  · rcases hs with ⟨rfl, _⟩ | ⟨rfl, _⟩ | ⟨_, q, _⟩
    · trivial
    · exact Nat.le_refl _
    · cases q
  · rcases hs with ⟨rfl, hm⟩ | ⟨rfl, hm⟩ | ⟨_, q, _⟩
    · cases cs with
      | nil => exact ⟨b, off, none, o, rfl, g, by simp; omega, by simp, .inl ⟨rfl, hm⟩⟩
      | cons a tl => exact ⟨b, off + 1, none, o, by simp [slAddr], g, by rw [List.length_cons] at *; omega, htl, .inl ⟨rfl, hm⟩⟩
    · cases cs with
      | nil => exact ⟨b, off, some 1, o, rfl, g, by simp; omega, by simp, .inr (.inr ⟨rfl, rfl, hm, by omega⟩)⟩
      | cons a tl => exact ⟨b, off + 1, some 0, o, by simp [slAddr], g, by rw [List.length_cons] at *; omega, htl, .inr (.inl ⟨rfl, hm⟩)⟩
    · cases q
theorem Qu.push {h : Hp} {oa : Option Addr} {cs : List Value} {x : Value} {g : Ob} {K : Value → Hp → Prop} {tg : Tag K} (w : Wf h) (q : Qu h oa cs) (hb : cs.length ≤ 1000)
    (k : ∀ oa' h', Qu h' oa' (cs ++ [x]) → Wf h' → Fm (At oa) h h' → (∀ y, At oa' y → h.size ≤ y) → K (.slice oa' (cs.length + 1) (cs.length + 1)) h') : appV 1 8 (.slice oa cs.length cs.length) 1 [x] (h.new g) K tg := by
  obtain ⟨b, off, sp, o, rfl, hg, hl, ht, hs⟩ := q
  have hbl := w.lt hg
  have hg' : (h.new g).get b = some o := by
    have := (Fm.new (F := No) (o := g) Fm.refl : Fm No h (h.new g)).keep w hg (fun f => f)
    exact this
  have hrd : (h.new g).rdN b off (cs.length * 1) = some cs := by
    rw [Nat.mul_one, rdN_mk hg' hl, ht]
  have fin : ∀ h2 : Hp, Wf h2 → h2.size = (h.new g).size → Fm (At (some ⟨b, off, sp⟩)) h h2 → K (.slice (some ⟨(h.new g).size, 0, some 0⟩) (cs.length + 1) (cs.length + 1)) (h2.new ⟨cs ++ [x], .hid 1⟩) := fun h2 w2 hs2 f2 => by
    rw [← hs2]
    refine k _ _ ⟨h2.size, 0, some 0, _, rfl, get_new_self, by simp, by rw [List.drop_zero, List.take_of_length_le (Nat.le_refl _)], .inr (.inl ⟨rfl, rfl⟩)⟩ w2.new (Fm.new f2) fun y ⟨a, e, hy⟩ => ?_
    cases e
    have : h2.size = y := hy
    rw [← this, hs2]
    exact Nat.le_succ _
  show appA 1 8 _ 1 [x] _ _
  show (if cs.length + 1 ≤ cs.length then _ else _)
  rw [if_neg (by omega)]
  refine ⟨by omega, cs, hrd, ?_⟩
  have fn : Fm (At (some ⟨b, off, sp⟩)) h (h.new g) := Fm.new Fm.refl
  rcases hs with ⟨rfl, hm⟩ | ⟨rfl, hm⟩ | ⟨rfl, hc, hm, hl1⟩
  · exact fin (h.new g) w.new rfl fn
  · exact ⟨o, hg', hm, by rw [Nat.mul_one]; exact hl, fin ((h.new g).del b) w.new.del rfl (Fm.del fn fun _ => ⟨_, rfl, rfl⟩)⟩
  · subst hc
    exact ⟨rfl, o, hg', hm, by simpa using hl1, fin ((h.new g).del b) w.new.del rfl (Fm.del fn fun _ => ⟨_, rfl, rfl⟩)⟩
theorem Qu.pushN {h : Hp} {oa : Option Addr} {cs : List Value} {x : Value} {g : Ob} {n : Nat} {K : Value → Hp → Prop} {tg : Tag K} (w : Wf h) (q : Qu h oa cs) (hn : cs.length = n) (hb : n ≤ 1000)
    (k : ∀ oa' h', Qu h' oa' (cs ++ [x]) → Wf h' → Fm (At oa) h h' → (∀ y, At oa' y → h.size ≤ y) → K (.slice oa' (n + 1) (n + 1)) h') : appV 1 8 (.slice oa n n) 1 [x] (h.new g) K tg := by
  subst hn
  exact q.push w hb k
end Go.Proofs.YtmkcngcnedjfkaaGreat.Is

/- What an item is made of, the document's. Plain theorems over the abstract machine.
   Conditions: none. -/
namespace Go.Proofs.YtmkcngcnedjfkaaGreat.Is
open Go Go.RowKit Go.Proofs.YtmkcngcnedjfkaaGreat.Am Go.Proofs.YtmkcngcnedjfkaaGreat.Af Go.Proofs.YtmkcngcnedjfkaaGreat.Md Go.Proofs.YtmkcngcnedjfkaaGreat.It
set_option linter.unusedVariables false
set_option linter.unusedSimpArgs false
set_option linter.defProp false
set_option maxRecDepth 20000
set_option maxHeartbeats 4000000

def qV (Q : List Nat) : List Value := Q.map fun n : Nat => Value.int .i64 (n : Int)
theorem qV_len (Q : List Nat) : (qV Q).length = Q.length := by simp [qV]
theorem c_reached {h : Hp} {ls : List Item} {oa : Option Addr} {c i : Nat} (r : RL h oa ls) (ok : Okn ls) (hz : SL ls) (hn : ls.length ≤ 100) (hi : i < ls.length) :
    ACalls Tryz.prog 62 [.slice oa ls.length c, .int .i64 (i : Int)] h fun v h' => (∃ bs S, v = .slice (some ⟨bs, 0, none⟩) ls.length ls.length ∧ h'.get bs = some ⟨bV S, .own⟩ ∧ S.length = ls.length ∧ (S[i]? = some true ↔ Rch ls i i)) ∧ Fm No h h' := by
  refine dioramaref15_reached_ok.snd Af.hm rfl fun w => ?_
  rw [WF_eq, dioramaref15_reached]
  obtain ⟨h1, e1⟩ : ∃ g, h.new ⟨bV (List.replicate ls.length false), .own⟩ = g := ⟨_, rfl⟩
  have w1 : Wf h1 := e1 ▸ w.new
  have f1 : Fm No h h1 := e1 ▸ Fm.new Fm.refl
  have g1 : h1.get h.size = some ⟨bV (List.replicate ls.length false), .own⟩ := e1 ▸ gnew
  have s1 : h1.size = h.size + 1 := by rw [← e1]; rfl
  obtain ⟨h2, e2⟩ : ∃ g, h1.new ⟨[.int .i64 (i : Int)], .own⟩ = g := ⟨_, rfl⟩
  have w2 : Wf h2 := e2 ▸ w1.new
  have f2 : Fm No h1 h2 := e2 ▸ Fm.new Fm.refl
  have g2 : h2.get h1.size = some ⟨[.int .i64 (i : Int)], .own⟩ := e2 ▸ gnew
  have g12 := f2.keep w1 g1 (fun f => f)
  simp +contextual (disch := omega) only [↓AM, ↓AV, AP, CQ, rep_bV, Int.toNat_natCast, e1, e2]
  refine ⟨by omega, ?_⟩
  refine WL.mk (fun k t h' => ∃ (S : List Bool) (Q : List Nat) (oq : Option Addr), Wf h' ∧ Bf ls i S Q ∧ h'.get h.size = some ⟨bV S, .own⟩ ∧ S.length = ls.length ∧ Qu h' oq (qV Q) ∧ (∀ y, At oq y → h1.size ≤ y) ∧ Fm No h h' ∧ Q.length ≤ 300 ∧ 2 * un S + Q.length ≤ 300 ∧ k = 2 * un S + Q.length ∧
      t = [(0, some (.slice oa ls.length c)), (5, some (.slice (some ⟨h.size, 0, none⟩) ls.length ls.length)), (6, some (.slice oq Q.length Q.length))])
    ⟨2 * un (List.replicate ls.length false) + 1, List.replicate ls.length false, [i], some ⟨h1.size, 0, none⟩, w2,
      ⟨fun m hm => absurd hm rep_false, fun q hq => .inl (by simpa using hq), fun q hq => by simp at hq; omega, fun m hm => hm.elim (fun q => absurd q rep_false) fun q => .inl (by simp [q])⟩, g12, by simp,
      ⟨h1.size, 0, none, _, rfl, g2, by simp [qV], by simp [qV], .inl ⟨rfl, rfl⟩⟩, fun y ⟨a, e, hy⟩ => by cases e; exact Nat.le_of_eq hy, f1.trans f2 fun _ _ x => x, by simp, by have := un_le_len (List.replicate ls.length false); simp at this; simp; omega, by simp, rfl⟩ ?_
  rintro k t h3 ⟨S, Q, oq, w3, bf, gS, hS, qu, no, f3, hQ3, hM, rfl, rfl⟩
  cases Q with
  | nil =>
    have z0 : ¬ (0 : Int) < ((0 : Nat) : Int) := by omega
    simp +contextual (disch := omega) only [↓AM, ↓AV, AP, CQ, List.length_nil, z0]
    exact ⟨⟨h.size, S, rfl, gS, hS, bf.done⟩, f3⟩
  | cons k Q =>
    have hk := bf.lt k (List.mem_cons_self ..)
    obtain ⟨bq, offq, spq, rfl, fq, rq, cq, qt⟩ := Qu.head (v := .int .i64 (k : Int)) (cs := qV Q) qu
    have hql : (Value.int .i64 (k : Int) :: qV Q).length = Q.length + 1 := by simp [qV]
    rw [hql] at cq qt
    have hpos : (0 : Int) < ((Q.length + 1 : Nat) : Int) := by omega
    have hle1 : (1 : Int) ≤ ((Q.length + 1 : Nat) : Int) := by omega
    have t1 : Int.toNat 1 = 1 := rfl
    obtain ⟨oq', hoq⟩ : ∃ z, some (slAddr bq offq spq 1 1 (Q.length + 1) true) = z := ⟨_, rfl⟩
    have nq' : ∀ y, At oq' y → h1.size ≤ y := fun y ⟨a, e, hy⟩ => no y (by
      rw [← hoq] at e
      cases e
      refine ⟨_, rfl, ?_⟩
      rw [← hy]
      unfold slAddr
      split
      · split <;> rfl
      · rfl
      · rfl)
    rw [hoq] at qt
    rw [List.length_cons] at hM hQ3
    obtain ⟨b, off, sp, p, x, rfl, fo, hx, hr, ri⟩ := r.at hk
    have hxm := List.mem_of_getElem? hx
    have hsx := (hz.2 x hxm).of
    have bw := rdN_wf w hr
    have r3 : ∀ g, Fm No h g → g.rd b (off + k * 12 + 3) = some (.slice p.oa x.of.length p.oc) := fun g fg => by
      refine rdN_get (i := 3) ?_ (v := .slice p.oa x.of.length p.oc) rfl (h := g) (cs := itC x p) (m := 12)
      rw [rdN_keep (fg.get _ bw (fun f => f))]
      exact hr
    simp +contextual (disch := omega) only [↓AM, ↓AV, AP, CQ, List.length_cons, fq, rq, cq, bnds, t1, hpos, hle1, hoq, Nat.add_sub_cancel]
    refine WL.mk (fun m t h' => ∃ (j : Nat) (S1 : List Bool) (Q1 : List Nat) (oq1 : Option Addr), Wf h' ∧ Bm ls i k x j S1 Q1 ∧ h'.get h.size = some ⟨bV S1, .own⟩ ∧ S1.length = ls.length ∧ Qu h' oq1 (qV Q1) ∧ (∀ y, At oq1 y → h1.size ≤ y) ∧ Fm No h h' ∧ 2 * un S1 + Q1.length ≤ 2 * un S + Q.length ∧ j ≤ x.of.length ∧ m = x.of.length - j ∧
        t = [(0, some (.slice (some ⟨b, off, sp⟩) ls.length c)), (5, some (.slice (some ⟨h.size, 0, none⟩) ls.length ls.length)), (6, some (.slice oq1 Q1.length Q1.length)), (7, some (.int .i64 (k : Int))), (8, some (.int .i64 (j : Int)))])
      ⟨x.of.length, 0, S, Q, oq', w3, Bm.of bf, gS, hS, qt, nq', f3, Nat.le_refl _, by omega, rfl, rfl⟩ ?_
    rintro m t h4 ⟨j, S1, Q1, oq1, w4, bm, gS1, hS1, qu1, no1, f4, hM1, hj, rfl, rfl⟩
    have r34 := r3 h4 f4
    by_cases hjn : j < x.of.length
    · obtain ⟨b4, o4, s4, e4, ff4, id, hid, r4⟩ := Rd.int (ri.of.keep w f4 (fun _ _ => fun f => f)) hjn
      have hidm := List.mem_of_getElem? hid
      obtain ⟨N, hN, hNl⟩ := ok.nat hxm hidm
      rw [e4] at r34
      simp +contextual (disch := omega) only [↓AM, ↓AV, AP, CQ, hjn, hk, fo, r34, ff4, r4]
      refine (c_rfind (c := c) (r.keep w f4) hz.1).use ?_
      rintro _ h9 _ ⟨rfl, e9⟩
      subst h9
      obtain ⟨bN, hbN⟩ : ∃ bN, S1[N]? = some bN := ⟨_, List.getElem?_eq_getElem (by omega)⟩
      have hbV : (bV S1)[N]? = some (.bool bN) := by unfold bV; rw [List.getElem?_map, hbN]; rfl
      cases bN with
      | true =>
        simp +contextual (disch := omega) only [↓AM, ↓AV, AP, CQ, hN, hNl, rd_mk gS1, hbV, i64]
        exact ⟨x.of.length - (j + 1), by omega, j + 1, S1, Q1, oq1, w4, bm.old hid hN hbN, gS1, hS1, qu1, no1, f4, hM1, by omega, rfl, rfl⟩
      | false =>
        obtain ⟨h5, e5⟩ : ∃ g, h4.put h.size ⟨bV (S1.set N true), .own⟩ = g := ⟨_, rfl⟩
        have hspl : spl (bV S1) N [Value.bool true] = bV (S1.set N true) := by rw [← bV_set]; exact spl_one _ _ _ (by unfold bV; rw [List.length_map]; omega)
        have hle : leIs (N + 1) (bV S1) = true := by rw [← leIs_p]; unfold bV; rw [List.length_map]; omega
        have w5 : Wf h5 := e5 ▸ w4.put (w4.lt gS1)
        have f5 : Fm (fun z => z = h.size) h4 h5 := e5 ▸ Fm.put Fm.refl fun _ => rfl
        have g5 : h5.get h.size = some ⟨bV (S1.set N true), .own⟩ := e5 ▸ gput
        have qu5 := qu1.keep w4 f5 fun y hy e => by have : y = h.size := e; have := no1 y hy; omega
        have f45 : Fm No h h5 := f4.trans f5 fun z hz e => by have : z = h.size := e; omega
        have hu1 := un_set hbN
        simp +contextual (disch := omega) only [↓AM, ↓AV, AP, CQ, hN, hNl, rd_mk gS1, gS1, hbV, i64, hspl, hle, e5]
        refine Qu.pushN w5 qu5 (qV_len Q1) (by omega) fun oq2 h6 qu6 w6 f6 n6 => ?_
        have g6 := f6.keep w5 g5 (fun hy => by have := no1 _ hy; omega)
        have f46 : Fm No h h6 := f45.trans f6 fun z hz hy => by have := no1 z hy; omega
        have s5 := f5.size
        have s4 := f4.size
        have sz1 : h1.size ≤ h5.size := by
          have := w5.lt g5
          omega
        simp +contextual (disch := omega) only [↓AM, ↓AV, AP, CQ, i64]
        refine ⟨x.of.length - (j + 1), by omega, j + 1, S1.set N true, Q1 ++ [N], oq2, w6, bm.new hx hid hN hbN hNl, g6, by rw [List.length_set]; exact hS1, by simpa [qV] using qu6, fun y hy => Nat.le_trans sz1 (n6 y hy), f46, by rw [List.length_append, List.length_singleton]; omega, by omega, rfl, ?_⟩
        rw [List.length_append, List.length_singleton]
    · have hje : j = x.of.length := by omega
      subst hje
      simp +contextual (disch := omega) only [↓AM, ↓AV, AP, CQ, hjn, hk, fo, r34]
      exact ⟨2 * un S1 + Q1.length, by omega, S1, Q1, oq1, w4, bm.fin hx, gS1, hS1, qu1, no1, f4, by omega, by omega, rfl, rfl⟩
end Go.Proofs.YtmkcngcnedjfkaaGreat.Is

/- The check of items, the program's. Plain theorems over the abstract machine.
   Conditions: none. -/
namespace Go.Proofs.YtmkcngcnedjfkaaGreat.Is
open Go Go.RowKit Go.Proofs.YtmkcngcnedjfkaaGreat.Am Go.Proofs.YtmkcngcnedjfkaaGreat.Af Go.Proofs.YtmkcngcnedjfkaaGreat.Md Go.Proofs.YtmkcngcnedjfkaaGreat.It
set_option linter.unusedVariables false
set_option linter.unusedSimpArgs false
set_option linter.defProp false
set_option maxRecDepth 20000
set_option maxHeartbeats 4000000

/-- The first item with an error. -/
def firstI (f : Nat → Item → Option Int) : Nat → List Item → Option (Int × Int)
  | _, [] => none
  | n, x :: xs => match f n x with
    | some e => some (e, (n : Int))
    | none => firstI f (n + 1) xs
theorem firstI_hit {f : Nat → Item → Option Int} : ∀ {ls : List Item} {n i : Nat} {x : Item} {e : Int}, (∀ j, j < i → ∀ y, ls[j]? = some y → f (n + j) y = none) → ls[i]? = some x → f (n + i) x = some e → firstI f n ls = some (e, ((n + i : Nat) : Int))
  | [], n, i, x, e, _, h, _ => by simp at h
  | y :: ys, n, 0, x, e, _, h, hf => by
    simp at h
    subst h
    rw [Nat.add_zero] at hf ⊢
    show (match f n y with | some e => some (e, (n : Int)) | none => firstI f (n + 1) ys) = _
    rw [hf]
  | y :: ys, n, i + 1, x, e, ha, h, hf => by
    have h0 := ha 0 (by omega) y rfl
    rw [Nat.add_zero] at h0
    show (match f n y with | some e => some (e, (n : Int)) | none => firstI f (n + 1) ys) = _
    rw [h0]
    have := firstI_hit (f := f) (ls := ys) (n := n + 1) (i := i) (x := x) (e := e) (fun j hj y hy => by
      have := ha (j + 1) (by omega) y (by simpa using hy)
      rwa [show n + 1 + j = n + (j + 1) by omega]) (by simpa using h) (by rwa [show n + 1 + i = n + (i + 1) by omega])
    rw [show n + 1 + i = n + (i + 1) by omega] at this
    exact this
theorem firstI_none {f : Nat → Item → Option Int} : ∀ {ls : List Item} {n : Nat}, (∀ j, ∀ y, ls[j]? = some y → f (n + j) y = none) → firstI f n ls = none
  | [], n, _ => rfl
  | y :: ys, n, ha => by
    have h0 := ha 0 y rfl
    rw [Nat.add_zero] at h0
    show (match f n y with | some e => some (e, (n : Int)) | none => firstI f (n + 1) ys) = _
    rw [h0]
    exact firstI_none fun j z hz => by
      have := ha (j + 1) z (by simpa using hz)
      rwa [show n + 1 + j = n + (j + 1) by omega]
theorem fI_le {ls : List Item} {i : Nat} {x : Item} (hx : ls[i]? = some x) : 0 ≤ fI ls x.id ∧ fI ls x.id ≤ (i : Int) := by
  have key : ∀ (ls : List Item) (n i : Nat), ls[i]? = some x → (n : Int) ≤ pI (fun y => decide (y.id = x.id)) n ls ∧ pI (fun y => decide (y.id = x.id)) n ls ≤ ((n + i : Nat) : Int) := by
    intro ls
    induction ls with
    | nil => intro n i h; simp at h
    | cons y ys ih =>
      intro n i h
      show (n : Int) ≤ (if decide (y.id = x.id) = true then (n : Int) else pI _ (n + 1) ys) ∧ (if decide (y.id = x.id) = true then (n : Int) else pI _ (n + 1) ys) ≤ _
      by_cases e : decide (y.id = x.id) = true
      · rw [if_pos e]; omega
      · rw [if_neg e]
        cases i with
        | zero =>
          simp at h
          subst h
          simp at e
        | succ i =>
          have := ih (n + 1) i (by simpa using h)
          omega
  have := key ls 0 i hx
  rw [Nat.zero_add] at this
  exact this
open Classical in
/-- The three rounds of the check. -/
noncomputable def f1 (n : Nat) (x : Item) : Option Int := if rangesP x then (if cleanP x then none else some 4) else some 1
def bad5 (ls : List Item) (id : Int) : Bool := decide (fI ls id < 0)
def f2 (ls : List Item) (n : Nat) (x : Item) : Option Int := if fI ls x.id = (n : Int) then (if x.of.any (bad5 ls) = true then some 5 else none) else some 30
open Classical in
noncomputable def f3 (ls : List Item) (n : Nat) (x : Item) : Option Int := if Rch ls n n then some 150 else none
noncomputable def chkI (ls : List Item) : Int × Int :=
  if 12 < (ls.length : Int) then (2, -1) else match firstI f1 0 ls with
  | some e => e
  | none => match firstI (f2 ls) 0 ls with
    | some e => e
    | none => match firstI (f3 ls) 0 ls with
      | some e => e
      | none => (0, -1)
theorem chk_0 {ls : List Item} (h : 12 < (ls.length : Int)) : chkI ls = (2, -1) := if_pos h
theorem chk_1 {ls : List Item} {e : Int × Int} (h : ¬ 12 < (ls.length : Int)) (h1 : firstI f1 0 ls = some e) : chkI ls = e := by unfold chkI; rw [if_neg h, h1]
theorem chk_2 {ls : List Item} {e : Int × Int} (h : ¬ 12 < (ls.length : Int)) (h1 : firstI f1 0 ls = none) (h2 : firstI (f2 ls) 0 ls = some e) : chkI ls = e := by unfold chkI; rw [if_neg h, h1, h2]
theorem chk_3 {ls : List Item} {e : Int × Int} (h : ¬ 12 < (ls.length : Int)) (h1 : firstI f1 0 ls = none) (h2 : firstI (f2 ls) 0 ls = none) (h3 : firstI (f3 ls) 0 ls = some e) : chkI ls = e := by unfold chkI; rw [if_neg h, h1, h2, h3]
theorem chk_4 {ls : List Item} (h : ¬ 12 < (ls.length : Int)) (h1 : firstI f1 0 ls = none) (h2 : firstI (f2 ls) 0 ls = none) (h3 : firstI (f3 ls) 0 ls = none) : chkI ls = (0, -1) := by unfold chkI; rw [if_neg h, h1, h2, h3]
/-- Nothing wrong with the first i. -/
def Non (f : Nat → Item → Option Int) (ls : List Item) (i : Nat) : Prop := ∀ j, j < i → ∀ y, ls[j]? = some y → f j y = none
theorem Non.zero {f : Nat → Item → Option Int} {ls : List Item} : Non f ls 0 := fun j hj => by omega
theorem Non.step {f : Nat → Item → Option Int} {ls : List Item} {i : Nat} {x : Item} (h : Non f ls i) (hx : ls[i]? = some x) (hf : f i x = none) : Non f ls (i + 1) := fun j hj y hy => by
  by_cases e : j = i
  · subst e
    rw [hx] at hy
    cases hy
    exact hf
  · exact h j (by omega) y hy
theorem Non.hit {f : Nat → Item → Option Int} {ls : List Item} {i : Nat} {x : Item} {e : Int} (h : Non f ls i) (hx : ls[i]? = some x) (hf : f i x = some e) : firstI f 0 ls = some (e, (i : Int)) := by
  have := firstI_hit (f := f) (n := 0) (i := i) (fun j hj y hy => by rw [Nat.zero_add]; exact h j hj y hy) hx (by rw [Nat.zero_add]; exact hf)
  rwa [Nat.zero_add] at this
theorem Non.all {f : Nat → Item → Option Int} {ls : List Item} (h : Non f ls ls.length) : firstI f 0 ls = none :=
  firstI_none fun j y hy => by rw [Nat.zero_add]; exact h j (List.getElem?_eq_some_iff.1 hy).1 y hy
theorem non_ok {ls : List Item} (h : Non (f2 ls) ls ls.length) : Okn ls := fun x hx id hid => by
  obtain ⟨j, hj⟩ := List.getElem?_of_mem hx
  have hf := h j (List.getElem?_eq_some_iff.1 hj).1 x hj
  unfold f2 at hf
  split at hf
  · split at hf
    · cases hf
    · rename_i hb
      have : ¬ fI ls id < 0 := fun q => hb (List.any_eq_true.2 ⟨id, hid, decide_eq_true q⟩)
      omega
  · cases hf
theorem c_ck1 {h : Hp} {ls : List Item} {oa : Option Addr} {c b : Nat} {id : Int} (r : RL h oa ls) (hn : ls.length ≤ 140737488351232) (hg : h.get b = some ⟨[.slice oa ls.length c], .own⟩) :
    ACalls Tryz.prog 57 [.int .i64 id, .pointer (some ⟨b, 0, none⟩)] h fun v h' => v = .bool (bad5 ls id) ∧ Fm No h h' := by
  refine item_Check_1_ok.snd Af.hm rfl fun w => ?_
  rw [WF_eq, item_Check_1]
  simp +contextual (disch := omega) only [↓AM, ↓AV, AP, CQ, rd_mk hg]
  refine (c_find r hn).use ?_
  rintro _ h2 w2 ⟨rfl, f2⟩
  simp +contextual (disch := omega) only [↓AM, ↓AV, AP, CQ]
  exact ⟨rfl, f2⟩
end Go.Proofs.YtmkcngcnedjfkaaGreat.Is

/- The check of items, the program's. Plain theorems over the abstract machine.
   Conditions: none. -/
namespace Go.Proofs.YtmkcngcnedjfkaaGreat.Is
open Go Go.RowKit Go.Proofs.YtmkcngcnedjfkaaGreat.Am Go.Proofs.YtmkcngcnedjfkaaGreat.Af Go.Proofs.YtmkcngcnedjfkaaGreat.Md Go.Proofs.YtmkcngcnedjfkaaGreat.It
set_option linter.unusedVariables false
set_option linter.unusedSimpArgs false
set_option linter.defProp false
set_option maxRecDepth 20000
set_option maxHeartbeats 4000000

theorem c_ICheck {h : Hp} {ls : List Item} {oa : Option Addr} {c : Nat} (r : RL h oa ls) (hz : SL ls) :
    ACalls Tryz.prog 19 [.slice oa ls.length c] h fun v h' => v = .tuple #[.int .i64 (chkI ls).1, .int .i64 (chkI ls).2] ∧ Fm No h h' := by
  refine item_Check_ok.snd Af.hm rfl fun w => ?_
  rw [WF_eq, item_Check]
  obtain ⟨ha, ea⟩ : ∃ g, h.new ⟨[.slice oa ls.length c], .own⟩ = g := ⟨_, rfl⟩
  have wa : Wf ha := ea ▸ w.new
  have fa : Fm No h ha := ea ▸ Fm.new Fm.refl
  have ga : ha.get h.size = some ⟨[.slice oa ls.length c], .own⟩ := ea ▸ gnew
  have gg : ∀ g, Fm No ha g → g.get h.size = some ⟨[.slice oa ls.length c], .own⟩ := fun g fg => fg.keep wa ga (fun f => f)
  have fin : ∀ g (e : Int × Int), Fm No ha g → chkI ls = e → (Value.tuple #[.int .i64 e.1, .int .i64 e.2] = Value.tuple #[.int .i64 (chkI ls).1, .int .i64 (chkI ls).2] ∧ Fm No h g) := fun g e fg he => ⟨by rw [he], fa.trans fg fun _ _ x => x⟩
  by_cases hlen : 12 < (ls.length : Int)
  · simp +contextual (disch := omega) only [↓AM, ↓AV, AP, CQ, ea, rd_mk ga, gt_iff_lt, hlen]
    exact fin ha (2, -1) Fm.refl (chk_0 hlen)
  have hl12 : ls.length ≤ 12 := by omega
  simp +contextual (disch := omega) only [↓AM, ↓AV, AP, CQ, ea, rd_mk ga, gt_iff_lt, hlen]
  refine WL.mk (fun k t h' => ∃ (i : Nat), Wf h' ∧ Non f1 ls i ∧ Fm No ha h' ∧ i ≤ ls.length ∧ k = ls.length - i ∧
      t = [(1, some (.pointer (some ⟨h.size, 0, none⟩))), (12, some (.slice oa ls.length c)), (13, some (.int .i64 (ls.length : Int))), (14, some (.int .i64 (i : Int)))])
    ⟨ls.length, 0, wa, Non.zero, Fm.refl, by omega, rfl, rfl⟩ ?_
  rintro k t h1 ⟨i, w1, non, f1', hi, rfl, rfl⟩
  have r1 := (r.keep w fa).keep wa f1'
  by_cases hin : i < ls.length
  · obtain ⟨b, off, sp, p, x, rfl, fo, hx, hr, ri⟩ := r1.at hin
    have hsx := hz.2 x (List.mem_of_getElem? hx)
    obtain ⟨h2, e2⟩ : ∃ g, h1.new ⟨itC x p, .own⟩ = g := ⟨_, rfl⟩
    have w2 : Wf h2 := e2 ▸ w1.new
    have f2' : Fm No h1 h2 := e2 ▸ Fm.new Fm.refl
    have g2 : h2.get h1.size = some ⟨itC x p, .own⟩ := e2 ▸ gnew
    have n2 : ∀ g, Fm No h2 g → g.rdN h1.size 0 12 = some (itC x p) := fun g fg => rdN_mk (fg.keep w2 g2 (fun f => f)) (by simp [itC])
    have ri2 := ri.keep w1 f2'
    simp only [itC] at e2 n2 hr g2
    simp +contextual (disch := omega) only [↓AM, ↓AV, AP, CQ, ea, hin, fo, hr, e2, n2 h2 Fm.refl]
    refine (c_ranges ri2 hsx).use ?_
    rintro _ h3 w3 ⟨rfl, f3'⟩
    have fa3 := (f1'.trans f2' fun _ _ x => x).trans f3' fun _ _ x => x
    by_cases hra : rangesP x
    case neg =>
      simp +contextual (disch := omega) only [↓AM, ↓AV, AP, CQ, hra]
      exact fin h3 (1, (i : Int)) fa3 (chk_1 hlen (non.hit hx (by unfold f1; rw [if_neg hra])))
    simp +contextual (disch := omega) only [↓AM, ↓AV, AP, CQ, ea, e2, hra, n2 h3 f3']
    refine (c_unused (p := p) hra.2.1).use ?_
    rintro _ h4 w4 ⟨rfl, f4'⟩
    have fa4 := fa3.trans f4' fun _ _ x => x
    have f24 := f3'.trans f4' fun _ _ x => x
    have g4 := f24.keep w2 g2 (fun f => f)
    have hcu := clean_unused hra.2.1
    by_cases hu : unusedP x
    case neg =>
      simp +contextual (disch := omega) only [↓AM, ↓AV, AP, CQ, hu]
      exact fin h4 (4, (i : Int)) fa4 (chk_1 hlen (non.hit hx (by unfold f1; rw [if_pos hra, if_neg (fun q => hu (hcu.1 q).1)])))
    by_cases hd : 65536 < (x.dt.length : Int)
    · simp +contextual (disch := omega) only [↓AM, ↓AV, AP, CQ, ea, e2, hu, rd_mk g4, gt_iff_lt, hd]
      exact fin h4 (4, (i : Int)) fa4 (chk_1 hlen (non.hit hx (by unfold f1; rw [if_pos hra, if_neg (fun q => by have := (hcu.1 q).2; omega)])))
    · simp +contextual (disch := omega) only [↓AM, ↓AV, AP, CQ, ea, e2, hu, rd_mk g4, gt_iff_lt, hd, i64]
      exact ⟨ls.length - (i + 1), by omega, i + 1, w4, non.step hx (by unfold f1; rw [if_pos hra, if_pos (hcu.2 ⟨hu, by omega⟩)]), fa4, by omega, rfl, rfl⟩
  · have hie : i = ls.length := by omega
    rw [hie] at non
    have n1 := non.all
    have gh1 := gg h1 f1'
    simp +contextual (disch := omega) only [↓AM, ↓AV, AP, CQ, ea, hin, rd_mk gh1]
    refine WL.mk (fun k t h' => ∃ (i : Nat), Wf h' ∧ Non (f2 ls) ls i ∧ Fm No ha h' ∧ i ≤ ls.length ∧ k = ls.length - i ∧
        t = [(1, some (.pointer (some ⟨h.size, 0, none⟩))), (34, some (.slice oa ls.length c)), (35, some (.int .i64 (ls.length : Int))), (36, some (.int .i64 (i : Int)))])
      ⟨ls.length, 0, w1, Non.zero, f1', by omega, rfl, rfl⟩ ?_
    clear non hin hie hi i f1' gh1 r1
    rintro k t h1 ⟨i, w1, non, f1', hi, rfl, rfl⟩
    have r1 := (r.keep w fa).keep wa f1'
    have gh1 := gg h1 f1'
    by_cases hin : i < ls.length
    · obtain ⟨b, off, sp, p, x, rfl, fo, hx, hr, ri⟩ := r1.at hin
      have hsx := hz.2 x (List.mem_of_getElem? hx)
      obtain ⟨h2, e2⟩ : ∃ g, h1.new ⟨itC x p, .own⟩ = g := ⟨_, rfl⟩
      have w2 : Wf h2 := e2 ▸ w1.new
      have f2' : Fm No h1 h2 := e2 ▸ Fm.new Fm.refl
      have g2 : h2.get h1.size = some ⟨itC x p, .own⟩ := e2 ▸ gnew
      have fa2 := f1'.trans f2' fun _ _ x => x
      have gh2 := gg h2 fa2
      simp only [itC] at e2 hr g2
      simp +contextual (disch := omega) only [↓AM, ↓AV, AP, CQ, ea, hin, fo, hr, e2, rd_mk gh2, rd_mk g2]
      refine (c_find (c := c) (r1.keep w1 f2') hz.1).use ?_
      rintro _ h3 w3 ⟨rfl, f3'⟩
      have fa3 := fa2.trans f3' fun _ _ x => x
      have g3 := f3'.keep w2 g2 (fun f => f)
      have gh3 := gg h3 fa3
      have hle := fI_le hx
      by_cases hf : fI ls x.id < (i : Int)
      · simp +contextual (disch := omega) only [↓AM, ↓AV, AP, CQ, ea, e2, hf]
        exact fin h3 (30, (i : Int)) fa3 (chk_2 hlen n1 (non.hit hx (by unfold f2; rw [if_neg (by omega)])))
      have r3 := (r1.keep w1 f2').keep w2 f3'
      simp +contextual (disch := omega) only [↓AM, ↓AV, AP, CQ, ea, e2, hf, rd_mk g3]
      refine (c_HasInts (p := bad5 ls) (((ri.keep w1 f2').keep w2 f3').of) hsx.of (by kernel_rfl) fun id hid h4 fm w4 => c_ck1 (r3.keep w3 fm) hz.1 (fm.keep w3 gh3 (fun f => f))).use ?_
      rintro _ h4 w4 ⟨rfl, f4'⟩
      have fa4 := fa3.trans f4' fun _ _ x => x
      by_cases hb : x.of.any (bad5 ls) = true
      · simp +contextual (disch := omega) only [↓AM, ↓AV, AP, CQ, ea, e2, hb]
        exact fin h4 (5, (i : Int)) fa4 (chk_2 hlen n1 (non.hit hx (by unfold f2; rw [if_pos (by omega), if_pos hb])))
      · simp +contextual (disch := omega) only [↓AM, ↓AV, AP, CQ, ea, e2, hb, i64]
        exact ⟨ls.length - (i + 1), by omega, i + 1, w4, non.step hx (by unfold f2; rw [if_pos (by omega), if_neg hb]), fa4, by omega, rfl, rfl⟩
    · have hie : i = ls.length := by omega
      rw [hie] at non
      have n2 := non.all
      have ok := non_ok non
      simp +contextual (disch := omega) only [↓AM, ↓AV, AP, CQ, ea, hin, rd_mk gh1]
      refine WL.mk (fun k t h' => ∃ (i : Nat), Wf h' ∧ Non (f3 ls) ls i ∧ Fm No ha h' ∧ i ≤ ls.length ∧ k = ls.length - i ∧
          t = [(1, some (.pointer (some ⟨h.size, 0, none⟩))), (55, some (.int .i64 (ls.length : Int))), (56, some (.int .i64 (i : Int)))])
        ⟨ls.length, 0, w1, Non.zero, f1', by omega, rfl, rfl⟩ ?_
      clear non hin hie hi i f1' gh1 r1
      rintro k t h1 ⟨i, w1, non, f1', hi, rfl, rfl⟩
      have r1 := (r.keep w fa).keep wa f1'
      have gh1 := gg h1 f1'
      by_cases hin : i < ls.length
      · obtain ⟨x, hx⟩ : ∃ x, ls[i]? = some x := ⟨_, List.getElem?_eq_getElem hin⟩
        simp +contextual (disch := omega) only [↓AM, ↓AV, AP, CQ, ea, hin, rd_mk gh1]
        refine (c_loops (c := c) r1 ok hz (by omega) hin).use ?_
        rintro _ h2 w2 ⟨⟨bb, rfl, hb⟩, f2'⟩
        have fa2 := f1'.trans f2' fun _ _ x => x
        cases bb with
        | true =>
          simp +contextual (disch := omega) only [↓AM, ↓AV, AP, CQ, ea]
          exact fin h2 (150, (i : Int)) fa2 (chk_3 hlen n1 n2 (non.hit hx (by unfold f3; rw [if_pos (hb.1 rfl)])))
        | false =>
          simp +contextual (disch := omega) only [↓AM, ↓AV, AP, CQ, ea, i64]
          exact ⟨ls.length - (i + 1), by omega, i + 1, w2, non.step hx (by unfold f3; rw [if_neg (fun q => by cases hb.2 q)]), fa2, by omega, rfl, rfl⟩
      · have hie : i = ls.length := by omega
        rw [hie] at non
        simp +contextual (disch := omega) only [↓AM, ↓AV, AP, CQ, ea, hin]
        exact fin h1 (0, -1) f1' (chk_4 hlen n1 n2 non.all)
end Go.Proofs.YtmkcngcnedjfkaaGreat.Is

/- The check of items, the document's. Plain theorems over the abstract machine.
   Conditions: none. -/
namespace Go.Proofs.YtmkcngcnedjfkaaGreat.Is
open Go Go.RowKit Go.Proofs.YtmkcngcnedjfkaaGreat.Am Go.Proofs.YtmkcngcnedjfkaaGreat.Af Go.Proofs.YtmkcngcnedjfkaaGreat.Md Go.Proofs.YtmkcngcnedjfkaaGreat.It
set_option linter.unusedVariables false
set_option linter.unusedSimpArgs false
set_option linter.defProp false
set_option maxRecDepth 20000
set_option maxHeartbeats 4000000

theorem c_rICheck {h : Hp} {ls : List Item} {oa : Option Addr} {c : Nat} (r : RL h oa ls) (hz : SL ls) :
    ACalls Tryz.prog 20 [.slice oa ls.length c] h fun v h' => v = .tuple #[.int .i64 (chkI ls).1, .int .i64 (chkI ls).2] ∧ Fm No h h' := by
  refine dioramaref15_Check_ok.snd Af.hm rfl fun w => ?_
  rw [WF_eq, dioramaref15_Check]
  have fin : ∀ g (e : Int × Int), Fm No h g → chkI ls = e → (Value.tuple #[.int .i64 e.1, .int .i64 e.2] = Value.tuple #[.int .i64 (chkI ls).1, .int .i64 (chkI ls).2] ∧ Fm No h g) := fun g e fg he => ⟨by rw [he], fg⟩
  by_cases hlen : 12 < (ls.length : Int)
  · simp +contextual (disch := omega) only [↓AM, ↓AV, AP, CQ, gt_iff_lt, hlen]
    exact fin h (2, -1) Fm.refl (chk_0 hlen)
  have hl12 : ls.length ≤ 12 := by omega
  simp +contextual (disch := omega) only [↓AM, ↓AV, AP, CQ, gt_iff_lt, hlen]
  refine WL.mk (fun k t h' => ∃ (i : Nat), Wf h' ∧ Non f1 ls i ∧ Fm No h h' ∧ i ≤ ls.length ∧ k = ls.length - i ∧ t = [(0, some (.slice oa ls.length c)), (4, some (.int .i64 (i : Int)))])
    ⟨ls.length, 0, w, Non.zero, Fm.refl, by omega, rfl, rfl⟩ ?_
  rintro k t h1 ⟨i, w1, non, f1', hi, rfl, rfl⟩
  have r1 := r.keep w f1'
  by_cases hin : i < ls.length
  · obtain ⟨b, off, sp, p, x, rfl, fo, hx, hr, ri⟩ := r1.at hin
    have hsx := hz.2 x (List.mem_of_getElem? hx)
    have bw := rdN_wf w1 hr
    have hrg : ∀ g, Fm No h1 g → g.rdN b (off + i * 12) 12 = some (itC x p) := fun g fg => by rw [rdN_keep (fg.get _ bw (fun f => f))]; exact hr
    simp only [itC] at hr hrg
    simp +contextual (disch := omega) only [↓AM, ↓AV, AP, CQ, hin, fo, hr]
    refine (c_rranges ri hsx).use ?_
    rintro _ h3 w3 ⟨rfl, f3'⟩
    have fa3 := f1'.trans f3' fun _ _ x => x
    by_cases hra : rangesP x
    case neg =>
      simp +contextual (disch := omega) only [↓AM, ↓AV, AP, CQ, hra]
      exact fin h3 (1, (i : Int)) fa3 (chk_1 hlen (non.hit hx (by unfold f1; rw [if_neg hra])))
    simp +contextual (disch := omega) only [↓AM, ↓AV, AP, CQ, hra, hin, fo, hrg h3 f3']
    refine (c_clean (x := x) (p := p)).use ?_
    rintro _ h4 w4 ⟨rfl, f4'⟩
    have fa4 := fa3.trans f4' fun _ _ x => x
    by_cases hu : cleanP x
    · simp +contextual (disch := omega) only [↓AM, ↓AV, AP, CQ, hu, i64]
      exact ⟨ls.length - (i + 1), by omega, i + 1, w4, non.step hx (by unfold f1; rw [if_pos hra, if_pos hu]), fa4, by omega, rfl, rfl⟩
    · simp +contextual (disch := omega) only [↓AM, ↓AV, AP, CQ, hu]
      exact fin h4 (4, (i : Int)) fa4 (chk_1 hlen (non.hit hx (by unfold f1; rw [if_pos hra, if_neg hu])))
  · have hie : i = ls.length := by omega
    rw [hie] at non
    have n1 := non.all
    simp +contextual (disch := omega) only [↓AM, ↓AV, AP, CQ, hin]
    refine WL.mk (fun k t h' => ∃ (i : Nat), Wf h' ∧ Non (f2 ls) ls i ∧ Fm No h h' ∧ i ≤ ls.length ∧ k = ls.length - i ∧ t = [(0, some (.slice oa ls.length c)), (5, some (.int .i64 (i : Int)))])
      ⟨ls.length, 0, w1, Non.zero, f1', by omega, rfl, rfl⟩ ?_
    clear non hin hie hi i f1' r1
    rintro k t h1 ⟨i, w1, non, f1', hi, rfl, rfl⟩
    have r1 := r.keep w f1'
    by_cases hin : i < ls.length
    · obtain ⟨b, off, sp, p, x, rfl, fo, hx, hr, ri⟩ := r1.at hin
      have hsx := hz.2 x (List.mem_of_getElem? hx)
      have q0 := rdN_get hr (i := 0) (v := .int .i64 x.id) rfl
      have q3 := rdN_get hr (i := 3) (v := .slice p.oa x.of.length p.oc) rfl
      have q0' := q0
      simp only [Nat.add_zero] at q0'
      have hle := fI_le hx
      simp +contextual (disch := omega) only [↓AM, ↓AV, AP, CQ, hin, fo, q0, q0']
      refine (c_rfind (c := c) r1 hz.1).use ?_
      rintro _ h9 _ ⟨rfl, e9⟩
      subst h9
      by_cases hf : fI ls x.id = (i : Int)
      case neg =>
        simp +contextual (disch := omega) only [↓AM, ↓AV, AP, CQ, EqI, hf]
        exact fin h1 (30, (i : Int)) f1' (chk_2 hlen n1 (non.hit hx (by unfold f2; rw [if_neg hf])))
      simp +contextual (disch := omega) only [↓AM, ↓AV, AP, CQ, EqI, It.eqI_self, hf]
      refine WL.mk (fun k t h' => ∃ (j : Nat), h' = h1 ∧ (x.of.take j).any (bad5 ls) = false ∧ j ≤ x.of.length ∧ k = x.of.length - j ∧ t = [(0, some (.slice (some ⟨b, off, sp⟩) ls.length c)), (5, some (.int .i64 (i : Int))), (6, some (.int .i64 (j : Int)))])
        ⟨x.of.length, 0, rfl, rfl, by omega, rfl, rfl⟩ ?_
      rintro k t h2 ⟨j, e2, hany, hj, rfl, rfl⟩
      subst h2
      have hso := hsx.of
      by_cases hjn : j < x.of.length
      · obtain ⟨b4, o4, s4, e4, f4, id, hid, r4⟩ := Rd.int ri.of hjn
        have q3' := q3
        rw [e4] at q3'
        simp +contextual (disch := omega) only [↓AM, ↓AV, AP, CQ, hin, hjn, fo, q3', f4, r4]
        refine (c_rfind (c := c) r1 hz.1).use ?_
        rintro _ h9 _ ⟨rfl, e9⟩
        subst h9
        by_cases hb : fI ls id < 0
        · simp +contextual (disch := omega) only [↓AM, ↓AV, AP, CQ, hb]
          have : x.of.any (bad5 ls) = true := List.any_eq_true.2 ⟨id, List.mem_of_getElem? hid, decide_eq_true hb⟩
          exact fin h1 (5, (i : Int)) f1' (chk_2 hlen n1 (non.hit hx (by unfold f2; rw [if_pos hf, if_pos this])))
        · simp +contextual (disch := omega) only [↓AM, ↓AV, AP, CQ, hb, i64]
          exact ⟨x.of.length - (j + 1), by omega, j + 1, by rw [List.take_add_one, hid]; simp [hany, bad5, hb], by omega, rfl, rfl⟩
      · have hje : j = x.of.length := by omega
        subst hje
        rw [List.take_length] at hany
        simp +contextual (disch := omega) only [↓AM, ↓AV, AP, CQ, hin, hjn, fo, q3, i64]
        exact ⟨ls.length - (i + 1), by omega, i + 1, w1, non.step hx (by unfold f2; rw [if_pos hf, if_neg (by rw [hany]; decide)]), f1', by omega, rfl, rfl⟩
    · have hie : i = ls.length := by omega
      rw [hie] at non
      have n2 := non.all
      have ok := non_ok non
      simp +contextual (disch := omega) only [↓AM, ↓AV, AP, CQ, hin]
      refine WL.mk (fun k t h' => ∃ (i : Nat), Wf h' ∧ Non (f3 ls) ls i ∧ Fm No h h' ∧ i ≤ ls.length ∧ k = ls.length - i ∧ t = [(0, some (.slice oa ls.length c)), (7, some (.int .i64 (i : Int)))])
        ⟨ls.length, 0, w1, Non.zero, f1', by omega, rfl, rfl⟩ ?_
      clear non hin hie hi i f1' r1
      rintro k t h1 ⟨i, w1, non, f1', hi, rfl, rfl⟩
      have r1 := r.keep w f1'
      by_cases hin : i < ls.length
      · obtain ⟨x, hx⟩ : ∃ x, ls[i]? = some x := ⟨_, List.getElem?_eq_getElem hin⟩
        simp +contextual (disch := omega) only [↓AM, ↓AV, AP, CQ, hin]
        refine (c_reached (c := c) r1 ok hz (by omega) hin).use ?_
        rintro _ h2 w2 ⟨⟨bs, S, rfl, gS, hS, hb⟩, f2'⟩
        have fa2 := f1'.trans f2' fun _ _ x => x
        obtain ⟨bb, hbb⟩ : ∃ bb, S[i]? = some bb := ⟨_, List.getElem?_eq_getElem (by omega)⟩
        have hbV : (bV S)[i]? = some (.bool bb) := by unfold bV; rw [List.getElem?_map, hbb]; rfl
        rw [hbb] at hb
        cases bb with
        | true =>
          simp +contextual (disch := omega) only [↓AM, ↓AV, AP, CQ, hin, rd_mk gS, hbV]
          exact fin h2 (150, (i : Int)) fa2 (chk_3 hlen n1 n2 (non.hit hx (by unfold f3; rw [if_pos (hb.1 rfl)])))
        | false =>
          simp +contextual (disch := omega) only [↓AM, ↓AV, AP, CQ, hin, rd_mk gS, hbV, i64]
          exact ⟨ls.length - (i + 1), by omega, i + 1, w2, non.step hx (by unfold f3; rw [if_neg (fun q => by cases hb.2 q)]), fa2, by omega, rfl, rfl⟩
      · have hie : i = ls.length := by omega
        rw [hie] at non
        simp +contextual (disch := omega) only [↓AM, ↓AV, AP, CQ, hin]
        exact fin h1 (0, -1) f1' (chk_4 hlen n1 n2 non.all)
end Go.Proofs.YtmkcngcnedjfkaaGreat.Is

/- The order of what an item needs, plain.
   Conditions: none. -/
namespace Go.Proofs.YtmkcngcnedjfkaaGreat.Is
open Go Go.RowKit Go.Proofs.YtmkcngcnedjfkaaGreat.Am Go.Proofs.YtmkcngcnedjfkaaGreat.Af Go.Proofs.YtmkcngcnedjfkaaGreat.Md Go.Proofs.YtmkcngcnedjfkaaGreat.It
set_option linter.unusedVariables false
set_option linter.unusedSimpArgs false
set_option maxRecDepth 20000

theorem countP_lt {α : Type} {p q : α → Bool} : ∀ {l : List α} {a : α}, (∀ x ∈ l, p x = true → q x = true) → a ∈ l → q a = true → p a = false → l.countP p < l.countP q
  | [], a, _, h, _, _ => by cases h
  | x :: xs, a, hpq, h, hq, hp => by
    have hle : xs.countP p ≤ xs.countP q := List.countP_mono_left fun y hy => hpq y (List.mem_cons_of_mem _ hy)
    rw [List.countP_cons, List.countP_cons]
    rcases List.mem_cons.1 h with e | h
    · subst e
      rw [hq, hp]
      simp
      omega
    · have := countP_lt (fun y hy => hpq y (List.mem_cons_of_mem _ hy)) h hq hp
      have hx := hpq x (List.mem_cons_self ..)
      cases hpx : p x with
      | true => rw [hx hpx]; simp; omega
      | false => cases q x <;> simp <;> omega
open Classical in
/-- How many items are reached from k. -/
noncomputable def rk (ls : List Item) (k : Nat) : Nat := (List.range ls.length).countP fun n => decide (Rch ls k n)
theorem rk_lt {ls : List Item} {k n : Nat} (hno : ∀ i, i < ls.length → ¬ Rch ls i i) (hn : n < ls.length) (e : nx ls k n) : rk ls n < rk ls k := by
  classical
  exact countP_lt (a := n) (fun m _ h => decide_eq_true (.step e (of_decide_eq_true h))) (List.mem_range.2 hn) (decide_eq_true (.one e)) (decide_eq_false (hno n hn))
/-- What item k is made of, by places. -/
def ofs (ls : List Item) (k : Nat) : List Nat := match ls[k]? with
  | some x => x.of.map fun id => (fI ls id).toNat
  | none => []
/-- The depth-first order. -/
def vis (ls : List Item) : Nat → Nat → List Nat → List Nat
  | 0, _, D => D
  | μ + 1, k, D => if k ∈ D then D else (ofs ls k).foldl (fun D n => vis ls μ n D) D ++ [k]
theorem ofs_nx {ls : List Item} (ok : Okn ls) {k n : Nat} (h : n ∈ ofs ls k) : nx ls k n := by
  unfold ofs at h
  split at h
  · rename_i x hx
    obtain ⟨id, hid, rfl⟩ := List.mem_map.1 h
    have := ok x (List.mem_of_getElem? hx) id hid
    exact ⟨x, hx, id, hid, by omega⟩
  · cases h
theorem vis_mem {ls : List Item} (ok : Okn ls) : ∀ (μ k : Nat) (D : List Nat) (m : Nat), m ∈ vis ls μ k D → m ∈ D ∨ m = k ∨ Rch ls k m := by
  intro μ
  induction μ with
  | zero => intro k D m h; exact .inl h
  | succ μ ih =>
    intro k D m h
    unfold vis at h
    split at h
    · exact .inl h
    · rcases List.mem_append.1 h with h | h
      · have key : ∀ (L : List Nat) (D : List Nat), (∀ n ∈ L, nx ls k n) → m ∈ L.foldl (fun D n => vis ls μ n D) D → m ∈ D ∨ Rch ls k m := by
          intro L
          induction L with
          | nil => intro D _ h; exact .inl h
          | cons a L ihL =>
            intro D hL h
            rcases ihL _ (fun n hn => hL n (List.mem_cons_of_mem _ hn)) h with h | h
            · have e := hL a (List.mem_cons_self ..)
              rcases ih a D m h with h | h | h
              · exact .inl h
              · subst h; exact .inr (.one e)
              · exact .inr (.step e h)
            · exact .inr h
        rcases key _ D (fun n hn => ofs_nx ok hn) h with h | h
        · exact .inl h
        · exact .inr (.inr h)
      · simp at h
        exact .inr (.inl h)
/-- Behind its parts the item itself is not yet there. -/
theorem vis_new {ls : List Item} (ok : Okn ls) {μ k : Nat} {D : List Nat} (hno : ¬ Rch ls k k) (hk : k ∉ D) {L : List Nat} (hL : ∀ n ∈ L, nx ls k n) : k ∉ L.foldl (fun D n => vis ls μ n D) D := by
  induction L generalizing D with
  | nil => exact hk
  | cons a L ih =>
    refine ih (fun h => ?_) fun n hn => hL n (List.mem_cons_of_mem _ hn)
    have e := hL a (List.mem_cons_self ..)
    rcases vis_mem ok μ a D k h with h | h | h
    · exact hk h
    · subst h; exact hno (.one e)
    · exact hno (.step e h)
theorem no_loop {ls : List Item} (h : Non (f3 ls) ls ls.length) : ∀ i, i < ls.length → ¬ Rch ls i i := fun i hi hr => by
  have := h i hi _ (List.getElem?_eq_getElem hi)
  unfold f3 at this
  rw [if_pos hr] at this
  cases this
end Go.Proofs.YtmkcngcnedjfkaaGreat.Is

/- Whether a number is in a list. Plain theorems over the abstract machine.
   Conditions: none. -/
namespace Go.Proofs.YtmkcngcnedjfkaaGreat.Is
open Go Go.RowKit Go.Proofs.YtmkcngcnedjfkaaGreat.Am Go.Proofs.YtmkcngcnedjfkaaGreat.Af Go.Proofs.YtmkcngcnedjfkaaGreat.Md Go.Proofs.YtmkcngcnedjfkaaGreat.It
set_option linter.unusedVariables false
set_option linter.unusedSimpArgs false
set_option linter.defProp false
set_option maxRecDepth 20000
set_option maxHeartbeats 2000000

theorem nin_step {L : List Int} {j : Nat} {x y : Int} (h : x ∉ L.take j) (hy : L[j]? = some y) (hn : ¬ y = x) : x ∉ L.take (j + 1) := by
  rw [List.take_add_one, hy]
  intro q
  rcases List.mem_append.1 q with q | q
  · exact h q
  · simp at q
    exact hn q.symm
theorem c_HasInt {h : Hp} {a : Option Addr} {c : Nat} {L : List Int} {x : Int} (ra : Rd h 1 a L.length (iV L)) (hn : L.length ≤ 1000000) :
    ACalls Tryz.prog 159 [.slice a L.length c, .int .i64 x] h fun v h' => (∃ m : Int, v = .int .i64 m ∧ (0 ≤ m ↔ x ∈ L)) ∧ h' = h := by
  refine dioramaref00_HasInt_ok.snd Af.hm rfl fun w => ?_
  rw [WF_eq, dioramaref00_HasInt]
  simp +contextual (disch := omega) only [↓AM, ↓AV, AP, CQ]
  refine WL.mk (fun k t h' => ∃ j : Nat, h' = h ∧ j ≤ L.length ∧ k = L.length - j ∧ x ∉ L.take j ∧ t = [(0, some (.slice a L.length c)), (1, some (.int .i64 x)), (5, some (.int .i64 (j : Int)))]) ⟨L.length, 0, rfl, by omega, rfl, by simp, rfl⟩ ?_
  rintro k t h1 ⟨j, e1, hj, rfl, hnin, rfl⟩
  subst h1
  by_cases hjn : j < L.length
  · obtain ⟨b1, o1, s1, rfl, f1, y, hy, r1⟩ := Rd.int ra hjn
    by_cases e : y = x
    · simp +contextual (disch := omega) only [↓AM, ↓AV, AP, CQ, EqI, f1, r1, hjn, e]
      exact ⟨_, rfl, ⟨fun _ => e ▸ List.mem_of_getElem? hy, fun _ => by omega⟩⟩
    · simp +contextual (disch := omega) only [↓AM, ↓AV, AP, CQ, EqI, f1, r1, hjn, e, i64]
      exact ⟨L.length - (j + 1), by omega, j + 1, by omega, rfl, nin_step hnin hy e, rfl⟩
  · simp +contextual (disch := omega) only [↓AM, ↓AV, AP, CQ, hjn]
    rw [List.take_of_length_le (by omega)] at hnin
    exact ⟨_, rfl, ⟨fun q => absurd q (by decide), fun q => absurd q hnin⟩⟩
theorem c_IdxInt {h : Hp} {a : Option Addr} {c : Nat} {L : List Int} {x : Int} (ra : Rd h 1 a L.length (iV L)) (hn : L.length ≤ 1000000) :
    ACalls Tryz.prog 158 [.slice a L.length c, .int .i64 x] h fun v h' => (∃ m : Int, v = .int .i64 m ∧ (0 ≤ m ↔ x ∈ L)) ∧ h' = h := by
  refine slices_Index___int_int__ok.snd Af.hm rfl fun w => ?_
  rw [WF_eq, slices_Index___int_int_]
  simp +contextual (disch := omega) only [↓AM, ↓AV, AP, CQ]
  refine WL.mk (fun k t h' => ∃ j : Nat, h' = h ∧ j ≤ L.length ∧ k = L.length - j ∧ x ∉ L.take j ∧ t = [(0, some (.slice a L.length c)), (1, some (.int .i64 x)), (7, some (.int .i64 (L.length : Int))), (8, some (.int .i64 (j : Int)))]) ⟨L.length, 0, rfl, by omega, rfl, by simp, rfl⟩ ?_
  rintro k t h1 ⟨j, e1, hj, rfl, hnin, rfl⟩
  subst h1
  by_cases hjn : j < L.length
  · obtain ⟨b1, o1, s1, rfl, f1, y, hy, r1⟩ := Rd.int ra hjn
    by_cases e : x = y
    · simp +contextual (disch := omega) only [↓AM, ↓AV, AP, CQ, EqI, f1, r1, hjn, e]
      exact ⟨_, rfl, ⟨fun _ => List.mem_of_getElem? hy, fun _ => by omega⟩⟩
    · simp +contextual (disch := omega) only [↓AM, ↓AV, AP, CQ, EqI, f1, r1, hjn, e, i64]
      exact ⟨L.length - (j + 1), by omega, j + 1, by omega, rfl, nin_step hnin hy (fun q => e q.symm), rfl⟩
  · simp +contextual (disch := omega) only [↓AM, ↓AV, AP, CQ, hjn]
    rw [List.take_of_length_le (by omega)] at hnin
    exact ⟨_, rfl, ⟨fun q => absurd q (by decide), fun q => absurd q hnin⟩⟩
theorem c_HasI {h : Hp} {a : Option Addr} {c : Nat} {L : List Int} {x : Int} (ra : Rd h 1 a L.length (iV L)) (hn : L.length ≤ 1000000) :
    ACalls Tryz.prog 117 [.slice a L.length c, .int .i64 x] h fun v h' => v = .bool (decide (x ∈ L)) ∧ h' = h := by
  refine slices_Contains___int_int__ok.snd Af.hm rfl fun w => ?_
  rw [WF_eq, slices_Contains___int_int_]
  simp +contextual (disch := omega) only [↓AM, ↓AV, AP, CQ]
  refine (c_IdxInt ra hn).use ?_
  rintro _ h9 _ ⟨⟨m, rfl, hm⟩, e9⟩
  subst h9
  by_cases q : 0 ≤ m
  · simp +contextual (disch := omega) only [↓AM, ↓AV, AP, CQ, ge_iff_le, q]
    rw [decide_eq_true (hm.1 q)]
  · simp +contextual (disch := omega) only [↓AM, ↓AV, AP, CQ, ge_iff_le, q]
    rw [decide_eq_false (fun z => q (hm.2 z))]
end Go.Proofs.YtmkcngcnedjfkaaGreat.Is

/- The program's order. Plain theorems over the abstract machine.
   Conditions: none. -/
namespace Go.Proofs.YtmkcngcnedjfkaaGreat.Is
open Go Go.RowKit Go.Proofs.YtmkcngcnedjfkaaGreat.Am Go.Proofs.YtmkcngcnedjfkaaGreat.Af Go.Proofs.YtmkcngcnedjfkaaGreat.Md Go.Proofs.YtmkcngcnedjfkaaGreat.It
set_option linter.unusedVariables false
set_option linter.unusedSimpArgs false
set_option linter.defProp false
set_option maxRecDepth 20000
set_option maxHeartbeats 4000000

/-- So many are not there yet. -/
def nD (N : Nat) (D : List Nat) : Nat := (List.range N).countP fun n => decide (n ∉ D)
def Fits (N : Nat) (D : List Nat) : Prop := D.length + nD N D ≤ N
theorem Fits.nil (N : Nat) : Fits N [] := by
  have : nD N [] ≤ (List.range N).length := List.countP_le_length
  rw [List.length_range] at this
  show 0 + nD N [] ≤ N
  omega
theorem Fits.len {N : Nat} {D : List Nat} (f : Fits N D) : D.length ≤ N := by unfold Fits at f; omega
theorem Fits.add {N k : Nat} {D : List Nat} (f : Fits N D) (hk : k < N) (hn : k ∉ D) : Fits N (D ++ [k]) := by
  have := countP_lt (l := List.range N) (p := fun n => decide (n ∉ D ++ [k])) (q := fun n => decide (n ∉ D)) (a := k) (fun m _ h => decide_eq_true fun q => of_decide_eq_true h (List.mem_append_left _ q)) (List.mem_range.2 hk) (decide_eq_true hn) (decide_eq_false (by simp))
  unfold Fits nD at *
  rw [List.length_append, List.length_singleton]
  omega
theorem nx_lt {ls : List Item} {k n : Nat} (h : nx ls k n) : n < ls.length := by
  obtain ⟨x, _, id, _, e⟩ := h
  have := (fI_lt (ls := ls) (id := id)).1
  omega
theorem vis_fits {ls : List Item} (ok : Okn ls) (hno : ∀ i, i < ls.length → ¬ Rch ls i i) : ∀ (μ k : Nat) (D : List Nat), k < ls.length → Fits ls.length D → Fits ls.length (vis ls μ k D) := by
  intro μ
  induction μ with
  | zero => intro k D _ h; exact h
  | succ μ ih =>
    intro k D hk h
    unfold vis
    split
    · exact h
    · rename_i hn
      have key : ∀ (L : List Nat) (D : List Nat), (∀ n ∈ L, nx ls k n) → Fits ls.length D → Fits ls.length (L.foldl (fun D n => vis ls μ n D) D) := by
        intro L
        induction L with
        | nil => intro D _ h; exact h
        | cons a L ihL =>
          intro D hL h
          exact ihL _ (fun n hn => hL n (List.mem_cons_of_mem _ hn)) (ih a D (nx_lt (hL a (List.mem_cons_self ..))) h)
      exact (key _ D (fun n hn => ofs_nx ok hn) h).add hk (vis_new ok (hno k hk) hn fun n hn => ofs_nx ok hn)
theorem fold_fits {ls : List Item} (ok : Okn ls) (hno : ∀ i, i < ls.length → ¬ Rch ls i i) {μ : Nat} : ∀ (L : List Nat) (D : List Nat), (∀ n ∈ L, n < ls.length) → Fits ls.length D → Fits ls.length (L.foldl (fun D n => vis ls μ n D) D)
  | [], D, _, h => h
  | a :: L, D, hL, h => fold_fits ok hno L _ (fun n hn => hL n (List.mem_cons_of_mem _ hn)) (vis_fits ok hno μ a D (hL a (List.mem_cons_self ..)) h)
def zl (D : List Nat) : List Int := D.map fun n : Nat => (n : Int)
theorem zl_len (D : List Nat) : (zl D).length = D.length := by simp [zl]
theorem zl_mem {D : List Nat} {k : Nat} : (k : Int) ∈ zl D ↔ k ∈ D := by
  unfold zl
  rw [List.mem_map]
  exact ⟨fun ⟨a, h, e⟩ => by have : a = k := by omega
                             exact this ▸ h, fun h => ⟨k, h, rfl⟩⟩
theorem zl_add {D : List Nat} {k : Nat} : iV (zl (D ++ [k])) = iV (zl D) ++ [.int .i64 (k : Int)] := by simp [zl, iV]
theorem c_owalk {h0 hB : Hp} {ls : List Item} {oa : Option Addr} {c b1 b2 b3 : Nat} (w0 : Wf h0) (r : RL h0 oa ls) (wB : Wf hB) (fr : ∀ g, Fm (fun z => z = b1) hB g → Fm No h0 g) (hb1 : b1 < hB.size)
    (g2 : hB.get b2 = some ⟨[.slice oa ls.length c], .own⟩) (g3 : hB.get b3 = some ⟨[.func (.func 116) #[] #[.pointer (some ⟨b1, 0, none⟩), .pointer (some ⟨b2, 0, none⟩), .pointer (some ⟨b3, 0, none⟩)]], .own⟩)
    (n2 : b2 ≠ b1) (n3 : b3 ≠ b1) (ok : Okn ls) (hno : ∀ i, i < ls.length → ¬ Rch ls i i) (hz : SL ls) (hn : ls.length ≤ 1000) :
    ∀ (μ k : Nat) (D : List Nat) (oq : Option Addr) (cq : Nat) (h : Hp), rk ls k < μ → k < ls.length → Fits ls.length D → Fm (fun z => z = b1) hB h → h.get b1 = some ⟨[.slice oq D.length cq], .own⟩ → Ow h 1 oq D.length cq (iV (zl D)) → (∀ y, At oq y → hB.size ≤ y) →
      ACalls Tryz.prog 116 [.int .i64 (k : Int), .pointer (some ⟨b1, 0, none⟩), .pointer (some ⟨b2, 0, none⟩), .pointer (some ⟨b3, 0, none⟩)] h fun v h' =>
        ∃ oq' cq', h'.get b1 = some ⟨[.slice oq' (vis ls μ k D).length cq'], .own⟩ ∧ Ow h' 1 oq' (vis ls μ k D).length cq' (iV (zl (vis ls μ k D))) ∧ (∀ y, At oq' y → hB.size ≤ y) ∧ Fm (fun z => z = b1) hB h' := by
  intro μ
  induction μ with
  | zero => intro k D oq cq h hu; omega
  | succ μ ih =>
    intro k D oq cq h hu hk hD fB g1 ow no
    refine item_order_1_ok.snd Af.hm rfl fun w => ?_
    rw [WF_eq, item_order_1]
    have kp : ∀ g, Fm (fun z => z = b1) hB g → g.get b2 = some ⟨[.slice oa ls.length c], .own⟩ ∧ g.get b3 = some ⟨[.func (.func 116) #[] #[.pointer (some ⟨b1, 0, none⟩), .pointer (some ⟨b2, 0, none⟩), .pointer (some ⟨b3, 0, none⟩)]], .own⟩ := fun g fg =>
      ⟨fg.keep wB g2 n2, fg.keep wB g3 n3⟩
    obtain ⟨q2, q3⟩ := kp h fB
    have rd1 := ow.rd
    have hlD := hD.len
    have rd1' : Rd h 1 oq (zl D).length (iV (zl D)) := by rw [zl_len]; exact rd1
    have cHas := c_HasI (c := cq) (x := (k : Int)) rd1' (by rw [zl_len]; omega)
    rw [zl_len] at cHas
    simp +contextual (disch := omega) only [↓AM, ↓AV, AP, CQ, rd_mk g1]
    refine cHas.use ?_
    rintro _ h9 _ ⟨rfl, e9⟩
    subst h9
    by_cases hkD : k ∈ D
    · have hv : vis ls (μ + 1) k D = D := by unfold vis; rw [if_pos hkD]
      have hm : (k : Int) ∈ zl D := zl_mem.2 hkD
      simp +contextual (disch := omega) only [↓AM, ↓AV, AP, CQ, hm]
      rw [hv]
      exact ⟨oq, cq, g1, ow, no, fB⟩
    have hm : ¬ (k : Int) ∈ zl D := fun q => hkD (zl_mem.1 q)
    obtain ⟨b, off, sp, p, x, rfl, fo, hx, hr, ri⟩ := r.at hk
    have hxm := List.mem_of_getElem? hx
    have hsx := (hz.2 x hxm).of
    have bw := rdN_wf w0 hr
    have r3 : ∀ g, Fm (fun z => z = b1) hB g → g.rd b (off + k * 12 + 3) = some (.slice p.oa x.of.length p.oc) := fun g fg => by
      refine rdN_get (i := 3) ?_ (v := .slice p.oa x.of.length p.oc) rfl (h := g) (cs := itC x p) (m := 12)
      rw [rdN_keep ((fr g fg).get _ bw (fun f => f))]
      exact hr
    have rof : ∀ g, Fm (fun z => z = b1) hB g → Rd g 1 p.oa x.of.length (iV x.of) := fun g fg => ri.of.keep w0 (fr g fg) (fun _ _ f => f)
    have hofs : ofs ls k = x.of.map fun id => (fI ls id).toNat := by unfold ofs; rw [hx]
    simp +contextual (disch := omega) only [↓AM, ↓AV, AP, CQ, hm, rd_mk q2, hk, fo, r3 h fB]
    have hxl : (ofs ls k).length = x.of.length := by rw [hofs, List.length_map]
    have hlt : ∀ n ∈ ofs ls k, n < ls.length := fun n hn => nx_lt (ofs_nx ok hn)
    refine WL.mk (fun m t h' => ∃ (j : Nat) (D1 : List Nat) (oq1 : Option Addr) (cq1 : Nat), Wf h' ∧ Fm (fun z => z = b1) hB h' ∧ D1 = ((ofs ls k).take j).foldl (fun D n => vis ls μ n D) D ∧ h'.get b1 = some ⟨[.slice oq1 D1.length cq1], .own⟩ ∧ Ow h' 1 oq1 D1.length cq1 (iV (zl D1)) ∧ (∀ y, At oq1 y → hB.size ≤ y) ∧
        j ≤ x.of.length ∧ m = x.of.length - j ∧
        t = [(0, some (.int .i64 (k : Int))), (1, some (.pointer (some ⟨b1, 0, none⟩))), (2, some (.pointer (some ⟨b2, 0, none⟩))), (3, some (.pointer (some ⟨b3, 0, none⟩))), (14, some (.slice p.oa x.of.length p.oc)), (15, some (.int .i64 (x.of.length : Int))), (16, some (.int .i64 (j : Int)))])
      ⟨x.of.length, 0, D, oq, cq, w, fB, rfl, g1, ow, no, by omega, rfl, rfl⟩ ?_
    rintro m t h1 ⟨j, D1, oq1, cq1, w1, fB1, hD1, g11, ow1, no1, hj, rfl, rfl⟩
    have fit1 : Fits ls.length D1 := hD1 ▸ fold_fits ok hno _ D (fun n hn => hlt n (List.mem_of_mem_take hn)) hD
    have hl1 := fit1.len
    by_cases hjn : j < x.of.length
    · obtain ⟨q21, q31⟩ := kp h1 fB1
      obtain ⟨b4, o4, s4, e4, f4, id, hid, r4⟩ := Rd.int (rof h1 fB1) hjn
      have hidm := List.mem_of_getElem? hid
      obtain ⟨N, hN, hNl⟩ := ok.nat hxm hidm
      have hNj : (ofs ls k)[j]? = some N := by rw [hofs, List.getElem?_map, hid, Option.map_some, hN]; rfl
      have hNx : nx ls k N := ⟨x, hx, id, hidm, hN⟩
      rw [e4]
      simp +contextual (disch := omega) only [↓AM, ↓AV, AP, CQ, hjn, f4, r4, rd_mk q21, rd_mk q31]
      refine (c_find (c := c) (r.keep w0 (fr h1 fB1)) hz.1).use ?_
      rintro _ h2 w2 ⟨rfl, f2⟩
      have fB2 : Fm (fun z => z = b1) hB h2 := fB1.trans (f2.mono fun _ _ f => f.elim) fun _ _ x => x
      obtain ⟨q22, q32⟩ := kp h2 fB2
      simp +contextual (disch := omega) only [↓AM, ↓AV, AP, CQ, hN, rd_mk q22, rd_mk q32]
      have hrk := rk_lt hno hNl hNx
      have b1ne : ∀ x, At oq1 x → x ≠ b1 := fun y hy e => by have := no1 y hy; omega
      refine ⟨by kernel_rfl, (ih N D1 oq1 cq1 h2 (by omega) hNl fit1 fB2 (f2.keep w1 g11 (fun f => f)) (ow1.keep w1 f2 (fun _ _ f => f)) no1).use ?_⟩
      rintro v3 h3 w3 ⟨oq2, cq2, g31, ow3, no3, fB3⟩
      obtain ⟨q23, q33⟩ := kp h3 fB3
      simp +contextual (disch := omega) only [↓AM, ↓AV, AP, CQ, rd_mk q23, rd_mk q33, i64]
      have hD2 : vis ls μ N D1 = ((ofs ls k).take (j + 1)).foldl (fun D n => vis ls μ n D) D := by
        rw [List.take_add_one, hNj, List.foldl_append, ← hD1]; rfl
      exact ⟨x.of.length - (j + 1), by omega, j + 1, vis ls μ N D1, oq2, cq2, w3, fB3, hD2, g31, ow3, no3, by omega, rfl, rfl⟩
    · have hje : j = x.of.length := by omega
      subst hje
      rw [← hxl, List.take_length] at hD1
      have hkn : k ∉ D1 := hD1 ▸ vis_new ok (hno k hk) hkD fun n hn => ofs_nx ok hn
      have hv : vis ls (μ + 1) k D = D1 ++ [k] := by unfold vis; rw [if_neg hkD, hD1]
      rw [hv]
      simp +contextual (disch := omega) only [↓AM, ↓AV, AP, CQ, hjn, rd_mk g11]
      refine ow1.push (bytes := 8) (m := 1) (xs := [.int .i64 (k : Int)]) w1 rfl (by omega) fun oa' c' h5 o5 w5 f5 n5 => ?_
      have hb1n : ¬ At oq1 b1 := fun f => by have := no1 _ f; omega
      have g5 := f5.keep w1 g11 hb1n
      obtain ⟨h6, e6⟩ : ∃ g, h5.put b1 ⟨[.slice oa' (D1.length + 1) c'], .own⟩ = g := ⟨_, rfl⟩
      have f6 : Fm (fun z => z = b1) h5 h6 := e6 ▸ Fm.put Fm.refl fun _ => rfl
      have g6 : h6.get b1 = some ⟨[.slice oa' (D1.length + 1) c'], .own⟩ := e6 ▸ gput
      have sB1 := fB1.size
      have no5 : ∀ y, At oa' y → hB.size ≤ y := fun y hy => by
        rcases n5 y hy with q | q
        · exact no1 y q
        · omega
      have fB5 : Fm (fun z => z = b1) hB h5 := fB1.trans f5 fun z hz hy => by have := no1 z hy; omega
      simp +contextual (disch := omega) only [↓AM, ↓AV, AP, CQ, g5, spl_S, spl_0, spl_00, e6]
      refine ⟨oa', c', ?_, ?_, no5, fB5.trans f6 fun _ _ x => x⟩
      · rw [List.length_append, List.length_singleton]
      · rw [List.length_append, List.length_singleton, zl_add]
        exact o5.keep w5 f6 fun y hy e => by have : y = b1 := e; have := no5 y hy; omega
end Go.Proofs.YtmkcngcnedjfkaaGreat.Is

/- The order, the program's and the document's. Plain theorems over the abstract machine.
   Conditions: none. -/
namespace Go.Proofs.YtmkcngcnedjfkaaGreat.Is
open Go Go.RowKit Go.Proofs.YtmkcngcnedjfkaaGreat.Am Go.Proofs.YtmkcngcnedjfkaaGreat.Af Go.Proofs.YtmkcngcnedjfkaaGreat.Md Go.Proofs.YtmkcngcnedjfkaaGreat.It
set_option linter.unusedVariables false
set_option linter.unusedSimpArgs false
set_option linter.defProp false
set_option maxRecDepth 20000
set_option maxHeartbeats 4000000

noncomputable def ordr (ls : List Item) (i : Nat) : List Nat := vis ls (rk ls i + 1) i []
theorem c_order {h : Hp} {ls : List Item} {oa : Option Addr} {c i : Nat} (r : RL h oa ls) (ok : Okn ls) (hno : ∀ i, i < ls.length → ¬ Rch ls i i) (hz : SL ls) (hn : ls.length ≤ 1000) (hi : i < ls.length) :
    ACalls Tryz.prog 64 [.slice oa ls.length c, .int .i64 (i : Int)] h fun v h' => (∃ oq cq, v = .slice oq (ordr ls i).length cq ∧ Rd h' 1 oq (ordr ls i).length (iV (zl (ordr ls i)))) ∧ Fm No h h' := by
  refine item_order_ok.snd Af.hm rfl fun w => ?_
  rw [WF_eq, item_order]
  obtain ⟨h1, e1⟩ : ∃ g, h.new ⟨[.slice oa ls.length c], .own⟩ = g := ⟨_, rfl⟩
  have w1 : Wf h1 := e1 ▸ w.new
  have f1 : Fm No h h1 := e1 ▸ Fm.new Fm.refl
  have g1 : h1.get h.size = some ⟨[.slice oa ls.length c], .own⟩ := e1 ▸ gnew
  have s1 : h1.size = h.size + 1 := by rw [← e1]; rfl
  obtain ⟨h2, e2⟩ : ∃ g, h1.new ⟨[.slice none 0 0], .own⟩ = g := ⟨_, rfl⟩
  have w2 : Wf h2 := e2 ▸ w1.new
  have f2 : Fm No h1 h2 := e2 ▸ Fm.new Fm.refl
  have g2 : h2.get h1.size = some ⟨[.slice none 0 0], .own⟩ := e2 ▸ gnew
  have s2 : h2.size = h1.size + 1 := by rw [← e2]; rfl
  obtain ⟨h3, e3⟩ : ∃ g, h2.new ⟨[.nilFunc], .own⟩ = g := ⟨_, rfl⟩
  have w3 : Wf h3 := e3 ▸ w2.new
  have f3 : Fm No h2 h3 := e3 ▸ Fm.new Fm.refl
  have g3 : h3.get h2.size = some ⟨[.nilFunc], .own⟩ := e3 ▸ gnew
  have s3 : h3.size = h2.size + 1 := by rw [← e3]; rfl
  obtain ⟨h4, e4⟩ : ∃ g, h3.put h2.size ⟨[.func (.func 116) #[] #[.pointer (some ⟨h1.size, 0, none⟩), .pointer (some ⟨h.size, 0, none⟩), .pointer (some ⟨h2.size, 0, none⟩)]], .own⟩ = g := ⟨_, rfl⟩
  have w4 : Wf h4 := e4 ▸ w3.put (w3.lt g3)
  have f4 : Fm (fun z => z = h2.size) h3 h4 := e4 ▸ Fm.put Fm.refl fun _ => rfl
  have g4 : h4.get h2.size = some ⟨[.func (.func 116) #[] #[.pointer (some ⟨h1.size, 0, none⟩), .pointer (some ⟨h.size, 0, none⟩), .pointer (some ⟨h2.size, 0, none⟩)]], .own⟩ := e4 ▸ gput
  have s4 : h4.size = h3.size := by rw [← e4]; rfl
  have k1 : h4.get h.size = some ⟨[.slice oa ls.length c], .own⟩ := f4.keep w3 (f3.keep w2 (f2.keep w1 g1 (fun f => f)) (fun f => f)) (fun e => by have : h.size = h2.size := e; omega)
  have k2 : h4.get h1.size = some ⟨[.slice none 0 0], .own⟩ := f4.keep w3 (f3.keep w2 g2 (fun f => f)) (fun e => by have : h1.size = h2.size := e; omega)
  have f04 : Fm No h h4 := ((f1.trans f2 fun _ _ x => x).trans f3 fun _ _ x => x).trans f4 fun z hz e => by have : z = h2.size := e; omega
  have fr : ∀ g, Fm (fun z => z = h1.size) h4 g → Fm No h g := fun g fg => f04.trans fg fun z hz e => by have : z = h1.size := e; omega
  have es : okStore (.func (.func 116) #[] #[.pointer (some ⟨h1.size, 0, none⟩), .pointer (some ⟨h.size, 0, none⟩), .pointer (some ⟨h2.size, 0, none⟩)] : Value) = true := rfl
  have ec : cellsOf (.func (.func 116) #[] #[.pointer (some ⟨h1.size, 0, none⟩), .pointer (some ⟨h.size, 0, none⟩), .pointer (some ⟨h2.size, 0, none⟩)] : Value) = [(.func (.func 116) #[] #[.pointer (some ⟨h1.size, 0, none⟩), .pointer (some ⟨h.size, 0, none⟩), .pointer (some ⟨h2.size, 0, none⟩)] : Value)] := rfl
  have el : lenIs [(.func (.func 116) #[] #[.pointer (some ⟨h1.size, 0, none⟩), .pointer (some ⟨h.size, 0, none⟩), .pointer (some ⟨h2.size, 0, none⟩)] : Value)] 1 = true := rfl
  have esp : spl [Value.nilFunc] 0 [(.func (.func 116) #[] #[.pointer (some ⟨h1.size, 0, none⟩), .pointer (some ⟨h.size, 0, none⟩), .pointer (some ⟨h2.size, 0, none⟩)] : Value)] = [(.func (.func 116) #[] #[.pointer (some ⟨h1.size, 0, none⟩), .pointer (some ⟨h.size, 0, none⟩), .pointer (some ⟨h2.size, 0, none⟩)] : Value)] := rfl
  simp +contextual (disch := omega) only [↓AM, ↓AV, AP, CQ, es, ec, el, esp, List.getElem?_cons_zero, e1, e2, e3, g3, e4, rd_mk g4]
  refine ⟨by kernel_rfl, (c_owalk (c := c) (b2 := h.size) w r w4 fr (by omega) k1 g4 (by omega) (by omega) ok hno hz hn (rk ls i + 1) i [] none 0 h4 (by omega) hi (Fits.nil _) Fm.refl k2 Ow.mk0 (fun y hy => absurd hy At.none)).use ?_⟩
  rintro v5 h5 w5 ⟨oq, cq, g5, ow, no, f5⟩
  simp +contextual (disch := omega) only [↓AM, ↓AV, AP, CQ, e1, e2, e3, e4, rd_mk g5]
  exact ⟨⟨oq, cq, rfl, ow.rd⟩, fr h5 f5⟩
end Go.Proofs.YtmkcngcnedjfkaaGreat.Is

/- The document's order. Plain theorems over the abstract machine.
   Conditions: none. -/
namespace Go.Proofs.YtmkcngcnedjfkaaGreat.Is
open Go Go.RowKit Go.Proofs.YtmkcngcnedjfkaaGreat.Am Go.Proofs.YtmkcngcnedjfkaaGreat.Af Go.Proofs.YtmkcngcnedjfkaaGreat.Md Go.Proofs.YtmkcngcnedjfkaaGreat.It
set_option linter.unusedVariables false
set_option linter.unusedSimpArgs false
set_option linter.defProp false
set_option maxRecDepth 20000
set_option maxHeartbeats 4000000

theorem c_visit {ls : List Item} {oa : Option Addr} {c : Nat} (ok : Okn ls) (hno : ∀ i, i < ls.length → ¬ Rch ls i i) (hz : SL ls) (hn : ls.length ≤ 1000) :
    ∀ (μ k : Nat) (D : List Nat) (oq : Option Addr) (cq : Nat) (h : Hp), rk ls k < μ → k < ls.length → Fits ls.length D → RL h oa ls → Rd h 1 oq D.length (iV (zl D)) →
      ACalls Tryz.prog 118 [.slice oa ls.length c, .int .i64 (k : Int), .slice oq D.length cq] h fun v h' =>
        (∃ oq' cq', v = .slice oq' (vis ls μ k D).length cq' ∧ Rd h' 1 oq' (vis ls μ k D).length (iV (zl (vis ls μ k D)))) ∧ Fm No h h' := by
  intro μ
  induction μ with
  | zero => intro k D oq cq h hu; omega
  | succ μ ih =>
    intro k D oq cq h hu hk hD r rd
    refine dioramaref15_visit_ok.snd Af.hm rfl fun w => ?_
    rw [WF_eq, dioramaref15_visit]
    have hlD := hD.len
    have has : ∀ (g : Hp) (E : List Nat) (o : Option Addr) (cc : Nat), E.length ≤ 1000 → Rd g 1 o E.length (iV (zl E)) → ACalls Tryz.prog 159 [.slice o E.length cc, .int .i64 (k : Int)] g fun v h' => (∃ m : Int, v = .int .i64 m ∧ (0 ≤ m ↔ k ∈ E)) ∧ h' = g := fun g E o cc hE hr => by
      have := c_HasInt (h := g) (a := o) (c := cc) (L := zl E) (x := (k : Int)) (by rw [zl_len]; exact hr) (by rw [zl_len]; omega)
      rw [zl_len] at this
      simpa only [zl_mem] using this
    simp +contextual (disch := omega) only [↓AM, ↓AV, AP, CQ]
    refine (has h D oq cq (by omega) rd).use ?_
    rintro _ h9 _ ⟨⟨m, rfl, hm⟩, e9⟩
    subst h9
    by_cases hkD : k ∈ D
    · have hv : vis ls (μ + 1) k D = D := by unfold vis; rw [if_pos hkD]
      have hm0 := hm.2 hkD
      simp +contextual (disch := omega) only [↓AM, ↓AV, AP, CQ, ge_iff_le, hm0]
      rw [hv]
      exact ⟨⟨oq, cq, rfl, rd⟩, Fm.refl⟩
    have hm0 : ¬ 0 ≤ m := fun q => hkD (hm.1 q)
    obtain ⟨b, off, sp, p, x, rfl, fo, hx, hr, ri⟩ := r.at hk
    have hxm := List.mem_of_getElem? hx
    have hsx := (hz.2 x hxm).of
    have bw := rdN_wf w hr
    have r3 : ∀ g, Fm No h g → g.rd b (off + k * 12 + 3) = some (.slice p.oa x.of.length p.oc) := fun g fg => by
      refine rdN_get (i := 3) ?_ (v := .slice p.oa x.of.length p.oc) rfl (h := g) (cs := itC x p) (m := 12)
      rw [rdN_keep (fg.get _ bw (fun f => f))]
      exact hr
    have rof : ∀ g, Fm No h g → Rd g 1 p.oa x.of.length (iV x.of) := fun g fg => ri.of.keep w fg (fun _ _ f => f)
    have hofs : ofs ls k = x.of.map fun id => (fI ls id).toNat := by unfold ofs; rw [hx]
    have hxl : (ofs ls k).length = x.of.length := by rw [hofs, List.length_map]
    have hlt : ∀ n ∈ ofs ls k, n < ls.length := fun n hn => nx_lt (ofs_nx ok hn)
    simp +contextual (disch := omega) only [↓AM, ↓AV, AP, CQ, ge_iff_le, hm0]
    refine WL.mk (fun m t h' => ∃ (j : Nat) (D1 : List Nat) (oq1 : Option Addr) (cq1 : Nat), Wf h' ∧ Fm No h h' ∧ D1 = ((ofs ls k).take j).foldl (fun D n => vis ls μ n D) D ∧ Rd h' 1 oq1 D1.length (iV (zl D1)) ∧ j ≤ x.of.length ∧ m = x.of.length - j ∧
        t = [(0, some (.slice (some ⟨b, off, sp⟩) ls.length c)), (1, some (.int .i64 (k : Int))), (2, some (.slice oq1 D1.length cq1)), (7, some (.int .i64 (j : Int)))])
      ⟨x.of.length, 0, D, oq, cq, w, Fm.refl, rfl, rd, by omega, rfl, rfl⟩ ?_
    rintro m t h1 ⟨j, D1, oq1, cq1, w1, f1, hD1, rd1, hj, rfl, rfl⟩
    have fit1 : Fits ls.length D1 := hD1 ▸ fold_fits ok hno _ D (fun n hn => hlt n (List.mem_of_mem_take hn)) hD
    have hl1 := fit1.len
    have r31 := r3 h1 f1
    by_cases hjn : j < x.of.length
    · obtain ⟨b4, o4, s4, e4, f4, id, hid, r4⟩ := Rd.int (rof h1 f1) hjn
      have hidm := List.mem_of_getElem? hid
      obtain ⟨N, hN, hNl⟩ := ok.nat hxm hidm
      have hNj : (ofs ls k)[j]? = some N := by rw [hofs, List.getElem?_map, hid, Option.map_some, hN]; rfl
      have hNx : nx ls k N := ⟨x, hx, id, hidm, hN⟩
      rw [e4] at r31
      simp +contextual (disch := omega) only [↓AM, ↓AV, AP, CQ, hjn, hk, fo, r31, f4, r4]
      refine (c_rfind (c := c) (r.keep w f1) hz.1).use ?_
      rintro _ h9 _ ⟨rfl, e9⟩
      subst h9
      have hrk := rk_lt hno hNl hNx
      simp +contextual (disch := omega) only [↓AM, ↓AV, AP, CQ, hN]
      refine (ih N D1 oq1 cq1 h1 (by omega) hNl fit1 (r.keep w f1) rd1).use ?_
      rintro _ h3 w3 ⟨⟨oq2, cq2, rfl, rd3⟩, f3⟩
      simp +contextual (disch := omega) only [↓AM, ↓AV, AP, CQ, i64]
      have hD2 : vis ls μ N D1 = ((ofs ls k).take (j + 1)).foldl (fun D n => vis ls μ n D) D := by
        rw [List.take_add_one, hNj, List.foldl_append, ← hD1]; rfl
      exact ⟨x.of.length - (j + 1), by omega, j + 1, vis ls μ N D1, oq2, cq2, w3, f1.trans f3 fun _ _ x => x, hD2, rd3, by omega, rfl, rfl⟩
    · have hje : j = x.of.length := by omega
      subst hje
      rw [← hxl, List.take_length] at hD1
      have hkn : k ∉ D1 := hD1 ▸ vis_new ok (hno k hk) hkD fun n hn => ofs_nx ok hn
      have hv : vis ls (μ + 1) k D = D1 ++ [k] := by unfold vis; rw [if_neg hkD, hD1]
      rw [hv]
      simp +contextual (disch := omega) only [↓AM, ↓AV, AP, CQ, hjn, hk, fo, r31]
      refine (has h1 D1 oq1 cq1 (by omega) rd1).use ?_
      rintro _ h9 _ ⟨⟨m2, rfl, hm2⟩, e9⟩
      subst h9
      have hm20 : ¬ 0 ≤ m2 := fun q => hkn (hm2.1 q)
      simp +contextual (disch := omega) only [↓AM, ↓AV, AP, CQ, ge_iff_le, hm20]
      have cc := c_CopyInts (h := h1) (a := oq1) (c := cq1) (L := zl D1) (by rw [zl_len]; exact rd1) (by rw [zl_len]; omega)
      rw [zl_len] at cc
      refine cc.use ?_
      rintro _ h5 w5 ⟨o5, c5, rfl, ow5, nw5, f5⟩
      simp +contextual (disch := omega) only [↓AM, ↓AV, AP, CQ]
      refine ow5.push (bytes := 8) (m := 1) (xs := [.int .i64 (k : Int)]) w5 rfl (by omega) fun oa' c' h6 o6 w6 f6 n6 => ?_
      have f16 : Fm No h h6 := (f1.trans f5 fun _ _ x => x).trans f6 fun z hz hy => by have := nw5 z hy; have := f1.size; omega
      simp +contextual (disch := omega) only [↓AM, ↓AV, AP, CQ]
      refine ⟨⟨oa', c', ?_, ?_⟩, f16⟩
      · rw [List.length_append, List.length_singleton]
      · rw [List.length_append, List.length_singleton, zl_add]
        exact o6.rd
end Go.Proofs.YtmkcngcnedjfkaaGreat.Is
