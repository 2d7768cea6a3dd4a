/- Over, the program's and the document's. Plain theorems over the abstract machine.
   Conditions: none. -/
import Derived.Test.YtmkcngcnedjfkaaGreatBun3
namespace Go.Proofs.YtmkcngcnedjfkaaGreat.It
open Go Go.RowKit Go.Proofs.YtmkcngcnedjfkaaGreat.Am Go.Proofs.YtmkcngcnedjfkaaGreat.Af Go.Proofs.YtmkcngcnedjfkaaGreat.Md
set_option linter.unusedVariables false
set_option linter.unusedSimpArgs false
set_option linter.defProp false
set_option maxRecDepth 20000
set_option maxHeartbeats 2000000

/-- The error of Over. -/
def overE (cv m : Im) (x y : Int) : Int := if pchk cv = 0 then (if pchk m = 0 then (if (-64 ≤ x ∧ x ≤ 64) ∧ -64 ≤ y ∧ y ≤ 64 then (if cv.bt = m.bt ∧ cv.pl.length = m.pl.length then 0 else 151) else 1) else pchk m) else pchk cv
def overR (cv m : Im) (x y : Int) : Im := if overE cv m x y = 0 then drI cv m x y else zIm
theorem overR_ne {cv m : Im} {x y : Int} (h : overE cv m x y ≠ 0) : overR cv m x y = zIm := if_neg h
theorem overR_0 {cv m : Im} {x y : Int} (h : overE cv m x y = 0) : overR cv m x y = drI cv m x y := if_pos h
theorem overE_1 {cv m : Im} {x y : Int} (h : ¬ pchk cv = 0) : overE cv m x y = pchk cv := if_neg h
theorem overE_2 {cv m : Im} {x y : Int} (h : pchk cv = 0) (h2 : ¬ pchk m = 0) : overE cv m x y = pchk m := by unfold overE; rw [if_pos h, if_neg h2]
theorem overE_3 {cv m : Im} {x y : Int} (h : pchk cv = 0) (h2 : pchk m = 0) (h3 : ¬ ((-64 ≤ x ∧ x ≤ 64) ∧ -64 ≤ y ∧ y ≤ 64)) : overE cv m x y = 1 := by unfold overE; rw [if_pos h, if_pos h2, if_neg h3]
theorem overE_4 {cv m : Im} {x y : Int} (h : pchk cv = 0) (h2 : pchk m = 0) (h3 : (-64 ≤ x ∧ x ≤ 64) ∧ -64 ≤ y ∧ y ≤ 64) (h4 : ¬ (cv.bt = m.bt ∧ cv.pl.length = m.pl.length)) : overE cv m x y = 151 := by unfold overE; rw [if_pos h, if_pos h2, if_pos h3, if_neg h4]
theorem overE_5 {cv m : Im} {x y : Int} (h : pchk cv = 0) (h2 : pchk m = 0) (h3 : (-64 ≤ x ∧ x ≤ 64) ∧ -64 ≤ y ∧ y ≤ 64) (h4 : cv.bt = m.bt ∧ cv.pl.length = m.pl.length) : overE cv m x y = 0 := by unfold overE; rw [if_pos h, if_pos h2, if_pos h3, if_pos h4]

theorem c_Over {h : Hp} {cv m : Im} {oa ob : Option Addr} {c d : Nat} {x y : Int} (r : R2 h oa cv.pl) (rm : R2 h ob m.pl) (hc : cv.pl.length ≤ c) (hz : Sz cv.pl) (hzm : Sz m.pl) :
    ACalls Tryz.prog 25 [.agg (imC cv oa c).toArray, .agg (imC m ob d).toArray, .int .i64 x, .int .i64 y] h fun v h' => (∃ u, v = .tuple #[u, .int .i64 (overE cv m x y)] ∧ OI h h' u (overR cv m x y)) ∧ Fm No h h' := by
  refine item_Over_ok.snd Af.hm rfl fun wf => ?_
  rw [WF_eq, item_Over]
  obtain ⟨ha, ea⟩ : ∃ g, h.new ⟨[.int .i64 cv.wd, .int .i64 cv.hg, .int .i64 cv.bt, .slice oa cv.pl.length c], .own⟩ = g := ⟨_, rfl⟩
  have wa : Wf ha := ea ▸ wf.new
  have fa : Fm No h ha := ea ▸ Fm.new Fm.refl
  have ga : ha.get h.size = some ⟨[.int .i64 cv.wd, .int .i64 cv.hg, .int .i64 cv.bt, .slice oa cv.pl.length c], .own⟩ := ea ▸ gnew
  have sa : ha.size = h.size + 1 := by rw [← ea]; rfl
  obtain ⟨hb, eb⟩ : ∃ g, ha.new ⟨[.int .i64 m.wd, .int .i64 m.hg, .int .i64 m.bt, .slice ob m.pl.length d], .own⟩ = g := ⟨_, rfl⟩
  have wb : Wf hb := eb ▸ wa.new
  have fb : Fm No ha hb := eb ▸ Fm.new Fm.refl
  have gb : hb.get ha.size = some ⟨[.int .i64 m.wd, .int .i64 m.hg, .int .i64 m.bt, .slice ob m.pl.length d], .own⟩ := eb ▸ gnew
  have gab := fb.keep wa ga (fun f => f)
  have sb : hb.size = ha.size + 1 := by rw [← eb]; rfl
  obtain ⟨hc0, ec⟩ : ∃ g, hb.new ⟨[.int .i64 0, .int .i64 0, .int .i64 0, .slice none 0 0], .own⟩ = g := ⟨_, rfl⟩
  have wc : Wf hc0 := ec ▸ wb.new
  have fc : Fm No hb hc0 := ec ▸ Fm.new Fm.refl
  have gc : hc0.get hb.size = some ⟨[.int .i64 0, .int .i64 0, .int .i64 0, .slice none 0 0], .own⟩ := ec ▸ gnew
  have gac := fc.keep wb gab (fun f => f)
  have gbc := fc.keep wb gb (fun f => f)
  have sc : hc0.size = hb.size + 1 := by rw [← ec]; rfl
  have fac : Fm No h hc0 := (fa.trans fb fun _ _ x => x).trans fc fun _ _ x => x
  have n4 : ∀ g, Fm No hc0 g → g.rdN h.size 0 4 = some [.int .i64 cv.wd, .int .i64 cv.hg, .int .i64 cv.bt, .slice oa cv.pl.length c] := fun g fg => rdN_mk (fg.keep wc gac (fun f => f)) (by simp)
  have n5 : ∀ g, Fm No hc0 g → g.rdN ha.size 0 4 = some [.int .i64 m.wd, .int .i64 m.hg, .int .i64 m.bt, .slice ob m.pl.length d] := fun g fg => rdN_mk (fg.keep wc gbc (fun f => f)) (by simp)
  have put : ∀ (g : Hp) (x : List Value), Wf g → Fm No h g → g.get hb.size = some ⟨[.int .i64 0, .int .i64 0, .int .i64 0, .slice none 0 0], .own⟩ → x.length = 4 → ∃ g', g.put hb.size ⟨x, .own⟩ = g' ∧ g'.rdN hb.size 0 4 = some x ∧ Fm (fun z => z = hb.size) g g' ∧ Fm No h g' := fun g x wg fg hg hx => by
    have fp : Fm (fun z => z = hb.size) g (g.put hb.size ⟨x, .own⟩) := Fm.put Fm.refl fun _ => rfl
    refine ⟨_, rfl, ?_, fp, fg.trans fp fun z hz hy => by have : z = hb.size := hy; omega⟩
    rw [rdN_mk gput (by simp [hx])]
    simp [← hx]
  simp +contextual (disch := omega) only [↓AM, ↓AV, AP, CQ, imC, ea, eb, ec, n4 hc0 Fm.refl, n5 hc0 Fm.refl]
  refine WL.mk (fun k t h' => ∃ (i : Nat), Wf h' ∧ Fm No hc0 h' ∧ i ≤ 2 ∧ k = 2 - i ∧ (1 ≤ i → pchk cv = 0) ∧ (2 ≤ i → pchk m = 0) ∧
      t = [(2, some (.int .i64 x)), (3, some (.int .i64 y)), (4, some (.pointer (some ⟨h.size, 0, none⟩))), (5, some (.pointer (some ⟨ha.size, 0, none⟩))), (8, some (.pointer (some ⟨hb.size, 0, none⟩))),
        (16, some (.agg #[.int .i64 cv.wd, .int .i64 cv.hg, .int .i64 cv.bt, .slice oa cv.pl.length c, .int .i64 m.wd, .int .i64 m.hg, .int .i64 m.bt, .slice ob m.pl.length d])), (17, some (.int .i64 (i : Int)))])
    ⟨2, 0, wc, Fm.refl, by omega, rfl, by omega, by omega, rfl⟩ ?_
  rintro k t hA ⟨i, wA, fA, hi, rfl, p1, p2, rfl⟩
  have gA8 := fA.keep wc gc (fun f => f)
  have fhA := fac.trans fA fun _ _ x => x
  have hl8 : [Value.int .i64 cv.wd, .int .i64 cv.hg, .int .i64 cv.bt, .slice oa cv.pl.length c, .int .i64 m.wd, .int .i64 m.hg, .int .i64 m.bt, .slice ob m.pl.length d].length = 8 := rfl
  have td0 : List.take 4 (List.drop (0 * 4) [Value.int .i64 cv.wd, .int .i64 cv.hg, .int .i64 cv.bt, .slice oa cv.pl.length c, .int .i64 m.wd, .int .i64 m.hg, .int .i64 m.bt, .slice ob m.pl.length d]) = [.int .i64 cv.wd, .int .i64 cv.hg, .int .i64 cv.bt, .slice oa cv.pl.length c] := rfl
  have td1 : List.take 4 (List.drop 4 [Value.int .i64 cv.wd, .int .i64 cv.hg, .int .i64 cv.bt, .slice oa cv.pl.length c, .int .i64 m.wd, .int .i64 m.hg, .int .i64 m.bt, .slice ob m.pl.length d]) = [.int .i64 m.wd, .int .i64 m.hg, .int .i64 m.bt, .slice ob m.pl.length d] := rfl
  have k00 : ((0 : Nat) : Int) < 2 := by decide
  have k01 : ((1 : Nat) : Int) < 2 := by decide
  have k02 : ¬ ((2 : Nat) : Int) < 2 := by decide
  have k03 : 0 * 4 + 4 ≤ 8 := by decide
  have k04 : 4 + 4 ≤ 8 := by decide
  have k05 : 0 < 2 := by decide
  have k06 : 1 < 2 := by decide
  have hi3 : i = 0 ∨ i = 1 ∨ i = 2 := by omega
  rcases hi3 with rfl | rfl | rfl
  · obtain ⟨h1, e1⟩ : ∃ g, hA.new ⟨[.int .i64 cv.wd, .int .i64 cv.hg, .int .i64 cv.bt, .slice oa cv.pl.length c], .own⟩ = g := ⟨_, rfl⟩
    have w1 : Wf h1 := e1 ▸ wA.new
    have f1 : Fm No hA h1 := e1 ▸ Fm.new Fm.refl
    have g1 : h1.rdN hA.size 0 4 = some [.int .i64 cv.wd, .int .i64 cv.hg, .int .i64 cv.bt, .slice oa cv.pl.length c] := rdN_mk (e1 ▸ gnew) (by simp)
    simp +contextual (disch := omega) only [↓AM, ↓AV, AP, CQ, imC, ea, eb, ec, e1, g1, hl8, td0, td1, k00, k01, k03, k04, k05, k06]
    refine (c_pcheck ((r.keep wf fhA).keep wA f1) hz).use ?_
    rintro _ h2 w2 ⟨rfl, f2⟩
    have fA2 : Fm No hA h2 := f1.trans f2 fun _ _ x => x
    by_cases hp : pchk cv = 0
    · simp +contextual (disch := omega) only [↓AM, ↓AV, AP, CQ, EqI, hp, ea, eb, ec, e1]
      exact ⟨1, by omega, 1, w2, fA.trans fA2 fun _ _ x => x, by omega, rfl, fun _ => trivial, by omega, rfl⟩
    · obtain ⟨g', k1, k2, k3, k4⟩ := put h2 [.int .i64 0, .int .i64 0, .int .i64 0, .slice none 0 0] w2 (fhA.trans fA2 fun _ _ x => x) (fA2.keep wA gA8 (fun f => f)) rfl
      have g82 := fA2.keep wA gA8 (fun f => f)
      simp +contextual (disch := omega) only [↓AM, ↓AV, AP, CQ, EqI, hp, ea, eb, ec, e1, g82, spl_S, spl_0, spl_00, k1, k2]
      have he := overE_1 (m := m) (x := x) (y := y) hp
      exact ⟨⟨_, by rw [he], by rw [overR_ne (by rw [he]; exact hp)]; exact oi_zero⟩, k4⟩
  · obtain ⟨h1, e1⟩ : ∃ g, hA.new ⟨[.int .i64 m.wd, .int .i64 m.hg, .int .i64 m.bt, .slice ob m.pl.length d], .own⟩ = g := ⟨_, rfl⟩
    have w1 : Wf h1 := e1 ▸ wA.new
    have f1 : Fm No hA h1 := e1 ▸ Fm.new Fm.refl
    have g1 : h1.rdN hA.size 0 4 = some [.int .i64 m.wd, .int .i64 m.hg, .int .i64 m.bt, .slice ob m.pl.length d] := rdN_mk (e1 ▸ gnew) (by simp)
    simp +contextual (disch := omega) only [↓AM, ↓AV, AP, CQ, imC, ea, eb, ec, e1, g1, hl8, td0, td1, k00, k01, k03, k04, k05, k06]
    refine (c_pcheck ((rm.keep wf fhA).keep wA f1) hzm).use ?_
    rintro _ h2 w2 ⟨rfl, f2⟩
    have fA2 : Fm No hA h2 := f1.trans f2 fun _ _ x => x
    by_cases hp : pchk m = 0
    · simp +contextual (disch := omega) only [↓AM, ↓AV, AP, CQ, EqI, hp, ea, eb, ec, e1]
      exact ⟨0, by omega, 2, w2, fA.trans fA2 fun _ _ x => x, by omega, rfl, fun _ => p1 (Nat.le_refl _), fun _ => trivial, rfl⟩
    · obtain ⟨g', k1, k2, k3, k4⟩ := put h2 [.int .i64 0, .int .i64 0, .int .i64 0, .slice none 0 0] w2 (fhA.trans fA2 fun _ _ x => x) (fA2.keep wA gA8 (fun f => f)) rfl
      have g82 := fA2.keep wA gA8 (fun f => f)
      simp +contextual (disch := omega) only [↓AM, ↓AV, AP, CQ, EqI, hp, ea, eb, ec, e1, g82, spl_S, spl_0, spl_00, k1, k2]
      have he := overE_2 (x := x) (y := y) (p1 (Nat.le_refl _)) hp
      exact ⟨⟨_, by rw [he], by rw [overR_ne (by rw [he]; exact hp)]; exact oi_zero⟩, k4⟩
  · have q1 := p1 (by omega)
    have q2 := p2 (by omega)
    have zer := put hA [.int .i64 0, .int .i64 0, .int .i64 0, .slice none 0 0] wA fhA gA8 rfl
    obtain ⟨g', k1, k2, k3, k4⟩ := zer
    simp +contextual (disch := omega) only [↓AM, ↓AV, AP, CQ, ea, eb, ec, k02]
    refine c_iw.use ?_
    rintro _ h9 _ ⟨rfl, e9⟩
    subst h9
    by_cases c1 : -64 ≤ x ∧ x ≤ 64
    case neg =>
      simp +contextual (disch := omega) only [↓AM, ↓AV, AP, CQ, ea, eb, ec, c1, gA8, spl_S, spl_0, spl_00, k1, k2]
      have he := overE_3 q1 q2 (x := x) (y := y) (fun z => c1 z.1)
      exact ⟨⟨_, by rw [he], by rw [overR_ne (by rw [he]; decide)]; exact oi_zero⟩, k4⟩
    simp +contextual (disch := omega) only [↓AM, ↓AV, AP, CQ, ea, eb, ec, c1]
    refine c_iw.use ?_
    rintro _ h9 _ ⟨rfl, e9⟩
    subst h9
    by_cases c2 : -64 ≤ y ∧ y ≤ 64
    case neg =>
      simp +contextual (disch := omega) only [↓AM, ↓AV, AP, CQ, ea, eb, ec, c1, c2, gA8, spl_S, spl_0, spl_00, k1, k2]
      have he := overE_3 q1 q2 (x := x) (y := y) (fun z => c2 z.2)
      exact ⟨⟨_, by rw [he], by rw [overR_ne (by rw [he]; decide)]; exact oi_zero⟩, k4⟩
    have gA4 := fA.keep wc gac (fun f => f)
    have gA5 := fA.keep wc gbc (fun f => f)
    by_cases c3 : cv.bt = m.bt
    case neg =>
      simp +contextual (disch := omega) only [↓AM, ↓AV, AP, CQ, EqI, ea, eb, ec, c1, c2, c3, rd_mk gA4, rd_mk gA5, gA8, spl_S, spl_0, spl_00, k1, k2]
      have he := overE_4 q1 q2 ⟨c1, c2⟩ (fun z => c3 z.1)
      exact ⟨⟨_, by rw [he], by rw [overR_ne (by rw [he]; decide)]; exact oi_zero⟩, k4⟩
    by_cases c4 : cv.pl.length = m.pl.length
    case neg =>
      have c4' : ¬ ((cv.pl.length : Int) = (m.pl.length : Int)) := by omega
      simp +contextual (disch := omega) only [↓AM, ↓AV, AP, CQ, EqI, ea, eb, ec, c1, c2, c3, c4, c4', rd_mk gA4, rd_mk gA5, gA8, spl_S, spl_0, spl_00, k1, k2]
      have he := overE_4 q1 q2 ⟨c1, c2⟩ (fun z => c4 z.2)
      exact ⟨⟨_, by rw [he], by rw [overR_ne (by rw [he]; decide)]; exact oi_zero⟩, k4⟩
    have he := overE_5 q1 q2 ⟨c1, c2⟩ ⟨c3, c4⟩
    have gcv := (pchk_good.1 q1)
    have gm := (pchk_good.1 q2)
    have c4' : ((cv.pl.length : Int) = (m.pl.length : Int)) = True := eq_true (by omega)
    have c3' : (cv.bt = m.bt) = True := eq_true c3
    simp +contextual (disch := omega) only [↓AM, ↓AV, AP, CQ, EqI, ea, eb, ec, c1, c2, c3', c4', n4 hA fA, rd_mk gA4, rd_mk gA5]
    -- the clone
    refine (c_clone (r.keep wf fhA) hc gcv.sm).use ?_
    rintro _ h1 w1 ⟨⟨oa1, c1', bs, rfl, o1, lc1⟩, f1⟩
    have fA1 := fA.trans f1 fun _ _ x => x
    have fh1 := fhA.trans f1 fun _ _ x => x
    obtain ⟨h2, e2⟩ : ∃ g, h1.new ⟨imC cv oa1 c1', .own⟩ = g := ⟨_, rfl⟩
    have w2 : Wf h2 := e2 ▸ w1.new
    have f2 : Fm No h1 h2 := e2 ▸ Fm.new Fm.refl
    have g2 : h2.get h1.size = some ⟨imC cv oa1 c1', .own⟩ := e2 ▸ gnew
    have s2 : h2.size = h1.size + 1 := by rw [← e2]; rfl
    have fA2 := fA1.trans f2 fun _ _ x => x
    have fh2 := fh1.trans f2 fun _ _ x => x
    have inlt := o1.inlt w1
    have n2 : h2.rdN h1.size 0 4 = some (imC cv oa1 c1') := rdN_mk g2 (by simp [imC])
    have e2' := e2
    simp only [imC] at e2' n2
    have sA := fA.size
    have s1 := f1.size
    have keepB : ∀ g, Fm (InB bs) h2 g → R2 g ob m.pl ∧ g.get h1.size = some ⟨imC cv oa1 c1', .own⟩ ∧ g.get hb.size = some ⟨[.int .i64 0, .int .i64 0, .int .i64 0, .slice none 0 0], .own⟩ ∧ Fm No h g := fun g fg => by
      have f' : Fm (InB bs) h g := (fh2.mono fun _ _ f => f.elim).trans fg fun _ _ x => x
      have sh : h.size ≤ hc0.size := fac.size
      have hno : ∀ z, z < hA.size → ¬ InB bs z := fun z hz f => by have := (inlt _ f).1; omega
      refine ⟨rm.keepW wf f' fun z hz => hno z (by omega), fg.keep w2 g2 fun f => ?_, fg.keep w2 (fA2.keep wc gc (fun f => f)) (hno _ (by omega)), fh2.trans fg fun z hz f => (hno z (by omega) f).elim⟩
      have := (inlt _ f).2
      omega
    simp +contextual (disch := omega) only [↓AM, ↓AV, AP, CQ, imC, ea, eb, ec, e2', n2, n5 h2 fA2]
    refine (c_put (o1.keepN w1 f2) gcv.fit gm.fit c4.symm (by omega) (by omega) fun g fg => (keepB g fg).1).use ?_
    rintro _ h3 w3 ⟨o3, f3⟩
    obtain ⟨_, g3, g38, f03⟩ := keepB h3 f3
    have n3 : h3.rdN h1.size 0 4 = some (imC cv oa1 c1') := rdN_mk g3 (by simp [imC])
    simp only [imC] at n3
    obtain ⟨g', k1, k2, k3, k4⟩ := put h3 [.int .i64 cv.wd, .int .i64 cv.hg, .int .i64 cv.bt, .slice oa1 cv.pl.length c1'] w3 f03 g38 rfl
    simp +contextual (disch := omega) only [↓AM, ↓AV, AP, CQ, imC, ea, eb, ec, e2', n3, g38, spl_S, spl_0, spl_00, k1, k2]
    refine ⟨⟨_, by rw [he], ?_⟩, k4⟩
    rw [overR_0 he]
    refine ⟨oa1, c1', bs, ?_, (o3.keepB w3 k3 fun z hz => by have : z = hb.size := hz; omega).older (by have := fhA.size; omega), by rw [drI_len]; exact lc1⟩
    simp [imC, Im.wd, Im.hg, Im.bt, Im.pl, drI, drA, stD_len]
theorem c_rOver {h : Hp} {cv m : Im} {oa ob : Option Addr} {c d : Nat} {x y : Int} (r : R2 h oa cv.pl) (rm : R2 h ob m.pl) (hz : Sz cv.pl) (hzm : Sz m.pl) :
    ACalls Tryz.prog 26 [.agg (imC cv oa c).toArray, .agg (imC m ob d).toArray, .int .i64 x, .int .i64 y] h fun v h' => (∃ u, v = .tuple #[u, .int .i64 (overE cv m x y)] ∧ OI h h' u (overR cv m x y)) ∧ Fm No h h' := by
  refine dioramaref15_Over_ok.snd Af.hm rfl fun wf => ?_
  rw [WF_eq, dioramaref15_Over]
  obtain ⟨ha, ea⟩ : ∃ g, h.new ⟨[.int .i64 cv.wd, .int .i64 cv.hg, .int .i64 cv.bt, .slice oa cv.pl.length c], .own⟩ = g := ⟨_, rfl⟩
  have wa : Wf ha := ea ▸ wf.new
  have fa : Fm No h ha := ea ▸ Fm.new Fm.refl
  have ga : ha.get h.size = some ⟨[.int .i64 cv.wd, .int .i64 cv.hg, .int .i64 cv.bt, .slice oa cv.pl.length c], .own⟩ := ea ▸ gnew
  have sa : ha.size = h.size + 1 := by rw [← ea]; rfl
  obtain ⟨hb, eb⟩ : ∃ g, ha.new ⟨[.int .i64 m.wd, .int .i64 m.hg, .int .i64 m.bt, .slice ob m.pl.length d], .own⟩ = g := ⟨_, rfl⟩
  have wb : Wf hb := eb ▸ wa.new
  have fb : Fm No ha hb := eb ▸ Fm.new Fm.refl
  have gb : hb.get ha.size = some ⟨[.int .i64 m.wd, .int .i64 m.hg, .int .i64 m.bt, .slice ob m.pl.length d], .own⟩ := eb ▸ gnew
  have gab := fb.keep wa ga (fun f => f)
  have sb : hb.size = ha.size + 1 := by rw [← eb]; rfl
  obtain ⟨hc0, ec⟩ : ∃ g, hb.new ⟨[.int .i64 0, .int .i64 0, .int .i64 0, .slice none 0 0], .own⟩ = g := ⟨_, rfl⟩
  have wc : Wf hc0 := ec ▸ wb.new
  have fc : Fm No hb hc0 := ec ▸ Fm.new Fm.refl
  have gc : hc0.get hb.size = some ⟨[.int .i64 0, .int .i64 0, .int .i64 0, .slice none 0 0], .own⟩ := ec ▸ gnew
  have gac := fc.keep wb gab (fun f => f)
  have gbc := fc.keep wb gb (fun f => f)
  have sc : hc0.size = hb.size + 1 := by rw [← ec]; rfl
  have fac : Fm No h hc0 := (fa.trans fb fun _ _ x => x).trans fc fun _ _ x => x
  have n4 : ∀ g, Fm No hc0 g → g.rdN h.size 0 4 = some [.int .i64 cv.wd, .int .i64 cv.hg, .int .i64 cv.bt, .slice oa cv.pl.length c] := fun g fg => rdN_mk (fg.keep wc gac (fun f => f)) (by simp)
  have n5 : ∀ g, Fm No hc0 g → g.rdN ha.size 0 4 = some [.int .i64 m.wd, .int .i64 m.hg, .int .i64 m.bt, .slice ob m.pl.length d] := fun g fg => rdN_mk (fg.keep wc gbc (fun f => f)) (by simp)
  have put : ∀ (g : Hp) (x : List Value), Wf g → Fm No hc0 g → x.length = 4 → ∃ g', g.put hb.size ⟨x, .own⟩ = g' ∧ g.get hb.size = some ⟨[.int .i64 0, .int .i64 0, .int .i64 0, .slice none 0 0], .own⟩ ∧ g'.rdN hb.size 0 4 = some x ∧ Fm (fun z => z = hb.size) g g' ∧ Fm No h g' := fun g x wg fg hx => by
    have fp : Fm (fun z => z = hb.size) g (g.put hb.size ⟨x, .own⟩) := Fm.put Fm.refl fun _ => rfl
    refine ⟨_, rfl, fg.keep wc gc (fun f => f), ?_, fp, (fac.trans fg fun _ _ x => x).trans fp fun z hz hy => by have : z = hb.size := hy; omega⟩
    rw [rdN_mk gput (by simp [hx])]
    simp [← hx]
  simp +contextual (disch := omega) only [↓AM, ↓AV, AP, CQ, imC, ea, eb, ec, n4 hc0 Fm.refl]
  refine (c_rcheck (r.keep wf fac) hz).use ?_
  rintro _ h1 w1 ⟨rfl, f1⟩
  by_cases hp : pchk cv = 0
  case neg =>
    obtain ⟨g', k1, k0, k2, k3, k4⟩ := put h1 [.int .i64 0, .int .i64 0, .int .i64 0, .slice none 0 0] w1 f1 rfl
    simp +contextual (disch := omega) only [↓AM, ↓AV, AP, CQ, EqI, hp, ea, eb, ec, k0, spl_S, spl_0, spl_00, k1, k2]
    have he := overE_1 (m := m) (x := x) (y := y) hp
    exact ⟨⟨_, by rw [he], by rw [overR_ne (by rw [he]; exact hp)]; exact oi_zero⟩, k4⟩
  simp +contextual (disch := omega) only [↓AM, ↓AV, AP, CQ, EqI, hp, ea, eb, ec, n5 h1 f1]
  refine (c_rcheck ((rm.keep wf fac).keep wc f1) hzm).use ?_
  rintro _ h2 w2 ⟨rfl, f2⟩
  have f12 := f1.trans f2 fun _ _ x => x
  obtain ⟨g', k1, k0, k2, k3, k4⟩ := put h2 [.int .i64 0, .int .i64 0, .int .i64 0, .slice none 0 0] w2 f12 rfl
  by_cases hq : pchk m = 0
  case neg =>
    simp +contextual (disch := omega) only [↓AM, ↓AV, AP, CQ, EqI, hq, ea, eb, ec, k0, spl_S, spl_0, spl_00, k1, k2]
    have he := overE_2 (x := x) (y := y) hp hq
    exact ⟨⟨_, by rw [he], by rw [overR_ne (by rw [he]; exact hq)]; exact oi_zero⟩, k4⟩
  simp +contextual (disch := omega) only [↓AM, ↓AV, AP, CQ, EqI, hq, ea, eb, ec]
  refine c_in15.use ?_
  rintro _ h9 _ ⟨rfl, e9⟩
  subst h9
  by_cases c1 : -64 ≤ x ∧ x ≤ 64
  case neg =>
    simp +contextual (disch := omega) only [↓AM, ↓AV, AP, CQ, ea, eb, ec, c1, k0, spl_S, spl_0, spl_00, k1, k2]
    have he := overE_3 hp hq (x := x) (y := y) (fun z => c1 z.1)
    exact ⟨⟨_, by rw [he], by rw [overR_ne (by rw [he]; decide)]; exact oi_zero⟩, k4⟩
  simp +contextual (disch := omega) only [↓AM, ↓AV, AP, CQ, ea, eb, ec, c1]
  refine c_in15.use ?_
  rintro _ h9 _ ⟨rfl, e9⟩
  subst h9
  by_cases c2 : -64 ≤ y ∧ y ≤ 64
  case neg =>
    simp +contextual (disch := omega) only [↓AM, ↓AV, AP, CQ, ea, eb, ec, c1, c2, k0, spl_S, spl_0, spl_00, k1, k2]
    have he := overE_3 hp hq (x := x) (y := y) (fun z => c2 z.2)
    exact ⟨⟨_, by rw [he], by rw [overR_ne (by rw [he]; decide)]; exact oi_zero⟩, k4⟩
  have gA4 := f12.keep wc gac (fun f => f)
  have gA5 := f12.keep wc gbc (fun f => f)
  by_cases c3 : cv.bt = m.bt
  case neg =>
    simp +contextual (disch := omega) only [↓AM, ↓AV, AP, CQ, EqI, ea, eb, ec, c1, c2, c3, rd_mk gA4, rd_mk gA5, k0, spl_S, spl_0, spl_00, k1, k2]
    have he := overE_4 hp hq ⟨c1, c2⟩ (fun z => c3 z.1)
    exact ⟨⟨_, by rw [he], by rw [overR_ne (by rw [he]; decide)]; exact oi_zero⟩, k4⟩
  by_cases c4 : cv.pl.length = m.pl.length
  case neg =>
    have c4' : ¬ ((cv.pl.length : Int) = (m.pl.length : Int)) := by omega
    simp +contextual (disch := omega) only [↓AM, ↓AV, AP, CQ, EqI, ea, eb, ec, c1, c2, c3, c4, c4', rd_mk gA4, rd_mk gA5, k0, spl_S, spl_0, spl_00, k1, k2]
    have he := overE_4 hp hq ⟨c1, c2⟩ (fun z => c4 z.2)
    exact ⟨⟨_, by rw [he], by rw [overR_ne (by rw [he]; decide)]; exact oi_zero⟩, k4⟩
  have he := overE_5 hp hq ⟨c1, c2⟩ ⟨c3, c4⟩
  have gcv := (pchk_good.1 hp)
  have gm := (pchk_good.1 hq)
  have c4' : ((cv.pl.length : Int) = (m.pl.length : Int)) = True := eq_true (by omega)
  have c3' : (cv.bt = m.bt) = True := eq_true c3
  simp +contextual (disch := omega) only [↓AM, ↓AV, AP, CQ, EqI, ea, eb, ec, c1, c2, c3', c4', n4 h2 f12, n5 h2 f12, rd_mk gA4, rd_mk gA5]
  have fh2 := fac.trans f12 fun _ _ x => x
  refine (c_drawn (x := x) (y := y) (r.keep wf fh2) (rm.keep wf fh2) gcv.fit gm.fit c4.symm (by omega) (by omega)).use ?_
  rintro _ h3 w3 ⟨oi, f3⟩
  obtain ⟨oc, cc, bsc, rfl, o3, l3⟩ := oi
  obtain ⟨g'', j1, j0, j2, j3, j4⟩ := put h3 (imC (drI cv m x y) oc cc) w3 (f12.trans f3 fun _ _ x => x) rfl
  simp only [imC] at j1 j2
  simp +contextual (disch := omega) only [↓AM, ↓AV, AP, CQ, imC, ea, eb, ec, j0, spl_S, spl_0, spl_00, j1, j2]
  refine ⟨⟨_, by rw [he], ?_⟩, j4⟩
  rw [overR_0 he]
  exact ⟨oc, cc, bsc, rfl, (o3.keepB w3 j3 fun z hz => by have : z = hb.size := hz; have := f12.size; omega).older fh2.size, l3⟩
end Go.Proofs.YtmkcngcnedjfkaaGreat.It

/- The law ItemTurns: a picture turned and flipped. The walk over the abstract machine.
   Conditions: none. -/
namespace Go.Proofs.YtmkcngcnedjfkaaGreat.LItemTurns
open Go Go.RowKit Go.Proofs.YtmkcngcnedjfkaaGreat.Am Go.Proofs.YtmkcngcnedjfkaaGreat.Af Go.Proofs.YtmkcngcnedjfkaaGreat.Md Go.Proofs.YtmkcngcnedjfkaaGreat.It
set_option linter.unusedVariables false
set_option linter.unusedSimpArgs false
set_option linter.defProp false
set_option maxRecDepth 20000
set_option maxHeartbeats 2000000

abbrev imK : AKd Im := AKd.pair (AKd.int .i64) (AKd.pair (AKd.int .i64) (AKd.pair (AKd.int .i64) (AKd.slice (AKd.slice (AKd.int .i64)))))
theorem im_open {h : Hp} {x : Im} {cs : List Value} (a : imK.A h x cs) : ∃ oa c, cs = imC x oa c ∧ R2 h oa x.pl ∧ x.pl.length ≤ c := by
  obtain ⟨c1, c2, rfl, h1, c3, c4, rfl, h2, c5, c6, rfl, h3, h4⟩ := a
  have h1 : c1 = [.int .i64 x.1] := h1
  have h2 : c3 = [.int .i64 x.2.1] := h2
  have h3 : c5 = [.int .i64 x.2.2.1] := h3
  obtain ⟨oa, c, rfl, r, l⟩ := R2.of h4
  exact ⟨oa, c, by rw [h1, h2, h3]; rfl, r, l⟩
theorem bytes1 : 1 ≤ Tryz.prog.bytesOf 3 := by decide +kernel
theorem bytes2 : 1 ≤ Tryz.prog.bytesOf 39 := by decide +kernel
theorem sz_of {ls : List (List Int)} {a b : Nat} (ha : 1 ≤ a) (hb : 1 ≤ b) (h1 : ls.length * a ≤ 140737488351232) (h2 : ∀ x ∈ ls, x.length * b ≤ 140737488351232) : Sz ls :=
  ⟨Nat.le_trans (Nat.le_mul_of_pos_right _ ha) h1, fun l hl => Nat.le_trans (Nat.le_mul_of_pos_right _ hb) (h2 l hl)⟩
/-- Rows that are there whatever the boxes s and t get. -/
def K2 (h : Hp) (s t : Nat) (oa : Option Addr) (ls : List (List Int)) : Prop := ∀ g, Fm (fun x => x = s ∨ x = t) h g → R2 g oa ls
theorem K2.of {h : Hp} {s t : Nat} {oa : Option Addr} {ls : List (List Int)} (r : R2 h oa ls) (w : Wf h) (hs : h.size ≤ s) (ht : h.size ≤ t) : K2 h s t oa ls := fun g f => r.keepW w f fun x hx e => by rcases e with e | e <;> omega
theorem K2.keep {h h' : Hp} {s t : Nat} {oa : Option Addr} {ls : List (List Int)} (k : K2 h s t oa ls) (f : Fm (fun x => x = s ∨ x = t) h h') : K2 h' s t oa ls := fun g fg => k g (f.trans fg fun _ _ x => x)
theorem K2.keepN {h h' : Hp} {s t : Nat} {oa : Option Addr} {ls : List (List Int)} (k : K2 h s t oa ls) (f : Fm No h h') : K2 h' s t oa ls := k.keep (f.mono fun _ _ f => f.elim)
theorem K2.r2 {h : Hp} {s t : Nat} {oa : Option Addr} {ls : List (List Int)} (k : K2 h s t oa ls) : R2 h oa ls := k h Fm.refl
theorem k2_o2 {h0 h : Hp} {s t : Nat} {oa : Option Addr} {c : Nat} {ls : List (List Int)} {bs : Bl} (o : O2 h0 h oa c ls bs []) (w : Wf h) (hs : s < h0.size) (ht : t < h0.size) : K2 h s t oa ls := fun g f => (o.keepB w f fun x hx => by rcases hx with e | e <;> omega).r2

theorem core {h : Hp} (m : Im) (a b : Int) (f : Bool) {oa : Option Addr} {c : Nat} (r : R2 h oa m.pl) (hc : m.pl.length ≤ c) (hz : Sz m.pl) :
    ACalls Tryz.prog 3 [.agg #[.int .i64 m.wd, .int .i64 m.hg, .int .i64 m.bt, .slice oa m.pl.length c, .int .i64 a, .int .i64 b, .bool f]] h fun v h' => v = .bool true := by
  refine dioramalaw15_ItemTurns_ok.snd Af.hm rfl fun w => ?_
  rw [WF_eq, dioramalaw15_ItemTurns]
  obtain ⟨ha, ea⟩ : ∃ g, h.new ⟨[.int .i64 m.wd, .int .i64 m.hg, .int .i64 m.bt, .slice oa m.pl.length c, .int .i64 a, .int .i64 b, .bool f], .own⟩ = g := ⟨_, rfl⟩
  have wa : Wf ha := ea ▸ w.new
  have fa : Fm No h ha := ea ▸ Fm.new Fm.refl
  have ga : ha.get h.size = some ⟨[.int .i64 m.wd, .int .i64 m.hg, .int .i64 m.bt, .slice oa m.pl.length c, .int .i64 a, .int .i64 b, .bool f], .own⟩ := ea ▸ gnew
  have sa : ha.size = h.size + 1 := by rw [← ea]; rfl
  have na : ha.rdN h.size 0 4 = some [.int .i64 m.wd, .int .i64 m.hg, .int .i64 m.bt, .slice oa m.pl.length c] := rdN_mk ga (by simp)
  obtain ⟨hb, eb⟩ : ∃ g, ha.new ⟨[.int .i64 m.wd, .int .i64 m.hg, .int .i64 m.bt, .slice oa m.pl.length c], .own⟩ = g := ⟨_, rfl⟩
  have wb : Wf hb := eb ▸ wa.new
  have fb : Fm No ha hb := eb ▸ Fm.new Fm.refl
  have gb : hb.get ha.size = some ⟨[.int .i64 m.wd, .int .i64 m.hg, .int .i64 m.bt, .slice oa m.pl.length c], .own⟩ := eb ▸ gnew
  have sb : hb.size = ha.size + 1 := by rw [← eb]; rfl
  have fab : Fm No h hb := fa.trans fb fun _ _ x => x
  have nb : ∀ g, Fm No hb g → g.rdN ha.size 0 4 = some [.int .i64 m.wd, .int .i64 m.hg, .int .i64 m.bt, .slice oa m.pl.length c] := fun g fg => rdN_mk (fg.keep wb gb (fun f => f)) (by simp)
  have rb := r.keep w fab
  have gab := fb.keep wa ga (fun f => f)
  simp +contextual (disch := omega) only [↓AM, ↓AV, AP, CQ, ea, na, rd_mk ga, rd_mk gab, eb, nb hb Fm.refl]
  refine (c_plain rb hz).use ?_
  rintro _ h1 w1 ⟨rfl, f1⟩
  by_cases hpl : plainB m = true
  case neg => simp +contextual (disch := omega) only [↓AM, ↓AV, AP, CQ, hpl]
  simp +contextual (disch := omega) only [↓AM, ↓AV, AP, CQ, hpl, ea, eb, nb h1 f1]
  -- the first turn, the program's
  refine (c_Turn (f := f) (rb.keep wb f1) hc hz).use ?_
  rintro _ h2 w2 ⟨⟨u, rfl, ou⟩, f2⟩
  have f12 : Fm No hb h2 := f1.trans f2 fun _ _ x => x
  obtain ⟨ox, cx, bx, rfl, o2x, lx⟩ := ou
  obtain ⟨x, hx⟩ : ∃ x, turnR m a f = x := ⟨_, rfl⟩
  rw [hx] at o2x lx
  obtain ⟨h3, e3⟩ : ∃ g, h2.new ⟨imC x ox cx, .own⟩ = g := ⟨_, rfl⟩
  have w3 : Wf h3 := e3 ▸ w2.new
  have f3 : Fm No h2 h3 := e3 ▸ Fm.new Fm.refl
  have g3 : h3.get h2.size = some ⟨imC x ox cx, .own⟩ := e3 ▸ gnew
  have s3 : h3.size = h2.size + 1 := by rw [← e3]; rfl
  have f13 : Fm No hb h3 := f12.trans f3 fun _ _ x => x
  have e3' := e3
  simp only [imC] at e3'
  simp +contextual (disch := omega) only [↓AM, ↓AV, AP, CQ, imC, hx, ea, eb, e3', nb h3 f13]
  -- the document's
  refine (c_rTurn (f := f) (rb.keep wb f13) hz).use ?_
  rintro _ h4 w4 ⟨⟨u, rfl, ou⟩, f4⟩
  have f14 : Fm No hb h4 := f13.trans f4 fun _ _ x => x
  obtain ⟨oy, cy, by_, rfl, o2y, ly⟩ := ou
  rw [hx] at o2y ly
  obtain ⟨h5, e5⟩ : ∃ g, h4.new ⟨imC x oy cy, .own⟩ = g := ⟨_, rfl⟩
  have w5 : Wf h5 := e5 ▸ w4.new
  have f5 : Fm No h4 h5 := e5 ▸ Fm.new Fm.refl
  have g5 : h5.get h4.size = some ⟨imC x oy cy, .own⟩ := e5 ▸ gnew
  have s5 : h5.size = h4.size + 1 := by rw [← e5]; rfl
  have f15 : Fm No hb h5 := f14.trans f5 fun _ _ x => x
  have f35 : Fm No h3 h5 := f4.trans f5 fun _ _ x => x
  have g35 := f35.keep w3 g3 (fun f => f)
  have n3 : h5.rdN h2.size 0 4 = some (imC x ox cx) := rdN_mk g35 (by simp [imC])
  have n5 : h5.rdN h4.size 0 4 = some (imC x oy cy) := rdN_mk g5 (by simp [imC])
  have e5' := e5
  simp only [imC] at e5' n3 n5
  have szx : Sz x.pl := by
    rw [← hx]
    unfold turnR
    split
    · rename_i h0
      have gg := (turnE_0.1 h0).1
      unfold turnS
      split
      · exact ((gg.rotN _).flp.sm).sz
      · exact ((gg.rotN _).sm).sz
    · exact ⟨Nat.zero_le _, fun l hl => by cases hl⟩
  simp +contextual (disch := omega) only [↓AM, ↓AV, AP, CQ, imC, hx, ea, eb, e3', e5', n3, n5, It.eqI_self]
  have rx5 := (o2x.r2.keep w2 f3).keep w3 f35
  have ry5 := o2y.r2.keep w4 f5
  refine (c_EqImage rx5 ry5 szx).use ?_
  rintro _ h6 w6 ⟨rfl, f6⟩
  by_cases he : turnE m a = 0
  case neg =>
    simp +contextual (disch := omega) only [↓AM, ↓AV, AP, CQ, EqI, he]
    refine (c_awake h6).use ?_
    rintro _ h7 w7 ⟨rfl, rfl⟩
    simp +contextual (disch := omega) only [↓AM, ↓AV, AP, CQ]
  obtain ⟨g, ha0, ha3⟩ := turnE_0.1 he
  obtain ⟨an, rfl⟩ : ∃ an : Nat, a = an := ⟨a.toNat, by omega⟩
  have han : an ≤ 3 := by omega
  have f16 : Fm No hb h6 := f15.trans f6 fun _ _ x => x
  simp +contextual (disch := omega) only [↓AM, ↓AV, AP, CQ, EqI, he]
  refine c_Within4.use ?_
  rintro _ h6 _ ⟨⟨k, rfl, hk⟩, rfl⟩
  have g36 := f6.keep w5 g35 (fun f => f)
  have g56 := f6.keep w5 g5 (fun f => f)
  -- the boxes of x and y from here on
  have hs2 := f3.size
  have hs35 := f35.size
  have hs6 := f6.size
  have hsb2 := f12.size
  have hs34 := f4.size
  have hne : h2.size < h4.size := by omega
  have put : ∀ (g0 : Hp) (t t' : Nat) (o o' : Ob) (z : List Value), Wf g0 → g0.get t = some o → g0.get t' = some o' → ((t = h2.size ∧ t' = h4.size) ∨ (t = h4.size ∧ t' = h2.size)) → ∃ g', g0.put t ⟨z, .own⟩ = g' ∧ Wf g' ∧ g'.get t = some ⟨z, .own⟩ ∧ g'.get t' = some o' ∧ Fm (fun y => y = h2.size ∨ y = h4.size) g0 g' := fun g0 t t' o o' z wg hg hg' ht => by
    have fp : Fm (fun y => y = t) g0 (g0.put t ⟨z, .own⟩) := Fm.put Fm.refl fun _ => rfl
    refine ⟨_, rfl, wg.put (wg.lt hg), gput, fp.keep wg hg' (fun e => by have : t' = t := e; omega), fp.mono fun y _ e => ?_⟩
    have : y = t := e
    omega
  have box : ∀ g0 g', Fm (fun y => y = h2.size ∨ y = h4.size) g0 g' → Fm No hb g0 → Fm No hb g' := fun g0 g' fg f0 => f0.trans fg fun y hy e => by rcases e with e | e <;> omega
  have big : ∀ g0, Fm No h5 g0 → h4.size < g0.size := fun g0 fg => by have := fg.size; omega
  simp +contextual (disch := omega) only [↓AM, ↓AV, AP, CQ, nb h6 f16]
  -- turned by a
  have ta := turnR_ok (f := false) g han
  refine (c_Turn (f := false) (rb.keep wb f16) hc hz).use ?_
  rintro _ h7 w7 ⟨⟨u, rfl, ou⟩, f7⟩
  rw [ta.2, show turnS m an false = rotN an m from rfl] at ou
  obtain ⟨o7, c7, b7, rfl, o27, l7⟩ := ou
  have g37 := f7.keep w6 g36 (fun f => f)
  have g57 := f7.keep w6 g56 (fun f => f)
  obtain ⟨h8, e8, w8, g8, g58, f8⟩ := put h7 h2.size h4.size _ _ (imC (rotN an m) o7 c7) w7 g37 g57 (.inl ⟨rfl, rfl⟩)
  have e8' := e8
  simp only [imC] at e8'
  have kx8 : K2 h8 h2.size h4.size o7 (rotN an m).pl := (k2_o2 o27 w7 (by omega) (by omega)).keep f8
  have f18 : Fm No hb h8 := box _ _ f8 (f16.trans f7 fun _ _ x => x)
  have n8 : h8.rdN h2.size 0 4 = some (imC (rotN an m) o7 c7) := rdN_mk g8 (by simp [imC])
  simp only [imC] at n8
  have s8 := f8.size
  have s7 := f7.size
  have gak := g.rotN an
  simp +contextual (disch := omega) only [↓AM, ↓AV, AP, CQ, imC, ta.1, g37, spl_S, spl_0, spl_00, e8', EqI, n8]
  -- turned by k then
  have tk := turnR_ok (f := false) gak hk
  refine (c_Turn (f := false) kx8.r2 l7 gak.sm.sz).use ?_
  rintro _ h9 w9 ⟨⟨u, rfl, ou⟩, f9⟩
  rw [tk.2, show turnS (rotN an m) k false = rotN k (rotN an m) from rfl, rotN_add] at ou
  obtain ⟨o9, c9, b9, rfl, o29, l9⟩ := ou
  have s9 := f9.size
  have g39 := f9.keep w8 g8 (fun f => f)
  have g59 := f9.keep w8 g58 (fun f => f)
  obtain ⟨h10, e10, w10, g10, g510, f10⟩ := put h9 h2.size h4.size _ _ (imC (rotN (an + k) m) o9 c9) w9 g39 g59 (.inl ⟨rfl, rfl⟩)
  have e10' := e10
  simp only [imC] at e10' g39
  have kx10 : K2 h10 h2.size h4.size o9 (rotN (an + k) m).pl := (k2_o2 o29 w9 (by omega) (by omega)).keep f10
  have f110 : Fm No hb h10 := box _ _ f10 (f18.trans f9 fun _ _ x => x)
  have hmod : IntKind.i64.wrap ((an : Int) + (k : Int)) = ((an + k : Nat) : Int) := by rw [i64 (by omega)]; rfl
  have hmod2 : IntKind.i64.wrap ((an + k : Nat) : Int) = ((an + k : Nat) : Int) := i64 (by omega)
  have htm : ((an + k : Nat) : Int).tmod 4 = (((an + k) % 4 : Nat) : Int) := by rw [Int.tmod_eq_emod_of_nonneg (by omega)]; omega
  have h40 : (4 : Int) ≠ 0 := by decide
  have hq4 : (an + k) % 4 ≤ 3 := by omega
  simp +contextual (disch := omega) only [↓AM, ↓AV, AP, CQ, imC, tk.1, g39, spl_S, spl_0, spl_00, e10', EqI, nb h10 f110, hmod, hmod2, htm, h40]
  -- at once
  have tq := turnR_ok (f := false) g hq4
  refine (c_Turn (f := false) (rb.keep wb f110) hc hz).use ?_
  rintro _ h11 w11 ⟨⟨u, rfl, ou⟩, f11⟩
  rw [tq.2, show turnS m ((an + k) % 4) false = rotN ((an + k) % 4) m from rfl, ← rotN_mod g] at ou
  obtain ⟨o11, c11, b11, rfl, o211, l11⟩ := ou
  have s11 := f11.size
  have s10 := f10.size
  have g311 := f11.keep w10 g10 (fun f => f)
  have g511 := f11.keep w10 g510 (fun f => f)
  obtain ⟨h12, e12, w12, g12, g312, f12'⟩ := put h11 h4.size h2.size _ _ (imC (rotN (an + k) m) o11 c11) w11 g511 g311 (.inr ⟨rfl, rfl⟩)
  have e12' := e12
  simp only [imC] at e12' g511 g312
  have kx12 : K2 h12 h2.size h4.size o9 (rotN (an + k) m).pl := (kx10.keepN f11).keep f12'
  have ky12 : K2 h12 h2.size h4.size o11 (rotN (an + k) m).pl := (k2_o2 o211 w11 (by omega) (by omega)).keep f12'
  have f112 : Fm No hb h12 := box _ _ f12' (f110.trans f11 fun _ _ x => x)
  have n12 : h12.rdN h2.size 0 4 = some (imC (rotN (an + k) m) o9 c9) := rdN_mk g312 (by simp [imC])
  have m12 : h12.rdN h4.size 0 4 = some (imC (rotN (an + k) m) o11 c11) := rdN_mk g12 (by simp [imC])
  simp only [imC] at n12 m12
  have gak2 := g.rotN (an + k)
  simp +contextual (disch := omega) only [↓AM, ↓AV, AP, CQ, imC, tq.1, g511, spl_S, spl_0, spl_00, e12', EqI, n12, m12]
  refine (c_EqImage kx12.r2 ky12.r2 gak2.sm.sz).use ?_
  rintro _ h13 w13 ⟨rfl, f13'⟩
  have f113 : Fm No hb h13 := f112.trans f13' fun _ _ x => x
  have s12 := f12'.size
  have s13 := f13'.size
  have g313 := f13'.keep w12 g312 (fun f => f)
  have g513 := f13'.keep w12 g12 (fun f => f)
  simp +contextual (disch := omega) only [↓AM, ↓AV, AP, CQ, imC, EqI, It.eqI_self, nb h13 f113]
  -- the mirror
  have t0 := turnR_ok (f := true) g (show 0 ≤ 3 by omega)
  refine (c_Turn (q := 0) (f := true) (rb.keep wb f113) hc hz).use ?_
  rintro _ h14 w14 ⟨⟨u, rfl, ou⟩, f14'⟩
  rw [show (0 : Int) = ((0 : Nat) : Int) from rfl, t0.2, show turnS m 0 true = flpI m from rfl] at ou
  obtain ⟨o14, c14, b14, rfl, o214, l14⟩ := ou
  have s14 := f14'.size
  have g314 := f14'.keep w13 g313 (fun f => f)
  have g514 := f14'.keep w13 g513 (fun f => f)
  obtain ⟨h15, e15, w15, g15, g515, f15'⟩ := put h14 h2.size h4.size _ _ (imC (flpI m) o14 c14) w14 g314 g514 (.inl ⟨rfl, rfl⟩)
  have e15' := e15
  simp only [imC] at e15' g314
  have kx15 : K2 h15 h2.size h4.size o14 (flpI m).pl := (k2_o2 o214 w14 (by omega) (by omega)).keep f15'
  have f115 : Fm No hb h15 := box _ _ f15' (f113.trans f14' fun _ _ x => x)
  have n15 : h15.rdN h2.size 0 4 = some (imC (flpI m) o14 c14) := rdN_mk g15 (by simp [imC])
  simp only [imC] at n15
  have gf := g.flp
  have z0 := t0.1
  simp only [Int.natCast_zero, Int.cast_ofNat_Int] at z0
  simp +contextual (disch := omega) only [↓AM, ↓AV, AP, CQ, imC, z0, g314, spl_S, spl_0, spl_00, e15', EqI, n15]
  -- and back
  have t1 := turnR_ok (f := true) gf (show 0 ≤ 3 by omega)
  refine (c_Turn (q := 0) (f := true) kx15.r2 l14 gf.sm.sz).use ?_
  rintro _ h16 w16 ⟨⟨u, rfl, ou⟩, f16'⟩
  rw [show (0 : Int) = ((0 : Nat) : Int) from rfl, t1.2, show turnS (flpI m) 0 true = flpI (flpI m) from rfl, flpI_2 g] at ou
  obtain ⟨o16, c16, b16, rfl, o216, l16⟩ := ou
  have s15 := f15'.size
  have s16 := f16'.size
  have g316 := f16'.keep w15 g15 (fun f => f)
  have g516 := f16'.keep w15 g515 (fun f => f)
  obtain ⟨h17, e17, w17, g17, g517, f17⟩ := put h16 h2.size h4.size _ _ (imC m o16 c16) w16 g316 g516 (.inl ⟨rfl, rfl⟩)
  have e17' := e17
  simp only [imC] at e17' g316
  have kx17 : K2 h17 h2.size h4.size o16 m.pl := (k2_o2 o216 w16 (by omega) (by omega)).keep f17
  have f117 : Fm No hb h17 := box _ _ f17 (f115.trans f16' fun _ _ x => x)
  have n17 : h17.rdN h2.size 0 4 = some (imC m o16 c16) := rdN_mk g17 (by simp [imC])
  simp only [imC] at n17
  have z1 := t1.1
  simp only [Int.natCast_zero, Int.cast_ofNat_Int] at z1
  simp +contextual (disch := omega) only [↓AM, ↓AV, AP, CQ, imC, z1, g316, spl_S, spl_0, spl_00, e17', EqI, n17, nb h17 f117]
  refine (c_EqImage kx17.r2 (rb.keep wb f117) hz).use ?_
  rintro _ h18 w18 ⟨rfl, f18'⟩
  simp +contextual (disch := omega) only [↓AM, ↓AV, AP, CQ, EqI, It.eqI_self]
  refine (c_awake h18).use ?_
  rintro _ h19 w19 ⟨rfl, rfl⟩
  simp +contextual (disch := omega) only [↓AM, ↓AV, AP, CQ]
theorem walk {h : Hp} (x0 : (Im × Int × Int × Bool)) (cs0 : List Value) (A0 : (AKd.pair (AKd.pair (AKd.int .i64) (AKd.pair (AKd.int .i64) (AKd.pair (AKd.int .i64) (AKd.slice (AKd.slice (AKd.int .i64)))))) (AKd.pair (AKd.int .i64) (AKd.pair (AKd.int .i64) AKd.bool))).A h x0 cs0) (w0 : (((Lit.int .i64 x0.1.1).wf = true) ∧ ((Lit.int .i64 x0.1.2.1).wf = true) ∧ ((Lit.int .i64 x0.1.2.2.1).wf = true) ∧ (x0.1.2.2.2.length * Tryz.prog.bytesOf 39 ≤ 140737488351232 ∧ ∀ x ∈ x0.1.2.2.2, x.length * Tryz.prog.bytesOf 3 ≤ 140737488351232 ∧ ∀ y ∈ x, (Lit.int .i64 y).wf = true)) ∧ ((Lit.int .i64 x0.2.1).wf = true) ∧ ((Lit.int .i64 x0.2.2.1).wf = true) ∧ (True)) : ACalls Tryz.prog 3 [.agg cs0.toArray] h fun v h' => v = .bool true := by
  obtain ⟨m, a, b, f⟩ := x0
  obtain ⟨c1, c2, rfl, h1, c3, c4, rfl, h2, c5, c6, rfl, h3, h4⟩ := A0
  obtain ⟨oa, c, rfl, r, l⟩ := im_open h1
  have h2 : c3 = [.int .i64 a] := h2
  have h3 : c5 = [.int .i64 b] := h3
  have h4 : c6 = [.bool f] := h4
  subst h2 h3 h4
  obtain ⟨⟨_, _, _, q1, q2⟩, _⟩ := w0
  exact core m a b f r l (sz_of bytes2 bytes1 q1 fun x hx => (q2 x hx).1)
end Go.Proofs.YtmkcngcnedjfkaaGreat.LItemTurns

/- The law ItemOver: a picture on another. The walk over the abstract machine.
   Conditions: none. -/
namespace Go.Proofs.YtmkcngcnedjfkaaGreat.LItemOver
open Go Go.RowKit Go.Proofs.YtmkcngcnedjfkaaGreat.Am Go.Proofs.YtmkcngcnedjfkaaGreat.Af Go.Proofs.YtmkcngcnedjfkaaGreat.Md Go.Proofs.YtmkcngcnedjfkaaGreat.It
open Go.Proofs.YtmkcngcnedjfkaaGreat.LItemTurns (im_open imK bytes1 bytes2 sz_of)
set_option linter.unusedVariables false
set_option linter.unusedSimpArgs false
set_option linter.defProp false
set_option maxRecDepth 20000
set_option maxHeartbeats 2000000

theorem plain_sm {m : Im} (h : plainB m = true) : Sm m.pl := by
  unfold plainB at h
  rw [Bool.and_eq_true, List.all_eq_true, decide_eq_true_eq] at h
  exact ⟨by omega, fun l hl => by have := of_decide_eq_true (h.1 l hl); omega⟩
theorem overE_fit {cv m : Im} {x y : Int} (h : overE cv m x y = 0) : pchk cv = 0 := by
  unfold overE at h
  split at h
  · assumption
  · exact h
theorem core {h : Hp} (cv m : Im) (x y : Int) {oa ob : Option Addr} {c d : Nat} (r : R2 h oa cv.pl) (rm : R2 h ob m.pl) (hz : Sz cv.pl) (hzm : Sz m.pl) :
    ACalls Tryz.prog 5 [.agg #[.int .i64 cv.wd, .int .i64 cv.hg, .int .i64 cv.bt, .slice oa cv.pl.length c, .int .i64 m.wd, .int .i64 m.hg, .int .i64 m.bt, .slice ob m.pl.length d, .int .i64 x, .int .i64 y]] h fun v h' => v = .bool true := by
  refine dioramalaw15_ItemOver_ok.snd Af.hm rfl fun w => ?_
  rw [WF_eq, dioramalaw15_ItemOver]
  obtain ⟨A, hA⟩ : ∃ A, A = [Value.int .i64 cv.wd, .int .i64 cv.hg, .int .i64 cv.bt, .slice oa cv.pl.length c, .int .i64 m.wd, .int .i64 m.hg, .int .i64 m.bt, .slice ob m.pl.length d, .int .i64 x, .int .i64 y] := ⟨_, rfl⟩
  obtain ⟨ha, ea⟩ : ∃ g, h.new ⟨[.int .i64 cv.wd, .int .i64 cv.hg, .int .i64 cv.bt, .slice oa cv.pl.length c, .int .i64 m.wd, .int .i64 m.hg, .int .i64 m.bt, .slice ob m.pl.length d, .int .i64 x, .int .i64 y], .own⟩ = g := ⟨_, rfl⟩
  have wa : Wf ha := ea ▸ w.new
  have fa : Fm No h ha := ea ▸ Fm.new Fm.refl
  have ga : ha.get h.size = some ⟨[.int .i64 cv.wd, .int .i64 cv.hg, .int .i64 cv.bt, .slice oa cv.pl.length c, .int .i64 m.wd, .int .i64 m.hg, .int .i64 m.bt, .slice ob m.pl.length d, .int .i64 x, .int .i64 y], .own⟩ := ea ▸ gnew
  have sa : ha.size = h.size + 1 := by rw [← ea]; rfl
  have na : ∀ g, Fm No ha g → g.rdN h.size 0 4 = some [.int .i64 cv.wd, .int .i64 cv.hg, .int .i64 cv.bt, .slice oa cv.pl.length c] := fun g fg => rdN_mk (fg.keep wa ga (fun f => f)) (by simp)
  have na4 : ∀ g, Fm No ha g → g.rdN h.size 4 4 = some [.int .i64 m.wd, .int .i64 m.hg, .int .i64 m.bt, .slice ob m.pl.length d] := fun g fg => rdN_mk (fg.keep wa ga (fun f => f)) (by simp)
  obtain ⟨hb, eb⟩ : ∃ g, ha.new ⟨[.int .i64 0, .int .i64 0, .int .i64 0, .slice none 0 0], .own⟩ = g := ⟨_, rfl⟩
  have wb : Wf hb := eb ▸ wa.new
  have fb : Fm No ha hb := eb ▸ Fm.new Fm.refl
  have gb : hb.get ha.size = some ⟨[.int .i64 0, .int .i64 0, .int .i64 0, .slice none 0 0], .own⟩ := eb ▸ gnew
  have sb : hb.size = ha.size + 1 := by rw [← eb]; rfl
  obtain ⟨hc, ec⟩ : ∃ g, hb.new ⟨[.int .i64 cv.wd, .int .i64 cv.hg, .int .i64 cv.bt, .slice oa cv.pl.length c], .own⟩ = g := ⟨_, rfl⟩
  have wc : Wf hc := ec ▸ wb.new
  have fc : Fm No hb hc := ec ▸ Fm.new Fm.refl
  have gc : hc.get hb.size = some ⟨[.int .i64 cv.wd, .int .i64 cv.hg, .int .i64 cv.bt, .slice oa cv.pl.length c], .own⟩ := ec ▸ gnew
  have sc : hc.size = hb.size + 1 := by rw [← ec]; rfl
  have gbc := fc.keep wb gb (fun f => f)
  obtain ⟨hd, ed⟩ : ∃ g, hc.put ha.size ⟨[.int .i64 m.wd, .int .i64 m.hg, .int .i64 m.bt, .slice ob m.pl.length d], .own⟩ = g := ⟨_, rfl⟩
  have wd : Wf hd := ed ▸ wc.put (wc.lt gbc)
  have fd : Fm (fun z => z = ha.size) hc hd := ed ▸ Fm.put Fm.refl fun _ => rfl
  have gd : hd.get ha.size = some ⟨[.int .i64 m.wd, .int .i64 m.hg, .int .i64 m.bt, .slice ob m.pl.length d], .own⟩ := ed ▸ gput
  have gcd := fd.keep wc gc (fun f => by have : hb.size = ha.size := f; omega)
  have sd : hd.size = hc.size := by rw [← ed]; rfl
  have gab := fb.keep wa ga (fun f => f)
  have gac := fc.keep wb gab (fun f => f)
  have fac0 := fb.trans fc fun _ _ x => x
  have gad := fd.keep wc gac (fun e => by have : h.size = ha.size := e; omega)
  have fad : Fm No h hd := ((fa.trans fb fun _ _ x => x).trans fc fun _ _ x => x).trans fd fun z hz e => by have : z = ha.size := e; omega
  have rcv : ∀ g, Fm No hd g → R2 g oa cv.pl := fun g fg => (r.keep w (fad.trans fg fun _ _ x => x))
  have rmm : ∀ g, Fm No hd g → R2 g ob m.pl := fun g fg => (rm.keep w (fad.trans fg fun _ _ x => x))
  have n3 : ∀ g, Fm No hd g → g.rdN hb.size 0 4 = some [.int .i64 cv.wd, .int .i64 cv.hg, .int .i64 cv.bt, .slice oa cv.pl.length c] := fun g fg => rdN_mk (fg.keep wd gcd (fun f => f)) (by simp)
  have n4 : ∀ g, Fm No hd g → g.rdN ha.size 0 4 = some [.int .i64 m.wd, .int .i64 m.hg, .int .i64 m.bt, .slice ob m.pl.length d] := fun g fg => rdN_mk (fg.keep wd gd (fun f => f)) (by simp)
  simp +contextual (disch := omega) only [↓AM, ↓AV, AP, CQ, ea, eb, ec, ed, na ha Fm.refl, na4 ha Fm.refl, rd_mk ga, rd_mk gab, rd_mk gac, rd_mk gad, na4 hc fac0, gbc, spl_S, spl_0, spl_00, n3 hd Fm.refl]
  refine ⟨⟨_, rfl, rfl⟩, (c_plain (rcv hd Fm.refl) hz).use ?_⟩
  rintro _ h1 w1 ⟨rfl, f1⟩
  by_cases hp : plainB cv = true
  case neg => simp +contextual (disch := omega) only [↓AM, ↓AV, AP, CQ, hp]
  simp +contextual (disch := omega) only [↓AM, ↓AV, AP, CQ, hp, ea, eb, ec, ed, n4 h1 f1]
  refine (c_plain (rmm h1 f1) hzm).use ?_
  rintro _ h2 w2 ⟨rfl, f2⟩
  have f12 := f1.trans f2 fun _ _ x => x
  by_cases hq : plainB m = true
  case neg => simp +contextual (disch := omega) only [↓AM, ↓AV, AP, CQ, hq]
  simp +contextual (disch := omega) only [↓AM, ↓AV, AP, CQ, hq, ea, eb, ec, ed, n3 h2 f12]
  have scv := plain_sm hp
  refine (c_CopyImage (rcv h2 f12) scv).use ?_
  rintro _ h3 w3 ⟨⟨o3, c3, b3, rfl, oo3, l3⟩, f3⟩
  have f13 := f12.trans f3 fun _ _ x => x
  obtain ⟨h4, e4⟩ : ∃ g, h3.new ⟨imC cv o3 c3, .own⟩ = g := ⟨_, rfl⟩
  have w4 : Wf h4 := e4 ▸ w3.new
  have f4 : Fm No h3 h4 := e4 ▸ Fm.new Fm.refl
  have g4 : h4.get h3.size = some ⟨imC cv o3 c3, .own⟩ := e4 ▸ gnew
  have f14 := f13.trans f4 fun _ _ x => x
  have r3 : R2 h4 o3 cv.pl := oo3.r2.keep w3 f4
  have n7 : ∀ g, Fm No h4 g → g.rdN h3.size 0 4 = some (imC cv o3 c3) := fun g fg => rdN_mk (fg.keep w4 g4 (fun f => f)) (by simp [imC])
  have e4' := e4
  simp only [imC] at e4' n7
  simp +contextual (disch := omega) only [↓AM, ↓AV, AP, CQ, imC, ea, eb, ec, ed, e4', n7 h4 Fm.refl, n4 h4 f14]
  refine (c_Over (x := x) (y := y) r3 (rmm h4 f14) l3 hz hzm).use ?_
  rintro _ h5 w5 ⟨⟨u, rfl, ou⟩, f5⟩
  obtain ⟨ox, cx, bx, rfl, o2x, lx⟩ := ou
  obtain ⟨z, hx⟩ : ∃ z, overR cv m x y = z := ⟨_, rfl⟩
  rw [hx] at o2x lx
  have f15 := f14.trans f5 fun _ _ x => x
  obtain ⟨h6, e6⟩ : ∃ g, h5.new ⟨imC z ox cx, .own⟩ = g := ⟨_, rfl⟩
  have w6 : Wf h6 := e6 ▸ w5.new
  have f6 : Fm No h5 h6 := e6 ▸ Fm.new Fm.refl
  have g6 : h6.get h5.size = some ⟨imC z ox cx, .own⟩ := e6 ▸ gnew
  have f16 := f15.trans f6 fun _ _ x => x
  have e6' := e6
  simp only [imC] at e6'
  simp +contextual (disch := omega) only [↓AM, ↓AV, AP, CQ, imC, hx, ea, eb, ec, ed, e4', e6', n3 h6 f16, n4 h6 f16]
  refine (c_rOver (x := x) (y := y) (rcv h6 f16) (rmm h6 f16) hz hzm).use ?_
  rintro _ h7 w7 ⟨⟨u, rfl, ou⟩, f7⟩
  obtain ⟨oy, cy, by_, rfl, o2y, ly⟩ := ou
  rw [hx] at o2y ly
  have f17 := f16.trans f7 fun _ _ x => x
  obtain ⟨h8, e8⟩ : ∃ g, h7.new ⟨imC z oy cy, .own⟩ = g := ⟨_, rfl⟩
  have w8 : Wf h8 := e8 ▸ w7.new
  have f8 : Fm No h7 h8 := e8 ▸ Fm.new Fm.refl
  have g8 : h8.get h7.size = some ⟨imC z oy cy, .own⟩ := e8 ▸ gnew
  have f18 := f17.trans f8 fun _ _ x => x
  have f68 := f7.trans f8 fun _ _ x => x
  have f48 := (f5.trans f6 fun _ _ x => x).trans f68 fun _ _ x => x
  have n8 : h8.rdN h5.size 0 4 = some (imC z ox cx) := rdN_mk (f68.keep w6 g6 (fun f => f)) (by simp [imC])
  have n10 : h8.rdN h7.size 0 4 = some (imC z oy cy) := rdN_mk g8 (by simp [imC])
  have e8' := e8
  simp only [imC] at e8' n8 n10
  have szx : Sz z.pl := by
    rw [← hx]
    unfold overR
    split
    · rename_i h0
      exact (drI_fit (pchk_good.1 (overE_fit h0)).fit).sm.sz
    · exact ⟨Nat.zero_le _, fun l hl => by cases hl⟩
  have rx := (o2x.r2.keep w5 f6).keep w6 f68
  have ry := o2y.r2.keep w7 f8
  simp +contextual (disch := omega) only [↓AM, ↓AV, AP, CQ, imC, hx, ea, eb, ec, ed, e4', e6', e8', EqI, It.eqI_self, n8, n10]
  refine (c_EqImage rx ry szx).use ?_
  rintro _ h9 w9 ⟨rfl, f9⟩
  have f19 := f18.trans f9 fun _ _ x => x
  have f49 := f48.trans f9 fun _ _ x => x
  simp +contextual (disch := omega) only [↓AM, ↓AV, AP, CQ, imC, ea, eb, ec, ed, e4', e6', e8', EqI, It.eqI_self, n7 h9 f49, n3 h9 f19]
  refine (c_EqImage (r3.keep w4 f49) (rcv h9 f19) hz).use ?_
  rintro _ h10 w10 ⟨rfl, f10⟩
  simp +contextual (disch := omega) only [↓AM, ↓AV, AP, CQ, EqI, It.eqI_self]
  refine (c_awake h10).use ?_
  rintro _ h11 w11 ⟨rfl, rfl⟩
  simp +contextual (disch := omega) only [↓AM, ↓AV, AP, CQ]
theorem walk {h : Hp} (x0 : (Im × Im × Int × Int)) (cs0 : List Value) (A0 : (AKd.pair imK (AKd.pair imK (AKd.pair (AKd.int .i64) (AKd.int .i64)))).A h x0 cs0) (w0 : (((Lit.int .i64 x0.1.1).wf = true) ∧ ((Lit.int .i64 x0.1.2.1).wf = true) ∧ ((Lit.int .i64 x0.1.2.2.1).wf = true) ∧ (x0.1.2.2.2.length * Tryz.prog.bytesOf 39 ≤ 140737488351232 ∧ ∀ x ∈ x0.1.2.2.2, x.length * Tryz.prog.bytesOf 3 ≤ 140737488351232 ∧ ∀ y ∈ x, (Lit.int .i64 y).wf = true)) ∧ (((Lit.int .i64 x0.2.1.1).wf = true) ∧ ((Lit.int .i64 x0.2.1.2.1).wf = true) ∧ ((Lit.int .i64 x0.2.1.2.2.1).wf = true) ∧ (x0.2.1.2.2.2.length * Tryz.prog.bytesOf 39 ≤ 140737488351232 ∧ ∀ x ∈ x0.2.1.2.2.2, x.length * Tryz.prog.bytesOf 3 ≤ 140737488351232 ∧ ∀ y ∈ x, (Lit.int .i64 y).wf = true)) ∧ ((Lit.int .i64 x0.2.2.1).wf = true) ∧ ((Lit.int .i64 x0.2.2.2).wf = true)) :
    ACalls Tryz.prog 5 [.agg cs0.toArray] h fun v h' => v = .bool true := by
  obtain ⟨cv, m, x, y⟩ := x0
  obtain ⟨c1, c2, rfl, h1, c3, c4, rfl, h2, c5, c6, rfl, h3, h4⟩ := A0
  obtain ⟨oa, c, rfl, r, l⟩ := im_open h1
  obtain ⟨ob, d, rfl, rm, l2⟩ := im_open h2
  have h3 : c5 = [.int .i64 x] := h3
  have h4 : c6 = [.int .i64 y] := h4
  subst h3 h4
  obtain ⟨⟨_, _, _, q1, q2⟩, ⟨_, _, _, q3, q4⟩, _⟩ := w0
  exact core cv m x y r rm (sz_of bytes2 bytes1 q1 fun x hx => (q2 x hx).1) (sz_of bytes2 bytes1 q3 fun x hx => (q4 x hx).1)
end Go.Proofs.YtmkcngcnedjfkaaGreat.LItemOver
