/- The document's window, and with which segment a client goes on. Plain theorems over the abstract machine.
   Conditions: none. -/
import Derived.Test.YtikbdeobghoglaaBun4
import Derived.Test.YtikbdeobghoglaaBun3
namespace Go.Proofs.Ytikbdeobghoglaa.St
open Go Go.RowKit Go.Proofs.Ytikbdeobghoglaa.Am Go.Proofs.Ytikbdeobghoglaa.Af Go.Proofs.Ytikbdeobghoglaa.Md Go.Proofs.Ytikbdeobghoglaa.Nu
set_option linter.unusedVariables false
set_option linter.unusedSimpArgs false
set_option linter.defProp false
set_option maxRecDepth 20000
set_option maxHeartbeats 1000000

theorem low_cross {n1 n2 : Int} {m1 m2 : Nat} (h1 : 0 < m1) (h2 : 0 < m2) : cmpZ (lowN n1 m1 * lowD n2 m2) (lowN n2 m2 * lowD n1 m1) = cmpZ (n1 * m2) (n2 * m1) := by
  have key : ∀ (n : Int) (m : Nat), 0 < m → ∃ g : Nat, 0 < g ∧ n = lowN n m * g ∧ (m : Int) = lowD n m * g := by
    intro n m hm
    refine ⟨Nat.gcd n.natAbs m, Nat.gcd_pos_of_pos_right _ hm, ?_, ?_⟩
    · unfold lowN
      refine (Int.ediv_mul_cancel ?_).symm
      exact Int.ofNat_dvd_left.2 (Nat.gcd_dvd_left _ _)
    · unfold lowD
      rw [← Int.natCast_mul, Nat.div_mul_cancel (Nat.gcd_dvd_right _ _)]
  obtain ⟨g, hg, e1, e2⟩ := key n1 m1 h1
  obtain ⟨k, hk, e3, e4⟩ := key n2 m2 h2
  generalize lowN n1 m1 = a at *
  generalize lowD n1 m1 = b at *
  generalize lowN n2 m2 = c at *
  generalize lowD n2 m2 = d at *
  have l : n1 * m2 = (a * d) * ((g * k : Nat) : Int) := by rw [e4, e1, Int.natCast_mul]; ac_rfl
  have r : n2 * m1 = (c * b) * ((g * k : Nat) : Int) := by rw [e2, e3, Int.natCast_mul]; ac_rfl
  have hp : (0 : Int) < ((g * k : Nat) : Int) := by have := Nat.mul_pos hg hk; omega
  rw [l, r]
  generalize ((g * k : Nat) : Int) = p at *
  generalize a * d = u
  generalize c * b = v
  unfold cmpZ
  by_cases h : u < v
  · rw [if_pos h, if_pos (Int.mul_lt_mul_of_pos_right h hp)]
  · rw [if_neg h, if_neg (fun q => h (Int.lt_of_mul_lt_mul_right q (Int.le_of_lt hp)))]
    by_cases he : u = v
    · rw [if_pos he, if_pos (by rw [he])]
    · rw [if_neg he, if_neg (fun q => he (Int.eq_of_mul_eq_mul_right (by omega) q))]
theorem low_len {n : Int} {m : Nat} (hn : n.natAbs ≤ 9223372036854775807) (hm : m ≤ 9223372036854775807) : (de (lowN n m).natAbs).length ≤ 3 ∧ (de (lowD n m)).length ≤ 3 := by
  constructor
  · refine de3 ?_
    have h1 : (lowN n m).natAbs ≤ n.natAbs := by
      unfold lowN
      exact Int.natAbs_ediv_le_natAbs n _
    omega
  · refine de3 ?_
    have := Nat.div_le_self m (Nat.gcd n.natAbs m)
    unfold lowD
    omega
/-- The fraction of a time. -/
theorem c_OfT {h : Hp} {x : Tim} (hx : VT x) : ACalls Try.prog 21 [.agg #[.int .i64 x.1, .int .i64 x.2]] h fun v h' => Fv h' v (lowN x.1 x.2.toNat) (lowD x.1 x.2.toNat) ∧ Fm No h h' := by
  obtain ⟨h1, h2, h3, h4⟩ := hx
  have e : x.2 = ((x.2.toNat : Nat) : Int) := by omega
  have := c_OfTime (h := h) (n := x.1) (m := x.2.toNat) (by omega) (by omega) (by omega)
  rwa [← e] at this
theorem c_CmpFT {h : Hp} {u v : Value} {x y : Tim} (hx : VT x) (hy : VT y) (lu : Fv h u (lowN x.1 x.2.toNat) (lowD x.1 x.2.toNat)) (lv : Fv h v (lowN y.1 y.2.toNat) (lowD y.1 y.2.toNat)) :
    ACalls Try.prog 20 [u, v] h fun r h' => r = .int .i64 (cmpZ (x.1 * y.2) (y.1 * x.2)) ∧ Fm No h h' := by
  obtain ⟨h1, h2, h3, h4⟩ := hx
  obtain ⟨k1, k2, k3, k4⟩ := hy
  obtain ⟨l1, l2⟩ := low_len (n := x.1) (m := x.2.toNat) (by omega) (by omega)
  obtain ⟨l3, l4⟩ := low_len (n := y.1) (m := y.2.toNat) (by omega) (by omega)
  refine (c_CmpF lu lv (by omega) (by omega) (by omega) (by omega)).mono ?_
  rintro r h' ⟨rfl, fm⟩
  refine ⟨?_, fm⟩
  have := low_cross (n1 := x.1) (n2 := y.1) (m1 := x.2.toNat) (m2 := y.2.toNat) (by omega) (by omega)
  have e1 : ((x.2.toNat : Nat) : Int) = x.2 := by omega
  have e2 : ((y.2.toNat : Nat) : Int) = y.2 := by omega
  rw [e1, e2] at this
  rw [← this]
  rfl
theorem c_rspan {h : Hp} {x : Sg} : ACalls Try.prog 59 [.agg #[.int .i64 x.2.1.1, .int .i64 x.2.1.2, .int .i64 x.2.2.1.1, .int .i64 x.2.2.1.2]] h fun v h' => v = .bool (decide (SO x)) ∧ Fm No h h' := by
  refine dioramaref27_span_ok.snd Af.hm rfl fun w => ?_
  rw [WF_eq, dioramaref27_span]
  obtain ⟨m, ⟨f1, f2⟩, ⟨t1, t2⟩, dd, br⟩ := x
  simp only at *
  obtain ⟨h0, e0⟩ : ∃ g, h.new ⟨[.int .i64 f1, .int .i64 f2, .int .i64 t1, .int .i64 t2], .own⟩ = g := ⟨_, rfl⟩
  have w0 : Wf h0 := e0 ▸ w.new
  have fm0 : Fm No h h0 := e0 ▸ Fm.new Fm.refl
  have g0 : h0.get h.size = some ⟨[.int .i64 f1, .int .i64 f2, .int .i64 t1, .int .i64 t2], .own⟩ := e0 ▸ gnew
  have rds : ∀ g : Hp, Fm No h0 g → g.rdN h.size 0 2 = some [.int .i64 f1, .int .i64 f2] ∧ g.rdN h.size 2 2 = some [.int .i64 t1, .int .i64 t2] := fun g fg => ⟨rdN_mk (fg.keep w0 g0 (fun f => f)) (by simp), rdN_mk (fg.keep w0 g0 (fun f => f)) (by simp)⟩
  obtain ⟨n0, n2⟩ := rds h0 Fm.refl
  simp +contextual (disch := omega) only [↓AM, ↓AV, AP, CQ, e0, n0, n2]
  refine (c_VTime (x := (f1, f2))).use ?_
  rintro _ h1 w1 ⟨rfl, fm1⟩
  have fh1 := fm0.trans fm1 fun _ _ f => f
  obtain ⟨n3, n4⟩ := rds h1 fm1
  by_cases hv1 : VT (f1, f2)
  case neg =>
    simp +contextual (disch := omega) only [↓AM, ↓AV, AP, CQ, e0, hv1, n3, n4]
    exact ⟨by rw [decide_eq_false (fun q : SO (m, (f1, f2), (t1, t2), dd, br) => hv1 q.1.1)], fh1⟩
  simp +contextual (disch := omega) only [↓AM, ↓AV, AP, CQ, e0, hv1, n3, n4]
  refine (c_VTime (x := (t1, t2))).use ?_
  rintro _ h2 w2 ⟨rfl, fm2⟩
  have fh2 := fh1.trans fm2 fun _ _ f => f
  have f02 := fm1.trans fm2 fun _ _ f => f
  obtain ⟨n5, n6⟩ := rds h2 f02
  by_cases hv2 : VT (t1, t2)
  case neg =>
    simp +contextual (disch := omega) only [↓AM, ↓AV, AP, CQ, e0, hv2, n5, n6]
    exact ⟨by rw [decide_eq_false (fun q : SO (m, (f1, f2), (t1, t2), dd, br) => hv2 q.1.2)], fh2⟩
  simp +contextual (disch := omega) only [↓AM, ↓AV, AP, CQ, e0, hv2, n5, n6]
  refine (c_OfT (x := (f1, f2)) hv1).use ?_
  rintro u h3 w3 ⟨l3, fm3⟩
  have f03 := f02.trans fm3 fun _ _ f => f
  obtain ⟨n7, n8⟩ := rds h3 f03
  simp +contextual (disch := omega) only [↓AM, ↓AV, AP, CQ, e0, n7, n8]
  refine ⟨⟨_, rfl, rfl⟩, ?_⟩
  refine (c_OfT (x := (t1, t2)) hv2).use ?_
  rintro v h4 w4 ⟨l4, fm4⟩
  simp +contextual (disch := omega) only [↓AM, ↓AV, AP, CQ, e0]
  refine (c_CmpFT (x := (f1, f2)) (y := (t1, t2)) hv1 hv2 (l3.kp (Kp.fm w3 fm4)) l4).use ?_
  rintro _ h5 w5 ⟨rfl, fm5⟩
  simp +contextual (disch := omega) only [↓AM, ↓AV, AP, CQ, e0, cmpZ_le]
  refine ⟨congrArg Value.bool (decide_eq_decide.2 ?_), ((fh2.trans fm3 fun _ _ f => f).trans fm4 fun _ _ f => f).trans fm5 fun _ _ f => f⟩
  unfold SO leT
  simp only [hv1, hv2, true_and]
theorem c_rlive {h : Hp} {oa : Option Addr} {c : Nat} {s : List Sg} {t : Tim} {keep : Int} (ha : Rd h 7 oa s.length (s.flatMap segC)) (hn : s.length ≤ 1000000) :
    ACalls Try.prog 30 [.slice oa s.length c, .agg #[.int .i64 t.1, .int .i64 t.2], .int .i64 keep] h fun v h' => v = .int .i64 (er s t keep) ∧ Fm No h h' := by
  refine dioramaref27_live_ok.snd Af.hm rfl fun w => ?_
  rw [WF_eq, dioramaref27_live]
  obtain ⟨t1, t2⟩ := t
  simp only at *
  obtain ⟨h0, e0⟩ : ∃ g, h.new ⟨[.int .i64 t1, .int .i64 t2], .own⟩ = g := ⟨_, rfl⟩
  have f0 : Fm No h h0 := e0 ▸ Fm.new Fm.refl
  have g0 : h0.get h.size = some ⟨[.int .i64 t1, .int .i64 t2], .own⟩ := e0 ▸ gnew
  have n0 : h0.rdN h.size 0 2 = some [.int .i64 t1, .int .i64 t2] := rdN_mk g0 (by simp)
  simp +contextual (disch := omega) only [↓AM, ↓AV, AP, CQ, e0, n0]
  refine (c_VTime (x := (t1, t2))).use ?_
  rintro _ h1 w1 ⟨rfl, f1⟩
  have f01 := f0.trans f1 fun _ _ f => f
  by_cases hv : VT (t1, t2)
  case neg =>
    have he : er s (t1, t2) keep = 4 := by unfold er; rw [if_neg (fun q => hv q.1)]
    simp +contextual (disch := omega) only [↓AM, ↓AV, AP, CQ, e0, hv]
    rw [he]
    exact ⟨rfl, f01⟩
  simp +contextual (disch := omega) only [↓AM, ↓AV, AP, CQ, e0, hv]
  refine WL.mk (fun k u h' => ∃ i : Nat, Wf h' ∧ Fm No h h' ∧ i ≤ s.length ∧ k = s.length - i ∧ (∀ x ∈ s.take i, SO x) ∧ u = [(0, some (.slice oa s.length c)), (2, some (.int .i64 keep)), (7, some (.int .i64 (i : Int)))]) ⟨s.length, 0, w1, f01, by omega, rfl, by simp, rfl⟩ ?_
  rintro k u h2 ⟨i, w2, f2, hi, rfl, hall, rfl⟩
  by_cases hin : i < s.length
  · obtain ⟨b1, o1, s1, x, rfl, p1, hx, r1, r2⟩ := (ha.keepW w f2 nNo).elem segC_len rfl hin
    have r4 : h2.rdN b1 (o1 + i * 7 + 1) 4 = some [.int .i64 x.2.1.1, .int .i64 x.2.1.2, .int .i64 x.2.2.1.1, .int .i64 x.2.2.1.2] := rdN_sub (k := 1) (l := 4) r1 (by omega)
    simp +contextual (disch := omega) only [↓AM, ↓AV, AP, CQ, e0, hin, p1, r4]
    refine (c_rspan (x := x)).use ?_
    rintro _ h3 w3 ⟨rfl, f3⟩
    have f23 := f2.trans f3 fun _ _ f => f
    by_cases hs : SO x
    · simp +contextual (disch := omega) only [↓AM, ↓AV, AP, CQ, e0, hs, i64]
      refine ⟨_, ?_, i + 1, w3, f23, by omega, rfl, ?_, rfl⟩
      · omega
      · rw [List.take_add_one, hx]
        intro y hy
        rcases List.mem_append.1 hy with hy | hy
        · exact hall y hy
        · have : y = x := by simpa using hy
          rw [this]; exact hs
    · have he : er s (t1, t2) keep = 4 := by unfold er; rw [if_neg (fun q => hs (q.2 x (List.mem_of_getElem? hx)))]
      simp +contextual (disch := omega) only [↓AM, ↓AV, AP, CQ, e0, hs]
      rw [he]
      exact ⟨rfl, f23⟩
  · rw [List.take_of_length_le (by omega)] at hall
    simp +contextual (disch := omega) only [↓AM, ↓AV, AP, CQ, e0, hin]
    refine c_in.use ?_
    rintro _ h3 w3 ⟨rfl, rfl⟩
    by_cases hk : 1 ≤ keep ∧ keep ≤ 60
    · have he : er s (t1, t2) keep = 0 := by unfold er; rw [if_pos ⟨hv, hall⟩, if_pos hk]
      simp +contextual (disch := omega) only [↓AM, ↓AV, AP, CQ, e0, hk]
      rw [he]
      exact ⟨rfl, f2⟩
    · have he : er s (t1, t2) keep = 1 := by unfold er; rw [if_pos ⟨hv, hall⟩, if_neg hk]
      simp +contextual (disch := omega) only [↓AM, ↓AV, AP, CQ, e0, hk]
      rw [he]
      exact ⟨rfl, f2⟩
end Go.Proofs.Ytikbdeobghoglaa.St

/- The Big numbers of the document: with signs, added and subtracted. Plain theorems over the abstract machine.
   Conditions: none. -/
namespace Go.Proofs.Ytikbdeobghoglaa.Nu
open Go Go.RowKit Go.Proofs.Ytikbdeobghoglaa.Am Go.Proofs.Ytikbdeobghoglaa.Af Go.Proofs.Ytikbdeobghoglaa.Md
set_option linter.unusedVariables false
set_option linter.unusedSimpArgs false
set_option linter.defProp false
set_option maxRecDepth 20000
set_option maxHeartbeats 1000000

theorem zv_sg {h : Hp} {v : Value} {g : Bool} {n : Nat} {z : Int} (l : Bv h v (g && decide (0 < n)) n) (hz : z = if g then -(n : Int) else (n : Int)) : Zv h v z := by
  subst hz
  cases g
  · exact zv_pos l
  · exact zv_neg (by simpa using l)
theorem Em.raw {h : Hp} {oa : Option Addr} {c x : Nat} {g : Bool} (l : Em h oa (de x).length c (de x)) (n : Nat) (hn : (de x).length ≤ n) : Raw h (.agg #[.bool g, .slice oa (de x).length c]) g x n := ⟨oa, c, de x, rfl, l, de_val x, hn, l.fl, l.nl⟩
theorem c_Negate {h : Hp} {u : Value} {z : Int} (lx : Zv h u z) (hx : (de z.natAbs).length ≤ 1000000) :
    ACalls Try.prog 119 [u] h fun r h' => Zv h' r (-z) ∧ Fm No h h' := by
  refine dioramaref00_Negate_ok.snd Af.hm rfl fun w => ?_
  rw [WF_eq, dioramaref00_Negate]
  obtain ⟨a, c, rfl, la⟩ := zv_e lx
  generalize hg : decide (z < 0) = gz
  obtain ⟨hA, b1, eA, uA, FA, kA, -, -, -⟩ := (Fr.mk0 w).new _ (st2 (b := gz) (oa := a) (n := (de z.natAbs).length) (c := c))
  obtain ⟨hB, b2, eB, uB, FB, kB, -, -, -⟩ := FA.new _ (st2 (b := false) (oa := none) (n := 0) (c := 0))
  obtain ⟨hC, b3, eC, uC, FC, kC, -, -, -⟩ := FB.new _ (st2 (b := false) (oa := none) (n := 0) (c := 0))
  obtain ⟨-, ⟨-, r1, n1⟩, -⟩ := FB.facts
  obtain ⟨⟨g3, -, -⟩, ⟨-, -, -⟩, ⟨-, r1b, n1b⟩, -⟩ := FC.facts
  obtain ⟨hD, eD, FD, kD, -⟩ := FC.put0 [.bool (gz), .slice a (de z.natAbs).length c] st2 rfl
  obtain ⟨⟨g3d, -, -⟩, ⟨-, -, -⟩, ⟨-, r1d, n1d⟩, -⟩ := FD.facts
  obtain ⟨hE, eE, FE, kE, -⟩ := FD.put0 [.bool (!gz), .slice a (de z.natAbs).length c] st2 rfl
  obtain ⟨⟨g3e, -, n3e⟩, ⟨g2e, -, -⟩, -⟩ := FE.facts
  have eE' : hC.put b3 ⟨[.bool (!gz), .slice a (de z.natAbs).length c], .own⟩ = hE := by rw [← eE, ← eD]; exact put_put.symm
  have la5 := ((((kA.trans kB).trans kC).trans kD).trans kE) _ _ _ _ la
  simp +contextual (disch := omega) only [↓AM, ↓AV, AP, CQ, eA, uA, eB, uB, eC, uC, r1, n1, g3, eD, r1d, n1d, g3d, eE, eE', n3e]
  refine (c_btrimR (la5.raw (g := !gz) 1000000 hx) (by omega)).use ?_
  rintro _ h2 w2 ⟨l2, fm2⟩
  have b2' := l2.bv
  obtain ⟨F2, k2⟩ := FE.call fm2 w2
  obtain ⟨p, q, rfl, lp⟩ := b2'
  obtain ⟨-, ⟨g2f, -, -⟩, -⟩ := F2.facts
  obtain ⟨h3, e3, F3, k3, -⟩ := F2.put1 [.bool ((!gz) && decide (0 < z.natAbs)), .slice p (de z.natAbs).length q] st2 rfl
  obtain ⟨-, ⟨-, -, n2f⟩, -⟩ := F3.facts
  simp +contextual (disch := omega) only [↓AM, ↓AV, AP, CQ, eA, uA, eB, uB, eC, uC, g2f, e3, n2f]
  exact ⟨zv_sg ⟨p, q, rfl, k3 _ _ _ _ lp⟩ (by
    cases gz
    · have := of_decide_eq_false hg
      show -z = -(z.natAbs : Int); omega
    · have := of_decide_eq_true hg
      show -z = (z.natAbs : Int); omega), F3.fm⟩
theorem c_Add {h : Hp} {u v : Value} {x y : Int} (lx : Zv h u x) (ly : Zv h v y) (hx : (de x.natAbs).length ≤ 400000) (hy : (de y.natAbs).length ≤ 400000) :
    ACalls Try.prog 117 [u, v] h fun r h' => Zv h' r (x + y) ∧ Fm No h h' := by
  refine dioramaref00_Add_ok.snd Af.hm rfl fun w => ?_
  rw [WF_eq, dioramaref00_Add]
  obtain ⟨a, c, rfl, la⟩ := zv_e lx
  obtain ⟨b, d, rfl, lb⟩ := zv_e ly
  generalize hgx : decide (x < 0) = gx
  generalize hgy : decide (y < 0) = gy
  obtain ⟨hA, b1, eA, uA, FA, kA, -, -, -⟩ := (Fr.mk0 w).new _ (st2 (b := gx) (oa := a) (n := (de x.natAbs).length) (c := c))
  obtain ⟨hB, b2, eB, uB, FB, kB, -, -, -⟩ := FA.new _ (st2 (b := gy) (oa := b) (n := (de y.natAbs).length) (c := d))
  obtain ⟨hC, b3, eC, uC, FC, kC, -, -, -⟩ := FB.new _ (st2 (b := false) (oa := none) (n := 0) (c := 0))
  obtain ⟨⟨g3, -, -⟩, ⟨-, r2, n2⟩, ⟨-, r1, n1⟩, -⟩ := FC.facts
  have kk := (kA.trans kB).trans kC
  have la := kk _ _ _ _ la
  have lb := kk _ _ _ _ lb
  by_cases hg : gx = gy
  · subst hg
    have e0 : (gx == gx) = true := by simp
    simp +contextual (disch := omega) only [↓AM, ↓AV, AP, CQ, eA, uA, eB, uB, eC, uC, r1, r2, n1, n2, e0]
    refine (c_bplus la lb hx hy).use ?_
    rintro _ h2 w2 ⟨⟨p, q, L, rfl, l, hv, hl, hfl, hnl⟩, fm2⟩
    obtain ⟨F2, k2⟩ := FC.call fm2 w2
    obtain ⟨h3, b4, e3, u3, F3, k3, -, -, -⟩ := F2.new _ (st2 (b := false) (oa := none) (n := 0) (c := 0))
    obtain ⟨⟨g4, -, -⟩, -⟩ := F3.facts
    obtain ⟨h4, e4, F4, k4, -⟩ := F3.put0 [.bool false, .slice p L.length q] st2 rfl
    obtain ⟨⟨g4b, -, -⟩, -, ⟨-, r2b, n2b⟩, ⟨-, r1b, n1b⟩, -⟩ := F4.facts
    obtain ⟨h5, e5, F5, k5, -⟩ := F4.put0 [.bool gx, .slice p L.length q] st2 rfl
    obtain ⟨⟨-, -, n4c⟩, -⟩ := F5.facts
    have e5' : h3.put b4 ⟨[.bool gx, .slice p L.length q], .own⟩ = h5 := by rw [← e5, ← e4]; exact put_put.symm
    simp +contextual (disch := omega) only [↓AM, ↓AV, AP, CQ, eA, uA, eB, uB, eC, uC, e3, u3, g4, e4, g4b, r1b, e5, e5', n4c]
    refine (c_btrimR (v := .agg #[.bool gx, .slice p L.length q]) (x := x.natAbs + y.natAbs) ⟨p, q, L, rfl, ((k3.trans k4).trans k5) _ _ _ _ l, hv, hl, hfl, hnl⟩ (by omega)).use ?_
    rintro _ h6 w6 ⟨l6, fm6⟩
    obtain ⟨F6, k6⟩ := F5.call fm6 w6
    obtain ⟨p6, q6, rfl, lp6⟩ := l6.bv
    obtain ⟨-, ⟨g3c, -, -⟩, -⟩ := F6.facts
    obtain ⟨h7, e7, F7, k7, -⟩ := F6.put1 [.bool (gx && decide (0 < x.natAbs + y.natAbs)), .slice p6 (de (x.natAbs + y.natAbs)).length q6] st2 rfl
    obtain ⟨-, ⟨-, -, n3c⟩, -⟩ := F7.facts
    simp +contextual (disch := omega) only [↓AM, ↓AV, AP, CQ, eA, uA, eB, uB, eC, uC, g3c, e7, n3c]
    refine ⟨zv_sg ⟨p6, q6, rfl, k7 _ _ _ _ lp6⟩ ?_, F7.fm⟩
    cases gx
    · have := of_decide_eq_false hgx; have := of_decide_eq_false hgy
      rw [if_neg (by simp)]; omega
    · have := of_decide_eq_true hgx; have := of_decide_eq_true hgy
      rw [if_pos rfl]; omega
  · have e0 : (gx == gy) = false := by simpa using hg
    simp +contextual (disch := omega) only [↓AM, ↓AV, AP, CQ, eA, uA, eB, uB, eC, uC, r1, r2, n1, n2, e0]
    refine (c_bsize la lb (by omega) (by omega)).use ?_
    rintro _ h2 w2 ⟨rfl, fm2⟩
    obtain ⟨F2, k2⟩ := FC.call fm2 w2
    obtain ⟨-, ⟨-, r2a, n2a⟩, ⟨-, r1a, n1a⟩, -⟩ := F2.facts
    have la := k2 _ _ _ _ la
    have lb := k2 _ _ _ _ lb
    by_cases hs : y.natAbs ≤ x.natAbs
    · have ec : ((0 : Int) ≤ (if x.natAbs < y.natAbs then (-1 : Int) else if x.natAbs = y.natAbs then 0 else 1)) = True := by
        refine eq_true ?_
        rw [if_neg (by omega)]; split <;> omega
      simp +contextual (disch := omega) only [↓AM, ↓AV, AP, CQ, eA, uA, eB, uB, eC, uC, ec, n1a, n2a]
      refine (c_bminus la lb hx hy hs).use ?_
      rintro _ h3 w3 ⟨l3, fm3⟩
      obtain ⟨F3, k3⟩ := F2.call fm3 w3
      obtain ⟨p, q, rfl, lp⟩ := l3.bv
      obtain ⟨h4, b4, e4, u4, F4, k4, -, -, -⟩ := F3.new _ (st2 (b := false) (oa := none) (n := 0) (c := 0))
      obtain ⟨⟨g4, -, -⟩, -⟩ := F4.facts
      obtain ⟨h5, e5, F5, k5, -⟩ := F4.put0 [.bool false, .slice p (de (x.natAbs - y.natAbs)).length q] st2 rfl
      obtain ⟨⟨g4b, -, -⟩, -, ⟨-, r2b, n2b⟩, ⟨-, r1b, n1b⟩, -⟩ := F5.facts
      obtain ⟨h6, e6, F6, k6, -⟩ := F5.put0 [.bool gx, .slice p (de (x.natAbs - y.natAbs)).length q] st2 rfl
      obtain ⟨⟨-, -, n4c⟩, -⟩ := F6.facts
      have e6' : h4.put b4 ⟨[.bool gx, .slice p (de (x.natAbs - y.natAbs)).length q], .own⟩ = h6 := by rw [← e6, ← e5]; exact put_put.symm
      simp +contextual (disch := omega) only [↓AM, ↓AV, AP, CQ, eA, uA, eB, uB, eC, uC, e4, u4, g4, e5, g4b, r1b, e6, e6', n4c]
      have hl : (de (x.natAbs - y.natAbs)).length ≤ 1000000 := Nat.le_trans (de_mono (Nat.sub_le _ _)) (by omega)
      refine (c_btrimR (Em.raw (g := gx) (((k4.trans k5).trans k6) _ _ _ _ lp) 1000000 hl) (by omega)).use ?_
      rintro _ h7 w7 ⟨l7, fm7⟩
      obtain ⟨F7, k7⟩ := F6.call fm7 w7
      obtain ⟨p6, q6, rfl, lp6⟩ := l7.bv
      obtain ⟨-, ⟨g3c, -, -⟩, -⟩ := F7.facts
      obtain ⟨h8, e8, F8, k8, -⟩ := F7.put1 [.bool (gx && decide (0 < x.natAbs - y.natAbs)), .slice p6 (de (x.natAbs - y.natAbs)).length q6] st2 rfl
      obtain ⟨-, ⟨-, -, n3c⟩, -⟩ := F8.facts
      simp +contextual (disch := omega) only [↓AM, ↓AV, AP, CQ, eA, uA, eB, uB, eC, uC, g3c, e8, n3c]
      refine ⟨zv_sg ⟨p6, q6, rfl, k8 _ _ _ _ lp6⟩ ?_, F8.fm⟩
      cases gx <;> cases gy
      · exact absurd rfl hg
      · have := of_decide_eq_false hgx; have := of_decide_eq_true hgy
        rw [if_neg (by simp)]; omega
      · have := of_decide_eq_true hgx; have := of_decide_eq_false hgy
        rw [if_pos rfl]; omega
      · exact absurd rfl hg
    · have ec : ((0 : Int) ≤ (if x.natAbs < y.natAbs then (-1 : Int) else if x.natAbs = y.natAbs then 0 else 1)) = False := by
        refine eq_false ?_
        rw [if_pos (by omega)]; omega
      simp +contextual (disch := omega) only [↓AM, ↓AV, AP, CQ, eA, uA, eB, uB, eC, uC, ec, n1a, n2a]
      refine (c_bminus lb la hy hx (by omega)).use ?_
      rintro _ h3 w3 ⟨l3, fm3⟩
      obtain ⟨F3, k3⟩ := F2.call fm3 w3
      obtain ⟨p, q, rfl, lp⟩ := l3.bv
      obtain ⟨h4, b4, e4, u4, F4, k4, -, -, -⟩ := F3.new _ (st2 (b := false) (oa := none) (n := 0) (c := 0))
      obtain ⟨⟨g4, -, -⟩, -⟩ := F4.facts
      obtain ⟨h5, e5, F5, k5, -⟩ := F4.put0 [.bool false, .slice p (de (y.natAbs - x.natAbs)).length q] st2 rfl
      obtain ⟨⟨g4b, -, -⟩, -, ⟨-, r2b, n2b⟩, ⟨-, r1b, n1b⟩, -⟩ := F5.facts
      obtain ⟨h6, e6, F6, k6, -⟩ := F5.put0 [.bool gy, .slice p (de (y.natAbs - x.natAbs)).length q] st2 rfl
      obtain ⟨⟨-, -, n4c⟩, -⟩ := F6.facts
      have e6' : h4.put b4 ⟨[.bool gy, .slice p (de (y.natAbs - x.natAbs)).length q], .own⟩ = h6 := by rw [← e6, ← e5]; exact put_put.symm
      simp +contextual (disch := omega) only [↓AM, ↓AV, AP, CQ, eA, uA, eB, uB, eC, uC, e4, u4, g4, e5, g4b, r2b, e6, e6', n4c]
      have hl : (de (y.natAbs - x.natAbs)).length ≤ 1000000 := Nat.le_trans (de_mono (Nat.sub_le _ _)) (by omega)
      refine (c_btrimR (Em.raw (g := gy) (((k4.trans k5).trans k6) _ _ _ _ lp) 1000000 hl) (by omega)).use ?_
      rintro _ h7 w7 ⟨l7, fm7⟩
      obtain ⟨F7, k7⟩ := F6.call fm7 w7
      obtain ⟨p6, q6, rfl, lp6⟩ := l7.bv
      obtain ⟨-, ⟨g3c, -, -⟩, -⟩ := F7.facts
      obtain ⟨h8, e8, F8, k8, -⟩ := F7.put1 [.bool (gy && decide (0 < y.natAbs - x.natAbs)), .slice p6 (de (y.natAbs - x.natAbs)).length q6] st2 rfl
      obtain ⟨-, ⟨-, -, n3c⟩, -⟩ := F8.facts
      simp +contextual (disch := omega) only [↓AM, ↓AV, AP, CQ, eA, uA, eB, uB, eC, uC, g3c, e8, n3c]
      refine ⟨zv_sg ⟨p6, q6, rfl, k8 _ _ _ _ lp6⟩ ?_, F8.fm⟩
      cases gx <;> cases gy
      · exact absurd rfl hg
      · have := of_decide_eq_false hgx; have := of_decide_eq_true hgy
        rw [if_pos rfl]; omega
      · have := of_decide_eq_true hgx; have := of_decide_eq_false hgy
        rw [if_neg (by simp)]; omega
      · exact absurd rfl hg
theorem c_Sub {h : Hp} {u v : Value} {x y : Int} (lx : Zv h u x) (ly : Zv h v y) (hx : (de x.natAbs).length ≤ 400000) (hy : (de y.natAbs).length ≤ 400000) :
    ACalls Try.prog 94 [u, v] h fun r h' => Zv h' r (x - y) ∧ Fm No h h' := by
  refine dioramaref00_Sub_ok.snd Af.hm rfl fun w => ?_
  rw [WF_eq, dioramaref00_Sub]
  obtain ⟨a, c, rfl, la⟩ := zv_e lx
  obtain ⟨b, d, rfl, lb⟩ := zv_e ly
  obtain ⟨hA, b1, eA, uA, FA, kA, -, -, -⟩ := (Fr.mk0 w).new _ (st2 (b := decide (x < 0)) (oa := a) (n := (de x.natAbs).length) (c := c))
  obtain ⟨hB, b2, eB, uB, FB, kB, -, -, -⟩ := FA.new _ (st2 (b := decide (y < 0)) (oa := b) (n := (de y.natAbs).length) (c := d))
  obtain ⟨hC, b3, eC, uC, FC, kC, -, -, -⟩ := FB.new _ (st2 (b := false) (oa := none) (n := 0) (c := 0))
  obtain ⟨⟨g3, -, -⟩, ⟨-, r2, n2⟩, ⟨-, r1, n1⟩, -⟩ := FC.facts
  have kk := (kA.trans kB).trans kC
  simp +contextual (disch := omega) only [↓AM, ↓AV, AP, CQ, eA, uA, eB, uB, eC, uC, r1, r2, n1, n2]
  refine (c_Negate (ly.kp kk) (by omega)).use ?_
  rintro v2 h2 w2 ⟨l2, fm2⟩
  obtain ⟨F2, k2⟩ := FC.call fm2 w2
  obtain ⟨⟨g3a, -, -⟩, ⟨-, r2a, n2a⟩, ⟨-, r1a, n1a⟩, -⟩ := F2.facts
  simp +contextual (disch := omega) only [↓AM, ↓AV, AP, CQ, eA, uA, eB, uB, eC, uC, n1a, n2a]
  refine ⟨⟨_, rfl, rfl⟩, ?_⟩
  refine (c_Add ((lx.kp kk).kp k2) l2 hx (by rw [Int.natAbs_neg]; exact hy)).use ?_
  rintro _ h4 w4 ⟨l4, fm4⟩
  obtain ⟨F4, k4⟩ := F2.call fm4 w4
  obtain ⟨p, q, rfl, lp⟩ := zv_e l4
  obtain ⟨⟨g3b, -, -⟩, -⟩ := F4.facts
  obtain ⟨h5, e5, F5, k5, -⟩ := F4.put0 [.bool (decide (x + -y < 0)), .slice p (de (x + -y).natAbs).length q] st2 rfl
  obtain ⟨⟨-, -, n3b⟩, -⟩ := F5.facts
  simp +contextual (disch := omega) only [↓AM, ↓AV, AP, CQ, eA, uA, eB, uB, eC, uC, g3b, e5, n3b]
  rw [Int.sub_eq_add_neg]
  exact ⟨⟨p, q, rfl, k5 _ _ _ _ lp⟩, F5.fm⟩
end Go.Proofs.Ytikbdeobghoglaa.Nu

/- The fractions of the document: added, subtracted, multiplied, divided, rounded. Plain theorems over the abstract machine.
   Conditions: none. Written by mko.py. -/
namespace Go.Proofs.Ytikbdeobghoglaa.Nu
open Go Go.RowKit Go.Proofs.Ytikbdeobghoglaa.Am Go.Proofs.Ytikbdeobghoglaa.Af Go.Proofs.Ytikbdeobghoglaa.Md
set_option linter.unusedVariables false
set_option linter.unusedSimpArgs false
set_option linter.defProp false
set_option maxRecDepth 20000
set_option maxHeartbeats 1000000

theorem zv_nat {h : Hp} {v : Value} {m : Nat} (l : Zv h v (m : Int)) : ∃ b d, v = .agg #[.bool false, .slice b (de m).length d] ∧ Em h b (de m).length d (de m) := by
  obtain ⟨b, d, e, l⟩ := l
  rw [nab] at l e
  rw [dlt] at e
  exact ⟨b, d, e, l⟩
theorem fv_e {h : Hp} {v : Value} {n : Int} {m : Nat} (l : Fv h v n m) : ∃ a c b d, v = .agg #[.bool (decide (n < 0)), .slice a (de n.natAbs).length c, .bool false, .slice b (de m).length d] ∧ Em h a (de n.natAbs).length c (de n.natAbs) ∧ Em h b (de m).length d (de m) := l
theorem de_add {x y : Int} {k : Nat} (hx : (de x.natAbs).length ≤ k) (hy : (de y.natAbs).length ≤ k) : (de (x + y).natAbs).length ≤ k + 1 := by
  have h1 := vL_lt (de_dl x.natAbs)
  have h2 := vL_lt (de_dl y.natAbs)
  rw [de_val] at h1 h2
  refine de_len ?_
  have h3 : B24 ^ (de x.natAbs).length ≤ B24 ^ k := Nat.pow_le_pow_right (by decide) hx
  have h4 : B24 ^ (de y.natAbs).length ≤ B24 ^ k := Nat.pow_le_pow_right (by decide) hy
  rw [Nat.pow_succ]
  have h5 : (x + y).natAbs ≤ x.natAbs + y.natAbs := Int.natAbs_add_le x y
  generalize B24 ^ k = K at *
  have : K * 2 ≤ K * B24 := Nat.mul_le_mul_left K (by decide)
  omega
theorem de_mulZ {x y : Int} {k l : Nat} (hx : (de x.natAbs).length ≤ k) (hy : (de y.natAbs).length ≤ l) : (de (x * y).natAbs).length ≤ k + l := by
  rw [Int.natAbs_mul]; exact de_mul hx hy
theorem c_AddF {h : Hp} {u v : Value} {n1 n2 : Int} {m1 m2 : Nat} (lu : Fv h u n1 m1) (lv : Fv h v n2 m2) (k1 : (de n1.natAbs).length ≤ 20) (k2 : (de m1).length ≤ 20) (k3 : (de n2.natAbs).length ≤ 20) (k4 : (de m2).length ≤ 20) (p1 : 0 < m1) (p2 : 0 < m2) :
    ACalls Try.prog 84 [u, v] h fun r h' => Fv h' r (lowN (n1 * m2 + n2 * m1) (m1 * m2)) (lowD (n1 * m2 + n2 * m1) (m1 * m2)) ∧ Fm No h h' := by
  refine dioramaref00_AddF_ok.snd Af.hm rfl fun w => ?_
  rw [WF_eq, dioramaref00_AddF]
  obtain ⟨a1, c1, q1, d1, rfl, l1, l2⟩ := fv_e lu
  obtain ⟨a2, c2, q2, d2, rfl, l3, l4⟩ := fv_e lv
  obtain ⟨hA, b1, eA, uA, FA, kA, -, -, -⟩ := (Fr.mk0 w).new _ (st4 (b := decide (n1 < 0)) (oa := a1) (n := (de n1.natAbs).length) (c := c1) (b' := false) (oa' := q1) (n' := (de m1).length) (c' := d1))
  obtain ⟨hB, b2, eB, uB, FB, kB, -, -, -⟩ := FA.new _ (st4 (b := decide (n2 < 0)) (oa := a2) (n := (de n2.natAbs).length) (c := c2) (b' := false) (oa' := q2) (n' := (de m2).length) (c' := d2))
  obtain ⟨hC, b3, eC, uC, FC, kC, -, -, -⟩ := FB.new _ (st4 (b := false) (oa := none) (n := 0) (c := 0) (b' := false) (oa' := none) (n' := 0) (c' := 0))
  obtain ⟨⟨g3, -, -⟩, ⟨g2, -, n2a, n2b, n2c⟩, ⟨g1, -, n1a, n1b, n1c⟩, -⟩ := FC.facts
  have kk := (kA.trans kB).trans kC
  have z1 : Zv hC (.agg #[.bool (decide (n1 < 0)), .slice a1 (de n1.natAbs).length c1]) n1 := ⟨a1, c1, rfl, kk _ _ _ _ l1⟩
  have z2 : Zv hC (.agg #[.bool (decide (n2 < 0)), .slice a2 (de n2.natAbs).length c2]) n2 := ⟨a2, c2, rfl, kk _ _ _ _ l3⟩
  have z3 : Zv hC (.agg #[.bool false, .slice q1 (de m1).length d1]) (m1 : Int) := zv_pos ⟨q1, d1, rfl, kk _ _ _ _ l2⟩
  have z4 : Zv hC (.agg #[.bool false, .slice q2 (de m2).length d2]) (m2 : Int) := zv_pos ⟨q2, d2, rfl, kk _ _ _ _ l4⟩
  simp +contextual (disch := omega) only [↓AM, ↓AV, AP, CQ, CN, i64, eA, uA, eB, uB, eC, uC, n1b, n1c, n2b, n2c]
  refine (c_MulZ z1 z4 (by omega) (by rw [nab]; omega)).use ?_
  rintro p h2 w2 ⟨lA, fm2⟩
  obtain ⟨F2, kD⟩ := FC.call fm2 w2
  obtain ⟨-, ⟨-, -, n2a, n2b, n2c⟩, ⟨-, -, n1a, n1b, n1c⟩, -⟩ := F2.facts
  simp +contextual (disch := omega) only [↓AM, ↓AV, AP, CQ, CN, i64, eA, uA, eB, uB, eC, uC, n1b, n1c, n2b, n2c]
  repeat (refine ⟨⟨_, rfl, rfl⟩, ?_⟩)
  refine (c_MulZ (z2.kp kD) (z3.kp kD) (by omega) (by rw [nab]; omega)).use ?_
  rintro q h3 w3 ⟨lB, fm3⟩
  obtain ⟨F3, kE⟩ := F2.call fm3 w3
  obtain ⟨-, ⟨-, -, n2a, n2b, n2c⟩, ⟨-, -, n1a, n1b, n1c⟩, -⟩ := F3.facts
  simp +contextual (disch := omega) only [↓AM, ↓AV, AP, CQ, CN, i64, eA, uA, eB, uB, eC, uC, n1b, n1c, n2b, n2c]
  repeat (refine ⟨⟨_, rfl, rfl⟩, ?_⟩)
  have s1 := de_mulZ (x := n1) (y := m2) k1 (by rw [nab]; exact k4)
  have s2 := de_mulZ (x := n2) (y := m1) k3 (by rw [nab]; exact k2)
  refine (c_Add (lA.kp kE) lB (by omega) (by omega)).use ?_
  rintro r h4 w4 ⟨lN, fm4⟩
  obtain ⟨F4, kF⟩ := F3.call fm4 w4
  obtain ⟨-, ⟨-, -, n2a, n2b, n2c⟩, ⟨-, -, n1a, n1b, n1c⟩, -⟩ := F4.facts
  simp +contextual (disch := omega) only [↓AM, ↓AV, AP, CQ, CN, i64, eA, uA, eB, uB, eC, uC, n1b, n1c, n2b, n2c]
  repeat (refine ⟨⟨_, rfl, rfl⟩, ?_⟩)
  refine (c_MulZ (((z3.kp kD).kp kE).kp kF) (((z4.kp kD).kp kE).kp kF) (by rw [nab]; omega) (by rw [nab]; omega)).use ?_
  rintro s h5 w5 ⟨lM, fm5⟩
  obtain ⟨F5, kG⟩ := F4.call fm5 w5
  rw [← Int.natCast_mul] at lM
  have lN := lN.kp kG
  have hlN : (de (n1 * m2 + n2 * m1).natAbs).length ≤ 90 := by
    have := de_add (x := n1 * m2) (y := n2 * m1) (k := 40) s1 (by exact s2)
    
    omega
  have hlM : (de (m1 * m2)).length ≤ 90 := by have := de_mul k2 k4; omega
  have hm0 : 0 < m1 * m2 := Nat.mul_pos p1 p2
  obtain ⟨pa, pc, rfl, lp⟩ := zv_e lN
  obtain ⟨qa, qc, rfl, lq⟩ := zv_nat lM
  obtain ⟨-, ⟨-, -, n2a, n2b, n2c⟩, ⟨-, -, n1a, n1b, n1c⟩, -⟩ := F5.facts
  simp +contextual (disch := omega) only [↓AM, ↓AV, AP, CQ, CN, i64, eA, uA, eB, uB, eC, uC, n1b, n1c, n2b, n2c]
  repeat (refine ⟨⟨_, rfl, rfl⟩, ?_⟩)
  refine (c_Lowest lp lq hlN hlM hm0).use ?_
  rintro _ h9 w9 ⟨⟨ra, rc, sa, sc, rfl, lr, ls⟩, fm9⟩
  obtain ⟨F9, k9⟩ := F5.call fm9 w9
  obtain ⟨⟨g9, -⟩, -⟩ := F9.facts
  obtain ⟨hX, eX, FX, kX, -⟩ := F9.put0 [.bool (decide (lowN (n1 * m2 + n2 * m1) (m1 * m2) < 0)), .slice ra (de (lowN (n1 * m2 + n2 * m1) (m1 * m2)).natAbs).length rc, .bool false, .slice sa (de (lowD (n1 * m2 + n2 * m1) (m1 * m2))).length sc] st4 rfl
  obtain ⟨⟨-, -, nX, -⟩, -⟩ := FX.facts
  simp +contextual (disch := omega) only [↓AM, ↓AV, AP, CQ, CN, i64, eA, uA, eB, uB, eC, uC, g9, eX, nX]
  exact ⟨⟨ra, rc, sa, sc, rfl, kX _ _ _ _ lr, kX _ _ _ _ ls⟩, FX.fm⟩
theorem c_SubF {h : Hp} {u v : Value} {n1 n2 : Int} {m1 m2 : Nat} (lu : Fv h u n1 m1) (lv : Fv h v n2 m2) (k1 : (de n1.natAbs).length ≤ 20) (k2 : (de m1).length ≤ 20) (k3 : (de n2.natAbs).length ≤ 20) (k4 : (de m2).length ≤ 20) (p1 : 0 < m1) (p2 : 0 < m2) :
    ACalls Try.prog 52 [u, v] h fun r h' => Fv h' r (lowN (n1 * m2 - n2 * m1) (m1 * m2)) (lowD (n1 * m2 - n2 * m1) (m1 * m2)) ∧ Fm No h h' := by
  refine dioramaref00_SubF_ok.snd Af.hm rfl fun w => ?_
  rw [WF_eq, dioramaref00_SubF]
  obtain ⟨a1, c1, q1, d1, rfl, l1, l2⟩ := fv_e lu
  obtain ⟨a2, c2, q2, d2, rfl, l3, l4⟩ := fv_e lv
  obtain ⟨hA, b1, eA, uA, FA, kA, -, -, -⟩ := (Fr.mk0 w).new _ (st4 (b := decide (n1 < 0)) (oa := a1) (n := (de n1.natAbs).length) (c := c1) (b' := false) (oa' := q1) (n' := (de m1).length) (c' := d1))
  obtain ⟨hB, b2, eB, uB, FB, kB, -, -, -⟩ := FA.new _ (st4 (b := decide (n2 < 0)) (oa := a2) (n := (de n2.natAbs).length) (c := c2) (b' := false) (oa' := q2) (n' := (de m2).length) (c' := d2))
  obtain ⟨hC, b3, eC, uC, FC, kC, -, -, -⟩ := FB.new _ (st4 (b := false) (oa := none) (n := 0) (c := 0) (b' := false) (oa' := none) (n' := 0) (c' := 0))
  obtain ⟨⟨g3, -, -⟩, ⟨g2, -, n2a, n2b, n2c⟩, ⟨g1, -, n1a, n1b, n1c⟩, -⟩ := FC.facts
  have kk := (kA.trans kB).trans kC
  have z1 : Zv hC (.agg #[.bool (decide (n1 < 0)), .slice a1 (de n1.natAbs).length c1]) n1 := ⟨a1, c1, rfl, kk _ _ _ _ l1⟩
  have z2 : Zv hC (.agg #[.bool (decide (n2 < 0)), .slice a2 (de n2.natAbs).length c2]) n2 := ⟨a2, c2, rfl, kk _ _ _ _ l3⟩
  have z3 : Zv hC (.agg #[.bool false, .slice q1 (de m1).length d1]) (m1 : Int) := zv_pos ⟨q1, d1, rfl, kk _ _ _ _ l2⟩
  have z4 : Zv hC (.agg #[.bool false, .slice q2 (de m2).length d2]) (m2 : Int) := zv_pos ⟨q2, d2, rfl, kk _ _ _ _ l4⟩
  simp +contextual (disch := omega) only [↓AM, ↓AV, AP, CQ, CN, i64, eA, uA, eB, uB, eC, uC, n1b, n1c, n2b, n2c]
  refine (c_MulZ z1 z4 (by omega) (by rw [nab]; omega)).use ?_
  rintro p h2 w2 ⟨lA, fm2⟩
  obtain ⟨F2, kD⟩ := FC.call fm2 w2
  obtain ⟨-, ⟨-, -, n2a, n2b, n2c⟩, ⟨-, -, n1a, n1b, n1c⟩, -⟩ := F2.facts
  simp +contextual (disch := omega) only [↓AM, ↓AV, AP, CQ, CN, i64, eA, uA, eB, uB, eC, uC, n1b, n1c, n2b, n2c]
  repeat (refine ⟨⟨_, rfl, rfl⟩, ?_⟩)
  refine (c_MulZ (z2.kp kD) (z3.kp kD) (by omega) (by rw [nab]; omega)).use ?_
  rintro q h3 w3 ⟨lB, fm3⟩
  obtain ⟨F3, kE⟩ := F2.call fm3 w3
  obtain ⟨-, ⟨-, -, n2a, n2b, n2c⟩, ⟨-, -, n1a, n1b, n1c⟩, -⟩ := F3.facts
  simp +contextual (disch := omega) only [↓AM, ↓AV, AP, CQ, CN, i64, eA, uA, eB, uB, eC, uC, n1b, n1c, n2b, n2c]
  repeat (refine ⟨⟨_, rfl, rfl⟩, ?_⟩)
  have s1 := de_mulZ (x := n1) (y := m2) k1 (by rw [nab]; exact k4)
  have s2 := de_mulZ (x := n2) (y := m1) k3 (by rw [nab]; exact k2)
  refine (c_Sub (lA.kp kE) lB (by omega) (by omega)).use ?_
  rintro r h4 w4 ⟨lN, fm4⟩
  obtain ⟨F4, kF⟩ := F3.call fm4 w4
  obtain ⟨-, ⟨-, -, n2a, n2b, n2c⟩, ⟨-, -, n1a, n1b, n1c⟩, -⟩ := F4.facts
  simp +contextual (disch := omega) only [↓AM, ↓AV, AP, CQ, CN, i64, eA, uA, eB, uB, eC, uC, n1b, n1c, n2b, n2c]
  repeat (refine ⟨⟨_, rfl, rfl⟩, ?_⟩)
  refine (c_MulZ (((z3.kp kD).kp kE).kp kF) (((z4.kp kD).kp kE).kp kF) (by rw [nab]; omega) (by rw [nab]; omega)).use ?_
  rintro s h5 w5 ⟨lM, fm5⟩
  obtain ⟨F5, kG⟩ := F4.call fm5 w5
  rw [← Int.natCast_mul] at lM
  have lN := lN.kp kG
  have hlN : (de (n1 * m2 - n2 * m1).natAbs).length ≤ 90 := by
    have := de_add (x := n1 * m2) (y := -(n2 * m1)) (k := 40) s1 (by rw [Int.natAbs_neg]; exact s2)
    rw [← Int.sub_eq_add_neg] at this
    omega
  have hlM : (de (m1 * m2)).length ≤ 90 := by have := de_mul k2 k4; omega
  have hm0 : 0 < m1 * m2 := Nat.mul_pos p1 p2
  obtain ⟨pa, pc, rfl, lp⟩ := zv_e lN
  obtain ⟨qa, qc, rfl, lq⟩ := zv_nat lM
  obtain ⟨-, ⟨-, -, n2a, n2b, n2c⟩, ⟨-, -, n1a, n1b, n1c⟩, -⟩ := F5.facts
  simp +contextual (disch := omega) only [↓AM, ↓AV, AP, CQ, CN, i64, eA, uA, eB, uB, eC, uC, n1b, n1c, n2b, n2c]
  repeat (refine ⟨⟨_, rfl, rfl⟩, ?_⟩)
  refine (c_Lowest lp lq hlN hlM hm0).use ?_
  rintro _ h9 w9 ⟨⟨ra, rc, sa, sc, rfl, lr, ls⟩, fm9⟩
  obtain ⟨F9, k9⟩ := F5.call fm9 w9
  obtain ⟨⟨g9, -⟩, -⟩ := F9.facts
  obtain ⟨hX, eX, FX, kX, -⟩ := F9.put0 [.bool (decide (lowN (n1 * m2 - n2 * m1) (m1 * m2) < 0)), .slice ra (de (lowN (n1 * m2 - n2 * m1) (m1 * m2)).natAbs).length rc, .bool false, .slice sa (de (lowD (n1 * m2 - n2 * m1) (m1 * m2))).length sc] st4 rfl
  obtain ⟨⟨-, -, nX, -⟩, -⟩ := FX.facts
  simp +contextual (disch := omega) only [↓AM, ↓AV, AP, CQ, CN, i64, eA, uA, eB, uB, eC, uC, g9, eX, nX]
  exact ⟨⟨ra, rc, sa, sc, rfl, kX _ _ _ _ lr, kX _ _ _ _ ls⟩, FX.fm⟩
theorem c_MulF {h : Hp} {u v : Value} {n1 n2 : Int} {m1 m2 : Nat} (lu : Fv h u n1 m1) (lv : Fv h v n2 m2) (k1 : (de n1.natAbs).length ≤ 20) (k2 : (de m1).length ≤ 20) (k3 : (de n2.natAbs).length ≤ 20) (k4 : (de m2).length ≤ 20) (p1 : 0 < m1) (p2 : 0 < m2) :
    ACalls Try.prog 82 [u, v] h fun r h' => Fv h' r (lowN (n1 * n2) (m1 * m2)) (lowD (n1 * n2) (m1 * m2)) ∧ Fm No h h' := by
  refine dioramaref00_MulF_ok.snd Af.hm rfl fun w => ?_
  rw [WF_eq, dioramaref00_MulF]
  obtain ⟨a1, c1, q1, d1, rfl, l1, l2⟩ := fv_e lu
  obtain ⟨a2, c2, q2, d2, rfl, l3, l4⟩ := fv_e lv
  obtain ⟨hA, b1, eA, uA, FA, kA, -, -, -⟩ := (Fr.mk0 w).new _ (st4 (b := decide (n1 < 0)) (oa := a1) (n := (de n1.natAbs).length) (c := c1) (b' := false) (oa' := q1) (n' := (de m1).length) (c' := d1))
  obtain ⟨hB, b2, eB, uB, FB, kB, -, -, -⟩ := FA.new _ (st4 (b := decide (n2 < 0)) (oa := a2) (n := (de n2.natAbs).length) (c := c2) (b' := false) (oa' := q2) (n' := (de m2).length) (c' := d2))
  obtain ⟨hC, b3, eC, uC, FC, kC, -, -, -⟩ := FB.new _ (st4 (b := false) (oa := none) (n := 0) (c := 0) (b' := false) (oa' := none) (n' := 0) (c' := 0))
  obtain ⟨⟨g3, -, -⟩, ⟨g2, -, n2a, n2b, n2c⟩, ⟨g1, -, n1a, n1b, n1c⟩, -⟩ := FC.facts
  have kk := (kA.trans kB).trans kC
  have z1 : Zv hC (.agg #[.bool (decide (n1 < 0)), .slice a1 (de n1.natAbs).length c1]) n1 := ⟨a1, c1, rfl, kk _ _ _ _ l1⟩
  have z2 : Zv hC (.agg #[.bool (decide (n2 < 0)), .slice a2 (de n2.natAbs).length c2]) n2 := ⟨a2, c2, rfl, kk _ _ _ _ l3⟩
  have z3 : Zv hC (.agg #[.bool false, .slice q1 (de m1).length d1]) (m1 : Int) := zv_pos ⟨q1, d1, rfl, kk _ _ _ _ l2⟩
  have z4 : Zv hC (.agg #[.bool false, .slice q2 (de m2).length d2]) (m2 : Int) := zv_pos ⟨q2, d2, rfl, kk _ _ _ _ l4⟩
  simp +contextual (disch := omega) only [↓AM, ↓AV, AP, CQ, CN, i64, eA, uA, eB, uB, eC, uC, n1b, n1c, n2b, n2c]
  refine (c_MulZ z1 z2 (by omega) (by omega)).use ?_
  rintro p h2 w2 ⟨lN, fm2⟩
  obtain ⟨F2, kD⟩ := FC.call fm2 w2
  obtain ⟨-, ⟨-, -, n2a, n2b, n2c⟩, ⟨-, -, n1a, n1b, n1c⟩, -⟩ := F2.facts
  simp +contextual (disch := omega) only [↓AM, ↓AV, AP, CQ, CN, i64, eA, uA, eB, uB, eC, uC, n1b, n1c, n2b, n2c]
  repeat (refine ⟨⟨_, rfl, rfl⟩, ?_⟩)
  refine (c_MulZ (z3.kp kD) (z4.kp kD) (by rw [nab]; omega) (by rw [nab]; omega)).use ?_
  rintro q h3 w3 ⟨lM, fm3⟩
  obtain ⟨F3, kE⟩ := F2.call fm3 w3
  rw [← Int.natCast_mul] at lM
  have lN := lN.kp kE
  have hlN : (de (n1 * n2).natAbs).length ≤ 90 := by
    have := de_mulZ (x := n1) (y := n2) k1 (k3)
    omega
  have hlM : (de (m1 * m2)).length ≤ 90 := by have := de_mul k2 k4; omega
  have hm0 : 0 < m1 * m2 := Nat.mul_pos p1 p2
  obtain ⟨pa, pc, rfl, lp⟩ := zv_e lN
  obtain ⟨qa, qc, rfl, lq⟩ := zv_nat lM
  obtain ⟨-, ⟨-, -, n2a, n2b, n2c⟩, ⟨-, -, n1a, n1b, n1c⟩, -⟩ := F3.facts
  simp +contextual (disch := omega) only [↓AM, ↓AV, AP, CQ, CN, i64, eA, uA, eB, uB, eC, uC, n1b, n1c, n2b, n2c]
  repeat (refine ⟨⟨_, rfl, rfl⟩, ?_⟩)
  refine (c_Lowest lp lq hlN hlM hm0).use ?_
  rintro _ h9 w9 ⟨⟨ra, rc, sa, sc, rfl, lr, ls⟩, fm9⟩
  obtain ⟨F9, k9⟩ := F3.call fm9 w9
  obtain ⟨⟨g9, -⟩, -⟩ := F9.facts
  obtain ⟨hX, eX, FX, kX, -⟩ := F9.put0 [.bool (decide (lowN (n1 * n2) (m1 * m2) < 0)), .slice ra (de (lowN (n1 * n2) (m1 * m2)).natAbs).length rc, .bool false, .slice sa (de (lowD (n1 * n2) (m1 * m2))).length sc] st4 rfl
  obtain ⟨⟨-, -, nX, -⟩, -⟩ := FX.facts
  simp +contextual (disch := omega) only [↓AM, ↓AV, AP, CQ, CN, i64, eA, uA, eB, uB, eC, uC, g9, eX, nX]
  exact ⟨⟨ra, rc, sa, sc, rfl, kX _ _ _ _ lr, kX _ _ _ _ ls⟩, FX.fm⟩
theorem c_DivF {h : Hp} {u v : Value} {n1 : Int} {n2 : Nat} {m1 m2 : Nat} (lu : Fv h u n1 m1) (lv : Fv h v n2 m2) (k1 : (de n1.natAbs).length ≤ 20) (k2 : (de m1).length ≤ 20) (k3 : (de ((n2 : Nat) : Int).natAbs).length ≤ 20) (k4 : (de m2).length ≤ 20) (p1 : 0 < m1) (p2 : 0 < m2) (p3 : 0 < n2) :
    ACalls Try.prog 86 [u, v] h fun r h' => Fv h' r (lowN (n1 * m2) (m1 * n2)) (lowD (n1 * m2) (m1 * n2)) ∧ Fm No h h' := by
  refine dioramaref00_DivF_ok.snd Af.hm rfl fun w => ?_
  rw [WF_eq, dioramaref00_DivF]
  obtain ⟨a1, c1, q1, d1, rfl, l1, l2⟩ := fv_e lu
  obtain ⟨a2, c2, q2, d2, rfl, l3, l4⟩ := fv_e lv
  obtain ⟨hA, b1, eA, uA, FA, kA, -, -, -⟩ := (Fr.mk0 w).new _ (st4 (b := decide (n1 < 0)) (oa := a1) (n := (de n1.natAbs).length) (c := c1) (b' := false) (oa' := q1) (n' := (de m1).length) (c' := d1))
  obtain ⟨hB, b2, eB, uB, FB, kB, -, -, -⟩ := FA.new _ (st4 (b := decide (((n2 : Nat) : Int) < 0)) (oa := a2) (n := (de ((n2 : Nat) : Int).natAbs).length) (c := c2) (b' := false) (oa' := q2) (n' := (de m2).length) (c' := d2))
  obtain ⟨hC, b3, eC, uC, FC, kC, -, -, -⟩ := FB.new _ (st4 (b := false) (oa := none) (n := 0) (c := 0) (b' := false) (oa' := none) (n' := 0) (c' := 0))
  obtain ⟨⟨g3, -, -⟩, ⟨g2, -, n2a, n2b, n2c⟩, ⟨g1, -, n1a, n1b, n1c⟩, -⟩ := FC.facts
  have kk := (kA.trans kB).trans kC
  have z1 : Zv hC (.agg #[.bool (decide (n1 < 0)), .slice a1 (de n1.natAbs).length c1]) n1 := ⟨a1, c1, rfl, kk _ _ _ _ l1⟩
  have z2 : Zv hC (.agg #[.bool (decide (((n2 : Nat) : Int) < 0)), .slice a2 (de ((n2 : Nat) : Int).natAbs).length c2]) ((n2 : Nat) : Int) := ⟨a2, c2, rfl, kk _ _ _ _ l3⟩
  have z3 : Zv hC (.agg #[.bool false, .slice q1 (de m1).length d1]) (m1 : Int) := zv_pos ⟨q1, d1, rfl, kk _ _ _ _ l2⟩
  have z4 : Zv hC (.agg #[.bool false, .slice q2 (de m2).length d2]) (m2 : Int) := zv_pos ⟨q2, d2, rfl, kk _ _ _ _ l4⟩
  simp +contextual (disch := omega) only [↓AM, ↓AV, AP, CQ, CN, i64, eA, uA, eB, uB, eC, uC, n1b, n1c, n2b, n2c]
  refine (c_MulZ z1 z4 (by omega) (by rw [nab]; omega)).use ?_
  rintro p h2 w2 ⟨lN, fm2⟩
  obtain ⟨F2, kD⟩ := FC.call fm2 w2
  obtain ⟨-, ⟨-, -, n2a, n2b, n2c⟩, ⟨-, -, n1a, n1b, n1c⟩, -⟩ := F2.facts
  simp +contextual (disch := omega) only [↓AM, ↓AV, AP, CQ, CN, i64, eA, uA, eB, uB, eC, uC, n1b, n1c, n2b, n2c]
  repeat (refine ⟨⟨_, rfl, rfl⟩, ?_⟩)
  refine (c_MulZ (z3.kp kD) (z2.kp kD) (by rw [nab]; omega) (by omega)).use ?_
  rintro q h3 w3 ⟨lM, fm3⟩
  obtain ⟨F3, kE⟩ := F2.call fm3 w3
  rw [← Int.natCast_mul] at lM
  have lN := lN.kp kE
  have hlN : (de (n1 * m2).natAbs).length ≤ 90 := by
    have := de_mulZ (x := n1) (y := m2) k1 (by rw [nab]; exact k4)
    omega
  have hlM : (de (m1 * n2)).length ≤ 90 := by have := de_mul k2 (by rw [nab] at k3; exact k3); omega
  have hm0 : 0 < m1 * n2 := Nat.mul_pos p1 p3
  obtain ⟨pa, pc, rfl, lp⟩ := zv_e lN
  obtain ⟨qa, qc, rfl, lq⟩ := zv_nat lM
  obtain ⟨-, ⟨-, -, n2a, n2b, n2c⟩, ⟨-, -, n1a, n1b, n1c⟩, -⟩ := F3.facts
  simp +contextual (disch := omega) only [↓AM, ↓AV, AP, CQ, CN, i64, eA, uA, eB, uB, eC, uC, n1b, n1c, n2b, n2c]
  repeat (refine ⟨⟨_, rfl, rfl⟩, ?_⟩)
  refine (c_Lowest lp lq hlN hlM hm0).use ?_
  rintro _ h9 w9 ⟨⟨ra, rc, sa, sc, rfl, lr, ls⟩, fm9⟩
  obtain ⟨F9, k9⟩ := F3.call fm9 w9
  obtain ⟨⟨g9, -⟩, -⟩ := F9.facts
  obtain ⟨hX, eX, FX, kX, -⟩ := F9.put0 [.bool (decide (lowN (n1 * m2) (m1 * n2) < 0)), .slice ra (de (lowN (n1 * m2) (m1 * n2)).natAbs).length rc, .bool false, .slice sa (de (lowD (n1 * m2) (m1 * n2))).length sc] st4 rfl
  obtain ⟨⟨-, -, nX, -⟩, -⟩ := FX.facts
  simp +contextual (disch := omega) only [↓AM, ↓AV, AP, CQ, CN, i64, eA, uA, eB, uB, eC, uC, g9, eX, nX]
  exact ⟨⟨ra, rc, sa, sc, rfl, kX _ _ _ _ lr, kX _ _ _ _ ls⟩, FX.fm⟩
end Go.Proofs.Ytikbdeobghoglaa.Nu

/- The fractions of the document: lowest forms, rounded, whole. Plain theorems over the abstract machine.
   Conditions: none. -/
namespace Go.Proofs.Ytikbdeobghoglaa.Nu
open Go Go.RowKit Go.Proofs.Ytikbdeobghoglaa.Am Go.Proofs.Ytikbdeobghoglaa.Af Go.Proofs.Ytikbdeobghoglaa.Md
set_option linter.unusedVariables false
set_option linter.unusedSimpArgs false
set_option linter.defProp false
set_option maxRecDepth 20000
set_option maxHeartbeats 1000000

theorem low_key {n : Int} {m : Nat} (hm : 0 < m) : ∃ g : Nat, 0 < g ∧ n = lowN n m * g ∧ m = lowD n m * g ∧ 0 < lowD n m ∧ Nat.Coprime (lowN n m).natAbs (lowD n m) := by
  have hg : 0 < Nat.gcd n.natAbs m := Nat.gcd_pos_of_pos_right _ hm
  have e1 : n = lowN n m * (Nat.gcd n.natAbs m : Nat) := by
    unfold lowN
    exact (Int.ediv_mul_cancel (Int.ofNat_dvd_left.2 (Nat.gcd_dvd_left _ _))).symm
  have e2 : m = lowD n m * Nat.gcd n.natAbs m := by
    unfold lowD
    rw [Nat.div_mul_cancel (Nat.gcd_dvd_right _ _)]
  have e3 : (lowN n m).natAbs = n.natAbs / Nat.gcd n.natAbs m := by
    have : n.natAbs = (lowN n m).natAbs * Nat.gcd n.natAbs m := by
      have := congrArg Int.natAbs e1
      rwa [Int.natAbs_mul, nab] at this
    exact (Nat.div_eq_of_eq_mul_left hg this).symm
  refine ⟨_, hg, e1, e2, ?_, ?_⟩
  · unfold lowD
    exact Nat.div_pos (Nat.le_of_dvd hm (Nat.gcd_dvd_right _ _)) hg
  · rw [e3]
    exact Nat.coprime_div_gcd_div_gcd hg
theorem low_uniq {n1 n2 : Int} {m1 m2 : Nat} (h1 : 0 < m1) (h2 : 0 < m2) (h : n1 * m2 = n2 * m1) : lowN n1 m1 = lowN n2 m2 ∧ lowD n1 m1 = lowD n2 m2 := by
  obtain ⟨g, hg, e1, e2, b0, c1⟩ := low_key (n := n1) h1
  obtain ⟨k, hk, e3, e4, d0, c2⟩ := low_key (n := n2) h2
  generalize lowN n1 m1 = a at *
  generalize lowD n1 m1 = b at *
  generalize lowN n2 m2 = c at *
  generalize lowD n2 m2 = d at *
  have hp : (0 : Int) < ((g * k : Nat) : Int) := by have := Nat.mul_pos hg hk; omega
  have l : n1 * m2 = (a * d) * ((g * k : Nat) : Int) := by rw [e4, e1, Int.natCast_mul, Int.natCast_mul]; ac_rfl
  have r : n2 * m1 = (c * b) * ((g * k : Nat) : Int) := by rw [e2, e3, Int.natCast_mul, Int.natCast_mul]; ac_rfl
  rw [l, r] at h
  have hx : a * (d : Int) = c * b := Int.eq_of_mul_eq_mul_right (by omega) h
  have hn : a.natAbs * d = c.natAbs * b := by
    have := congrArg Int.natAbs hx
    rwa [Int.natAbs_mul, Int.natAbs_mul, nab, nab] at this
  have d1 : b ∣ d := by
    refine (Nat.Coprime.symm c1).dvd_of_dvd_mul_left (m := a.natAbs) ?_
    exact ⟨c.natAbs, by rw [hn, Nat.mul_comm]⟩
  have d2 : d ∣ b := by
    refine (Nat.Coprime.symm c2).dvd_of_dvd_mul_left (m := c.natAbs) ?_
    exact ⟨a.natAbs, by rw [← hn, Nat.mul_comm]⟩
  have hbd : b = d := Nat.dvd_antisymm d1 d2
  subst hbd
  exact ⟨Int.eq_of_mul_eq_mul_right (by omega) hx, rfl⟩
theorem low_pos {n : Int} {m : Nat} (hm : 0 < m) : 0 < lowD n m := by
  obtain ⟨g, hg, e1, e2, b0, -⟩ := low_key (n := n) hm
  exact b0
theorem low_id {n : Int} {m : Nat} (hm : 0 < m) : lowN n m * m = n * lowD n m := by
  obtain ⟨g, hg, e1, e2, -, -⟩ := low_key (n := n) hm
  generalize lowN n m = a at *
  generalize lowD n m = b at *
  rw [e1, e2, Int.natCast_mul]; ac_rfl
/-- Lowest forms of equal fractions. -/
theorem low_low {n1 n2 : Int} {m1 m2 : Nat} (h1 : 0 < m1) (h2 : 0 < m2) (h : n1 * m2 = n2 * m1) {h' : Hp} {v : Value} (l : Fv h' v (lowN n1 m1) (lowD n1 m1)) : Fv h' v (lowN n2 m2) (lowD n2 m2) := by
  obtain ⟨e1, e2⟩ := low_uniq h1 h2 h
  rwa [e1, e2] at l
theorem lowD_one {n : Int} {m : Nat} (hm : 0 < m) : lowD n m = 1 ↔ (m : Int) ∣ n := by
  obtain ⟨g, hg, e1, e2, b0, c1⟩ := low_key (n := n) hm
  constructor
  · intro h
    generalize lowN n m = a at *
    rw [h, Nat.one_mul] at e2
    exact ⟨a, by rw [Int.mul_comm, e2]; exact e1⟩
  · rintro ⟨k, e⟩
    have := (low_uniq (n1 := n) (n2 := k) (m1 := m) (m2 := 1) hm Nat.one_pos (by rw [e]; simp [Int.mul_comm])).2
    rw [this]
    simp [lowD]
theorem c_Floor {h : Hp} {u : Value} {n : Int} {m : Nat} (lu : Fv h u n m) (k1 : (de n.natAbs).length ≤ 90) (k2 : (de m).length ≤ 90) (p1 : 0 < m) :
    ACalls Try.prog 95 [u] h fun r h' => Zv h' r (n / m) ∧ Fm No h h' := by
  refine dioramaref00_Floor_ok.snd Af.hm rfl fun w => ?_
  rw [WF_eq, dioramaref00_Floor]
  obtain ⟨a1, c1, q1, d1, rfl, l1, l2⟩ := fv_e lu
  obtain ⟨hA, b1, eA, uA, FA, kA, -, -, -⟩ := (Fr.mk0 w).new _ (st4 (b := decide (n < 0)) (oa := a1) (n := (de n.natAbs).length) (c := c1) (b' := false) (oa' := q1) (n' := (de m).length) (c' := d1))
  obtain ⟨hB, b2, eB, uB, FB, kB, -, -, -⟩ := FA.new _ (st2 (b := false) (oa := none) (n := 0) (c := 0))
  obtain ⟨-, ⟨-, -, n1a, n1b, n1c⟩, -⟩ := FB.facts
  have kk := kA.trans kB
  have z1 : Zv hB (.agg #[.bool (decide (n < 0)), .slice a1 (de n.natAbs).length c1]) n := ⟨a1, c1, rfl, kk _ _ _ _ l1⟩
  have z3 : Zv hB (.agg #[.bool false, .slice q1 (de m).length d1]) (m : Int) := zv_pos ⟨q1, d1, rfl, kk _ _ _ _ l2⟩
  simp +contextual (disch := omega) only [↓AM, ↓AV, AP, CQ, CN, i64, eA, uA, eB, uB, n1b, n1c]
  refine (c_DivModI z1 z3 k1 k2 p1).use ?_
  rintro _ h2 w2 ⟨p, q, rfl, lp, lq, fm2⟩
  obtain ⟨F2, kC⟩ := FB.call fm2 w2
  obtain ⟨pa, pc, rfl, lp'⟩ := zv_e lp
  obtain ⟨qa, qc, rfl, lq'⟩ := zv_e lq
  obtain ⟨h3, b3, e3, u3, F3, k3, -, -, -⟩ := F2.new _ (st2 (b := false) (oa := none) (n := 0) (c := 0))
  obtain ⟨h4, b4, e4, u4, F4, k4, -, -, -⟩ := F3.new _ (st2 (b := false) (oa := none) (n := 0) (c := 0))
  obtain ⟨⟨g4, -, -⟩, ⟨g3, -, -⟩, -⟩ := F4.facts
  obtain ⟨h5, e5, F5, k5, -⟩ := F4.put1 [.bool (decide (n / m < 0)), .slice pa (de (n / m).natAbs).length pc] st2 rfl
  obtain ⟨⟨g4a, -, -⟩, ⟨-, -, n3⟩, -⟩ := F5.facts
  obtain ⟨h6, e6, F6, k6, -⟩ := F5.put0 [.bool (decide (n % m < 0)), .slice qa (de (n % m).natAbs).length qc] st2 rfl
  obtain ⟨-, ⟨-, -, n3a⟩, ⟨g2, -, -⟩, -⟩ := F6.facts
  obtain ⟨h7, e7, F7, k7, -⟩ := F6.put2 [.bool (decide (n / m < 0)), .slice pa (de (n / m).natAbs).length pc] st2 rfl
  obtain ⟨-, -, ⟨-, -, n2⟩, -⟩ := F7.facts
  simp +contextual (disch := omega) only [↓AM, ↓AV, AP, CQ, CN, i64, eA, uA, eB, uB, e3, u3, e4, u4, g3, g4, e5, g4a, e6, n3a, g2, e7, n2]
  exact ⟨⟨pa, pc, rfl, ((((k3.trans k4).trans k5).trans k6).trans k7) _ _ _ _ lp'⟩, F7.fm⟩
theorem c_Ceil {h : Hp} {u : Value} {n : Int} {m : Nat} (lu : Fv h u n m) (k1 : (de n.natAbs).length ≤ 90) (k2 : (de m).length ≤ 90) (p1 : 0 < m) :
    ACalls Try.prog 118 [u] h fun r h' => Zv h' r (-(-n / m)) ∧ Fm No h h' := by
  refine dioramaref00_Ceil_ok.snd Af.hm rfl fun w => ?_
  rw [WF_eq, dioramaref00_Ceil]
  obtain ⟨a1, c1, q1, d1, rfl, l1, l2⟩ := fv_e lu
  obtain ⟨hA, b1, eA, uA, FA, kA, -, -, -⟩ := (Fr.mk0 w).new _ (st4 (b := decide (n < 0)) (oa := a1) (n := (de n.natAbs).length) (c := c1) (b' := false) (oa' := q1) (n' := (de m).length) (c' := d1))
  obtain ⟨hB, b2, eB, uB, FB, kB, -, -, -⟩ := FA.new _ (st2 (b := false) (oa := none) (n := 0) (c := 0))
  obtain ⟨-, ⟨-, -, n1a, n1b, n1c⟩, -⟩ := FB.facts
  have kk := kA.trans kB
  have z1 : Zv hB (.agg #[.bool (decide (n < 0)), .slice a1 (de n.natAbs).length c1]) n := ⟨a1, c1, rfl, kk _ _ _ _ l1⟩
  simp +contextual (disch := omega) only [↓AM, ↓AV, AP, CQ, CN, i64, eA, uA, eB, uB, n1b, n1c]
  refine (c_Negate z1 (by omega)).use ?_
  rintro _ h2 w2 ⟨lN, fm2⟩
  obtain ⟨F2, kC⟩ := FB.call fm2 w2
  obtain ⟨pa, pc, rfl, lp⟩ := zv_e lN
  obtain ⟨-, ⟨-, -, n1a, n1b, n1c⟩, -⟩ := F2.facts
  simp +contextual (disch := omega) only [↓AM, ↓AV, AP, CQ, CN, i64, eA, uA, eB, uB, n1b, n1c]
  repeat (refine ⟨⟨_, rfl, rfl⟩, ?_⟩)
  refine (c_Floor (n := -n) (m := m) ⟨pa, pc, q1, d1, rfl, lp, (kk.trans kC) _ _ _ _ l2⟩ (by rw [Int.natAbs_neg]; exact k1) k2 p1).use ?_
  rintro q h3 w3 ⟨lQ, fm3⟩
  obtain ⟨F3, kD⟩ := F2.call fm3 w3
  obtain ⟨-, ⟨-, -, n1a, n1b, n1c⟩, -⟩ := F3.facts
  simp +contextual (disch := omega) only [↓AM, ↓AV, AP, CQ, CN, i64, eA, uA, eB, uB, n1b, n1c]
  repeat (refine ⟨⟨_, rfl, rfl⟩, ?_⟩)
  have hq : (de (-n / m).natAbs).length ≤ 90 := by
    refine Nat.le_trans (de_mono ?_) k1
    have := Int.natAbs_ediv_le_natAbs (-n) m
    rwa [Int.natAbs_neg] at this
  refine (c_Negate lQ (by omega)).use ?_
  rintro _ h4 w4 ⟨lR, fm4⟩
  obtain ⟨F4, kE⟩ := F3.call fm4 w4
  obtain ⟨ra, rc, rfl, lr⟩ := zv_e lR
  obtain ⟨⟨g2, -, -⟩, ⟨-, -, n1a, n1b, n1c⟩, -⟩ := F4.facts
  obtain ⟨h5, e5, F5, k5, -⟩ := F4.put0 [.bool (decide (-(-n / m) < 0)), .slice ra (de (-(-n / m)).natAbs).length rc] st2 rfl
  obtain ⟨⟨-, -, n2⟩, -⟩ := F5.facts
  simp +contextual (disch := omega) only [↓AM, ↓AV, AP, CQ, CN, i64, eA, uA, eB, uB, n1b, n1c, g2, e5, n2]
  repeat (refine ⟨⟨_, rfl, rfl⟩, ?_⟩)
  exact ⟨⟨ra, rc, rfl, k5 _ _ _ _ lr⟩, F5.fm⟩
theorem c_IsWhole {h : Hp} {u : Value} {n : Int} {m : Nat} (lu : Fv h u n m) (k2 : (de m).length ≤ 90) :
    ACalls Try.prog 81 [u] h fun r h' => r = .bool (decide (m = 1)) ∧ Fm No h h' := by
  refine dioramaref00_IsWhole_ok.snd Af.hm rfl fun w => ?_
  rw [WF_eq, dioramaref00_IsWhole]
  obtain ⟨a1, c1, q1, d1, rfl, l1, l2⟩ := fv_e lu
  obtain ⟨hA, b1, eA, uA, FA, kA, -, -, -⟩ := (Fr.mk0 w).new _ (st4 (b := decide (n < 0)) (oa := a1) (n := (de n.natAbs).length) (c := c1) (b' := false) (oa' := q1) (n' := (de m).length) (c' := d1))
  obtain ⟨⟨-, -, n1a, n1b, n1c⟩, -⟩ := FA.facts
  have z3 : Zv hA (.agg #[.bool false, .slice q1 (de m).length d1]) (m : Int) := zv_pos ⟨q1, d1, rfl, kA _ _ _ _ l2⟩
  simp +contextual (disch := omega) only [↓AM, ↓AV, AP, CQ, CN, i64, eA, uA, n1b, n1c]
  refine (c_bOf (z := 1) (by decide)).use ?_
  rintro _ h2 w2 ⟨lo, fm2⟩
  obtain ⟨F2, kC⟩ := FA.call fm2 w2
  have lo : Zv h2 _ 1 := lo.bv
  obtain ⟨⟨-, -, n1a, n1b, n1c⟩, -⟩ := F2.facts
  simp +contextual (disch := omega) only [↓AM, ↓AV, AP, CQ, CN, i64, eA, uA, n1b, n1c]
  repeat (refine ⟨⟨_, rfl, rfl⟩, ?_⟩)
  refine (c_Cmp00 (z3.kp kC) lo (by rw [nab]; omega) (Nat.le_trans (de3 (by decide)) (by decide))).use ?_
  rintro _ h3 w3 ⟨rfl, fm3⟩
  obtain ⟨F3, kD⟩ := F2.call fm3 w3
  obtain ⟨⟨-, -, n1a, n1b, n1c⟩, -⟩ := F3.facts
  have ec : EqI (if (m : Int) < 1 then -1 else if (m : Int) = 1 then 0 else 1) 0 = (m = 1) := by
    unfold EqI
    refine propext ?_
    split
    · omega
    · split <;> omega
  simp +contextual (disch := omega) only [↓AM, ↓AV, AP, CQ, CN, i64, eA, uA, n1b, n1c, ec]
  repeat (refine ⟨⟨_, rfl, rfl⟩, ?_⟩)
  exact F3.fm
end Go.Proofs.Ytikbdeobghoglaa.Nu

/- The fractions of the document: millionths, and times. Plain theorems over the abstract machine.
   Conditions: none. -/
namespace Go.Proofs.Ytikbdeobghoglaa.Nu
open Go Go.RowKit Go.Proofs.Ytikbdeobghoglaa.Am Go.Proofs.Ytikbdeobghoglaa.Af Go.Proofs.Ytikbdeobghoglaa.Md
set_option linter.unusedVariables false
set_option linter.unusedSimpArgs false
set_option linter.defProp false
set_option maxRecDepth 20000
set_option maxHeartbeats 1000000

theorem c_zero27 {h : Hp} : ACalls Try.prog 53 [] h fun v h' => Fv h' v 0 1 ∧ Fm No h h' := by
  refine dioramaref27_zero_ok.snd Af.hm rfl fun w => ?_
  rw [WF_eq, dioramaref27_zero]
  obtain ⟨hA, b1, eA, uA, FA, -, -, -, lA⟩ := (Fr.mk0 w).new _ (st4 (b := false) (oa := none) (n := 0) (c := 0) (b' := false) (oa' := none) (n' := 0) (c' := 0))
  simp +contextual (disch := omega) only [↓AM, ↓AV, AP, CQ, CN, i64, eA, uA]
  have e1 : lowN 0 1 = 0 := by simp [lowN]
  have e2 : lowD 0 1 = 1 := by simp [lowD]
  refine (c_FracOf (n := 0) (m := 1) (by decide) (by decide) (by decide)).use ?_
  rintro _ h4 w4 ⟨l, fm4⟩
  rw [e1, e2] at l
  obtain ⟨p, q, r, s, rfl, l1, l2⟩ := l
  obtain ⟨F4, k4⟩ := FA.call fm4 w4
  obtain ⟨⟨g1, -⟩, -⟩ := F4.facts
  obtain ⟨h5, e5, F5, k5, -⟩ := F4.put0 [.bool (decide ((0 : Int) < 0)), .slice p (de (0 : Int).natAbs).length q, .bool false, .slice r (de 1).length s] st4 rfl
  obtain ⟨⟨-, -, n1, -⟩, -⟩ := F5.facts
  generalize hd : decide ((0 : Int) < 0) = dd at *
  simp +contextual (disch := omega) only [↓AM, ↓AV, AP, CQ, CN, i64, eA, uA, g1, e5, n1]
  exact ⟨⟨p, q, r, s, by rw [hd], k5 _ _ _ _ l1, k5 _ _ _ _ l2⟩, F5.fm⟩
theorem c_million {h : Hp} : ACalls Try.prog 83 [] h fun v h' => Fv h' v 1000000 1 ∧ Fm No h h' := by
  refine dioramaref27_million_ok.snd Af.hm rfl fun w => ?_
  rw [WF_eq, dioramaref27_million]
  obtain ⟨hA, b1, eA, uA, FA, -, -, -, lA⟩ := (Fr.mk0 w).new _ (st4 (b := false) (oa := none) (n := 0) (c := 0) (b' := false) (oa' := none) (n' := 0) (c' := 0))
  simp +contextual (disch := omega) only [↓AM, ↓AV, AP, CQ, CN, i64, eA, uA]
  have e1 : lowN 1000000 1 = 1000000 := by simp [lowN]
  have e2 : lowD 1000000 1 = 1 := by simp [lowD]
  refine (c_FracOf (n := 1000000) (m := 1) (by decide) (by decide) (by decide)).use ?_
  rintro _ h4 w4 ⟨l, fm4⟩
  rw [e1, e2] at l
  obtain ⟨p, q, r, s, rfl, l1, l2⟩ := l
  obtain ⟨F4, k4⟩ := FA.call fm4 w4
  obtain ⟨⟨g1, -⟩, -⟩ := F4.facts
  obtain ⟨h5, e5, F5, k5, -⟩ := F4.put0 [.bool (decide ((1000000 : Int) < 0)), .slice p (de (1000000 : Int).natAbs).length q, .bool false, .slice r (de 1).length s] st4 rfl
  obtain ⟨⟨-, -, n1, -⟩, -⟩ := F5.facts
  generalize hd : decide ((1000000 : Int) < 0) = dd at *
  simp +contextual (disch := omega) only [↓AM, ↓AV, AP, CQ, CN, i64, eA, uA, g1, e5, n1]
  exact ⟨⟨p, q, r, s, by rw [hd], k5 _ _ _ _ l1, k5 _ _ _ _ l2⟩, F5.fm⟩
/-- So many millionths. -/
def Mv (h : Hp) (v : Value) (k : Int) : Prop := Fv h v (lowN k 1000000) (lowD k 1000000)
theorem Mv.kp {h h' : Hp} {v : Value} {k : Int} (l : Mv h v k) (kk : Kp h h') : Mv h' v k := Fv.kp l kk
theorem lowN_len (n : Int) (m : Nat) : (de (lowN n m).natAbs).length ≤ (de n.natAbs).length := de_mono (by unfold lowN; exact Int.natAbs_ediv_le_natAbs n _)
theorem lowD_len (n : Int) (m : Nat) : (de (lowD n m)).length ≤ (de m).length := de_mono (by unfold lowD; exact Nat.div_le_self m _)
theorem dmil : (de 1000000).length ≤ 1 := de_len (by decide)
theorem done1 : (de 1).length ≤ 1 := de_len (by decide)
theorem ediv_ratio {a c : Int} {b d : Nat} (hb : 0 < b) (hd : 0 < d) (h : a * d = c * b) : a / (b : Int) = c / (d : Int) := by
  have h1 : a * d / ((b : Int) * d) = a / b := Int.mul_ediv_mul_of_pos_left a b (by omega)
  have h2 : c * b / ((d : Int) * b) = c / d := Int.mul_ediv_mul_of_pos_left c d (by omega)
  rw [← h1, ← h2, h, Int.mul_comm (b : Int) d]
theorem c_whole {h : Hp} {x : Int × Int} (hx : 0 < x.2 ∧ x.2 ≤ 9223372036854775807 ∧ x.1.natAbs ≤ 9223372036854775807) :
    ACalls Try.prog 43 [.agg #[.int .i64 x.1, .int .i64 x.2]] h fun v h' => v = .bool (decide (x.2 ∣ x.1 * 1000000)) ∧ Fm No h h' := by
  refine dioramaref27_whole_ok.snd Af.hm rfl fun w => ?_
  rw [WF_eq, dioramaref27_whole]
  obtain ⟨x1, x2⟩ := x
  obtain ⟨hx1, hx2, hx3⟩ := hx
  simp only at *
  obtain ⟨m, rfl⟩ : ∃ m : Nat, x2 = (m : Int) := ⟨x2.toNat, by omega⟩
  obtain ⟨h0, e0⟩ : ∃ g, h.new ⟨[.int .i64 x1, .int .i64 (m : Int)], .own⟩ = g := ⟨_, rfl⟩
  have w0 : Wf h0 := e0 ▸ w.new
  have f0 : Fm No h h0 := e0 ▸ Fm.new Fm.refl
  have g0 : h0.get h.size = some ⟨[.int .i64 x1, .int .i64 (m : Int)], .own⟩ := e0 ▸ gnew
  have n0 : h0.rdN h.size 0 2 = some [.int .i64 x1, .int .i64 (m : Int)] := rdN_mk g0 (by simp)
  simp +contextual (disch := omega) only [↓AM, ↓AV, AP, CQ, CN, i64, e0, n0]
  have hm0 : 0 < m := by omega
  refine (c_OfTime (n := x1) (m := m) hx3 (by omega) hm0).use ?_
  rintro u h1 w1 ⟨l1, fm1⟩
  simp +contextual (disch := omega) only [↓AM, ↓AV, AP, CQ, CN, i64, e0]
  refine c_million.use ?_
  rintro v h2 w2 ⟨l2, fm2⟩
  simp +contextual (disch := omega) only [↓AM, ↓AV, AP, CQ, CN, i64, e0]
  have b1 := Nat.le_trans (lowN_len x1 m) (de3 hx3)
  have b2 := Nat.le_trans (lowD_len x1 m) (de3 (show m ≤ 9223372036854775807 by omega))
  have b3 : (de (1000000 : Int).natAbs).length ≤ 1 := dmil
  have b4 := done1
  have dp := low_pos (n := x1) hm0
  refine (c_MulF (l1.kp (Kp.fm w1 fm2)) l2 (by omega) (by omega) (by omega) (by omega) dp (by decide)).use ?_
  rintro p h3 w3 ⟨l3, fm3⟩
  simp +contextual (disch := omega) only [↓AM, ↓AV, AP, CQ, CN, i64, e0]
  have b5 : (de (lowD x1 m * 1)).length ≤ 3 := by rw [Nat.mul_one]; exact b2
  refine (c_IsWhole l3 (Nat.le_trans (lowD_len _ _) (by omega))).use ?_
  rintro _ h4 w4 ⟨rfl, fm4⟩
  simp +contextual (disch := omega) only [↓AM, ↓AV, AP, CQ, CN, i64, e0]
  refine ⟨congrArg Value.bool (decide_eq_decide.2 ?_), (((f0.trans fm1 fun _ _ f => f).trans fm2 fun _ _ f => f).trans fm3 fun _ _ f => f).trans fm4 fun _ _ f => f⟩
  have e : lowD (lowN x1 m * 1000000) (lowD x1 m) = lowD (x1 * 1000000) m := (low_uniq dp hm0 (by
    rw [Int.mul_right_comm, low_id hm0]
    ac_rfl)).2
  rw [e]
  exact lowD_one hm0
theorem c_up {h : Hp} {u : Value} {n : Int} {m : Nat} (lu : Fv h u n m) (k1 : (de n.natAbs).length ≤ 18) (k2 : (de m).length ≤ 18) (p1 : 0 < m) :
    ACalls Try.prog 85 [u] h fun v h' => Mv h' v (-(-(n * 1000000) / m)) ∧ Fm No h h' := by
  refine dioramaref27_up_ok.snd Af.hm rfl fun w => ?_
  rw [WF_eq, dioramaref27_up]
  obtain ⟨a1, c1, q1, d1, rfl, l1, l2⟩ := fv_e lu
  obtain ⟨hA, b1, eA, uA, FA, kA, -, -, -⟩ := (Fr.mk0 w).new _ (st4 (b := decide (n < 0)) (oa := a1) (n := (de n.natAbs).length) (c := c1) (b' := false) (oa' := q1) (n' := (de m).length) (c' := d1))
  obtain ⟨hB, b2, eB, uB, FB, kB, -, -, -⟩ := FA.new _ (st4 (b := false) (oa := none) (n := 0) (c := 0) (b' := false) (oa' := none) (n' := 0) (c' := 0))
  obtain ⟨-, ⟨-, -, n1a, n1b, n1c⟩, -⟩ := FB.facts
  have kk := kA.trans kB
  simp +contextual (disch := omega) only [↓AM, ↓AV, AP, CQ, CN, i64, eA, uA, eB, uB, n1a, n1b, n1c]
  refine c_million.use ?_
  rintro v h2 w2 ⟨l3, fm2⟩
  obtain ⟨F2, kC⟩ := FB.call fm2 w2
  obtain ⟨-, ⟨-, -, n1a, n1b, n1c⟩, -⟩ := F2.facts
  simp +contextual (disch := omega) only [↓AM, ↓AV, AP, CQ, CN, i64, eA, uA, eB, uB, n1a, n1b, n1c]
  repeat (refine ⟨⟨_, rfl, rfl⟩, ?_⟩)
  have y3 : (de (1000000 : Int).natAbs).length ≤ 1 := dmil
  have y4 := done1
  refine (c_MulF (lu.kp (kk.trans kC)) l3 (by omega) (by omega) (by omega) (by omega) p1 (by decide)).use ?_
  rintro p h3 w3 ⟨l4, fm3⟩
  obtain ⟨F3, kD⟩ := F2.call fm3 w3
  obtain ⟨-, ⟨-, -, n1a, n1b, n1c⟩, -⟩ := F3.facts
  simp +contextual (disch := omega) only [↓AM, ↓AV, AP, CQ, CN, i64, eA, uA, eB, uB, n1a, n1b, n1c]
  repeat (refine ⟨⟨_, rfl, rfl⟩, ?_⟩)
  rw [Nat.mul_one] at l4
  have y5 := de_mulZ (x := n) (y := 1000000) (l := 1) k1 dmil
  have y6 := lowN_len (n * 1000000) m
  have y7 := lowD_len (n * 1000000) m
  have dp := low_pos (n := n * 1000000) p1
  refine (c_Ceil l4 (by omega) (by omega) dp).use ?_
  rintro _ h4 w4 ⟨l5, fm4⟩
  have er : -lowN (n * 1000000) m / (lowD (n * 1000000) m : Int) = -(n * 1000000) / (m : Int) := ediv_ratio dp p1 (by rw [Int.neg_mul, Int.neg_mul, low_id p1])
  rw [er] at l5
  have y8 : (de (-(-(n * 1000000) / (m : Int))).natAbs).length ≤ 19 := by
    refine Nat.le_trans (de_mono ?_) y5
    have := Int.natAbs_ediv_le_natAbs (-(n * 1000000)) m
    rw [Int.natAbs_neg] at this
    rwa [Int.natAbs_neg]
  generalize -(-(n * 1000000) / (m : Int)) = K at *
  obtain ⟨F4, kE⟩ := F3.call fm4 w4
  obtain ⟨pa, pc, rfl, lp⟩ := zv_e l5
  obtain ⟨h5, b3, e5, u5, F5, k5, -, -, -⟩ := F4.new _ (st2 (b := false) (oa := none) (n := 0) (c := 0))
  obtain ⟨⟨g5, -, -⟩, -⟩ := F5.facts
  obtain ⟨h6, e6, F6, k6, -⟩ := F5.put0 [.bool (decide (K < 0)), .slice pa (de K.natAbs).length pc] st2 rfl
  obtain ⟨⟨-, -, n5⟩, -, ⟨-, -, n1a, n1b, n1c⟩, -⟩ := F6.facts
  obtain ⟨-, ⟨-, -, n1d, n1e, n1f⟩, -⟩ := F4.facts
  obtain ⟨-, -, ⟨-, -, n1g, n1h, n1i⟩, -⟩ := F5.facts
  simp +contextual (disch := omega) only [↓AM, ↓AV, AP, CQ, CN, i64, eA, uA, eB, uB, e5, u5, g5, e6, n5, n1a, n1b, n1c, n1d, n1e, n1f, n1g, n1h, n1i]
  repeat (refine ⟨⟨_, rfl, rfl⟩, ?_⟩)
  refine (c_bOf (z := 1) (by decide)).use ?_
  rintro _ h7 w7 ⟨lo, fm7⟩
  obtain ⟨F7, k7⟩ := F6.call fm7 w7
  obtain ⟨⟨-, -, n5⟩, -⟩ := F7.facts
  obtain ⟨oa, oc, rfl, lo'⟩ := zv_nat (show Zv h7 _ ((1 : Nat) : Int) from lo.bv)
  simp +contextual (disch := omega) only [↓AM, ↓AV, AP, CQ, CN, i64, eA, uA, eB, uB, e5, u5, g5, e6, n5]
  repeat (refine ⟨⟨_, rfl, rfl⟩, ?_⟩)
  refine c_million.use ?_
  rintro q h8 w8 ⟨l8, fm8⟩
  obtain ⟨F8, k8⟩ := F7.call fm8 w8
  obtain ⟨⟨-, -, n5⟩, -⟩ := F8.facts
  simp +contextual (disch := omega) only [↓AM, ↓AV, AP, CQ, CN, i64, eA, uA, eB, uB, e5, u5, g5, e6, n5]
  repeat (refine ⟨⟨_, rfl, rfl⟩, ?_⟩)
  refine (c_DivF (n1 := K) (m1 := 1) (n2 := 1000000) (m2 := 1) ⟨pa, pc, oa, oc, rfl, k8 _ _ _ _ (k7 _ _ _ _ ((k5.trans k6) _ _ _ _ lp)), k8 _ _ _ _ lo'⟩ l8 (by omega) (by omega) (Nat.le_trans y3 (by decide)) (by omega) (by decide) (by decide) (by decide)).use ?_
  rintro _ h9 w9 ⟨l9, fm9⟩
  have e1 : K * ((1 : Nat) : Int) = K := by simp
  rw [e1, Nat.one_mul] at l9
  obtain ⟨ra, rc, sa, sc, rfl, lr, ls⟩ := l9
  obtain ⟨F9, k9⟩ := F8.call fm9 w9
  obtain ⟨⟨-, -, n5⟩, ⟨g9, -⟩, -⟩ := F9.facts
  obtain ⟨hX, eX, FX, kX, -⟩ := F9.put1 [.bool (decide (lowN K 1000000 < 0)), .slice ra (de (lowN K 1000000).natAbs).length rc, .bool false, .slice sa (de (lowD K 1000000)).length sc] st4 rfl
  obtain ⟨⟨-, -, n5a⟩, ⟨-, -, nX, -⟩, -⟩ := FX.facts
  simp +contextual (disch := omega) only [↓AM, ↓AV, AP, CQ, CN, i64, eA, uA, eB, uB, e5, u5, g5, e6, n5, n5a, g9, eX, nX]
  repeat (refine ⟨⟨_, rfl, rfl⟩, ?_⟩)
  exact ⟨⟨ra, rc, sa, sc, rfl, kX _ _ _ _ lr, kX _ _ _ _ ls⟩, FX.fm⟩
end Go.Proofs.Ytikbdeobghoglaa.Nu

/- The Big numbers of the document: as ints, and fractions as times. Plain theorems over the abstract machine.
   Conditions: none. -/
namespace Go.Proofs.Ytikbdeobghoglaa.Nu
open Go Go.RowKit Go.Proofs.Ytikbdeobghoglaa.Am Go.Proofs.Ytikbdeobghoglaa.Af Go.Proofs.Ytikbdeobghoglaa.Md
set_option linter.unusedVariables false
set_option linter.unusedSimpArgs false
set_option linter.defProp false
set_option maxRecDepth 20000
set_option maxHeartbeats 1000000

theorem drop_val {L : List Nat} {k d : Nat} (h : L[k]? = some d) : vL B24 (L.drop k) = d + 16777216 * vL B24 (L.drop (k + 1)) := by
  have : L.drop k = d :: L.drop (k + 1) := by
    have hk : k < L.length := (List.getElem?_eq_some_iff.1 h).1
    rw [List.drop_eq_getElem_cons hk]
    rw [List.getElem?_eq_getElem hk] at h
    cases h; rfl
  rw [this]; rfl
theorem drop_le (x k : Nat) : vL B24 ((de x).drop k) ≤ x := by
  rcases Nat.lt_or_ge (de x).length k with h | h
  · rw [List.drop_eq_nil_of_le (Nat.le_of_lt h)]; exact Nat.zero_le _
  · have := vL_take b24 h
    rw [de_val] at this
    have h2 : 1 ≤ B24 ^ k := Nat.one_le_pow _ _ (by decide)
    have : vL B24 ((de x).drop k) ≤ B24 ^ k * vL B24 ((de x).drop k) := Nat.le_mul_of_pos_left _ h2
    omega
def i62 (z : Int) : Prop := z.natAbs ≤ 4611686018427387904
instance (z : Int) : Decidable (i62 z) := inferInstanceAs (Decidable (_ ≤ _))
theorem c_Int {h : Hp} {u : Value} {z : Int} (lx : Zv h u z) (hx : (de z.natAbs).length ≤ 1000) :
    ACalls Try.prog 87 [u] h fun r h' => r = .tuple #[.int .i64 (if i62 z then z else 0), .bool (decide (i62 z))] ∧ Fm No h h' := by
  refine dioramaref00_Int_ok.snd Af.hm rfl fun w => ?_
  rw [WF_eq, dioramaref00_Int]
  obtain ⟨a, c, rfl, la⟩ := zv_e lx
  generalize hg : decide (z < 0) = gz
  obtain ⟨hA, b1, eA, uA, FA, kA, -, -, -⟩ := (Fr.mk0 w).new _ (st2 (b := gz) (oa := a) (n := (de z.natAbs).length) (c := c))
  obtain ⟨⟨-, r1, n1⟩, -⟩ := FA.facts
  simp +contextual (disch := omega) only [↓AM, ↓AV, AP, CQ, CN, i64, eA, uA, r1, n1]
  refine (c_bOf (z := 4611686018427387904) (by decide)).use ?_
  rintro _ h2 w2 ⟨lo, fm2⟩
  obtain ⟨F2, k2⟩ := FA.call fm2 w2
  obtain ⟨ob, oc, rfl, lo'⟩ := zv_nat (show Zv h2 _ ((4611686018427387904 : Nat) : Int) from lo.bv)
  obtain ⟨⟨-, r2, n2⟩, -⟩ := F2.facts
  simp +contextual (disch := omega) only [↓AM, ↓AV, AP, CQ, CN, i64, eA, uA, r2, n2]
  repeat (refine ⟨⟨_, rfl, rfl⟩, ?_⟩)
  have ll : (de 4611686018427387904).length ≤ 3 := de3 (by decide)
  refine (c_bsize (k2 _ _ _ _ (kA _ _ _ _ la)) lo' (by omega) (by omega)).use ?_
  rintro _ h3 w3 ⟨rfl, fm3⟩
  obtain ⟨F3, k3⟩ := F2.call fm3 w3
  obtain ⟨⟨-, r3, n3⟩, -⟩ := F3.facts
  by_cases hi : i62 z
  case neg =>
    have hi' : 4611686018427387904 < z.natAbs := by unfold i62 at hi; omega
    have ec : ((0 : Int) < (if z.natAbs < 4611686018427387904 then (-1 : Int) else if z.natAbs = 4611686018427387904 then 0 else 1)) = True := by
      refine eq_true ?_
      rw [if_neg (by omega), if_neg (by omega)]; omega
    simp +contextual (disch := omega) only [↓AM, ↓AV, AP, CQ, CN, i64, eA, uA, r3, n3, ec]
    repeat (refine ⟨⟨_, rfl, rfl⟩, ?_⟩)
    simp [hi]
    exact F3.fm
  have hi' : z.natAbs ≤ 4611686018427387904 := hi
  have ec : ((0 : Int) < (if z.natAbs < 4611686018427387904 then (-1 : Int) else if z.natAbs = 4611686018427387904 then 0 else 1)) = False := by
    refine eq_false ?_
    split
    · omega
    · split <;> omega
  simp +contextual (disch := omega) only [↓AM, ↓AV, AP, CQ, CN, i64, eA, uA, r3, n3, ec]
  repeat (refine ⟨⟨_, rfl, rfl⟩, ?_⟩)
  have la3 := k3 _ _ _ _ (k2 _ _ _ _ (kA _ _ _ _ la))
  refine WL.mk (fun k t h' => h' = h3 ∧ k ≤ (de z.natAbs).length ∧ t = [(1, some (.pointer (some ⟨b1, 0, none⟩))), (4, some (.int .i64 (vL B24 ((de z.natAbs).drop k) : Int))), (5, some (.int .i64 ((k : Int) - 1)))]) ⟨(de z.natAbs).length, rfl, Nat.le_refl _, by rw [List.drop_eq_nil_of_le (Nat.le_refl _)]; rfl⟩ ?_
  rintro k t _ ⟨rfl, hk, rfl⟩
  cases k with
  | zero =>
    have e1 : ((0 : Int) ≤ ((0 : Nat) : Int) - 1) = False := by simp
    have e2 : vL B24 ((de z.natAbs).drop 0) = z.natAbs := by rw [List.drop_zero, de_val]
    rw [e2]
    cases gz
    · have := of_decide_eq_false hg
      have e3 : ((z.natAbs : Nat) : Int) = z := by omega
      simp +contextual (disch := omega) only [↓AM, ↓AV, AP, CQ, CN, i64, eA, uA, r3, n3, e1, hi, e3, if_true, decide_true]
      exact F3.fm
    · have := of_decide_eq_true hg
      have e3 : 0 - ((z.natAbs : Nat) : Int) = z := by omega
      simp +contextual (disch := omega) only [↓AM, ↓AV, AP, CQ, CN, i64, eA, uA, r3, n3, e1, hi, e3, if_true, decide_true]
      exact F3.fm
  | succ k =>
    obtain ⟨bb, o1, s1, p, rfl, f1, hp, rr⟩ := la3.rd.dec24 (i := k) (by omega)
    have hk1 : k < (de z.natAbs).length := by omega
    have e1 : ((0 : Int) ≤ ((k + 1 : Nat) : Int) - 1) = True := eq_true (by omega)
    have e2 : ((k + 1 : Nat) : Int) - 1 = (k : Int) := by omega
    have hv := drop_val hp
    have hle := drop_le z.natAbs k
    have pl : p < 16777216 := la3.dl.at hp
    rw [hv] at hle
    simp +contextual (disch := omega) only [↓AM, ↓AV, AP, CQ, CN, i64, eA, uA, r3, n3, e1, e2, f1, rr, hk1]
    refine ⟨k, by omega, by omega, ?_⟩
    rw [hv]
    have e3 : (vL B24 ((de z.natAbs).drop (k + 1)) : Int) * 16777216 + (p : Int) = ((p + 16777216 * vL B24 ((de z.natAbs).drop (k + 1)) : Nat) : Int) := by omega
    rw [← e3]
end Go.Proofs.Ytikbdeobghoglaa.Nu

/- The fractions of the document: as times. Plain theorems over the abstract machine.
   Conditions: none. -/
namespace Go.Proofs.Ytikbdeobghoglaa.Nu
open Go Go.RowKit Go.Proofs.Ytikbdeobghoglaa.Am Go.Proofs.Ytikbdeobghoglaa.Af Go.Proofs.Ytikbdeobghoglaa.Md
set_option linter.unusedVariables false
set_option linter.unusedSimpArgs false
set_option linter.defProp false
set_option maxRecDepth 20000
set_option maxHeartbeats 1000000

def fitT (n : Int) (m : Nat) : Prop := n.natAbs ≤ 1152921504606846976 ∧ m ≤ 1152921504606846976
instance (n : Int) (m : Nat) : Decidable (fitT n m) := inferInstanceAs (Decidable (_ ∧ _))
theorem c_ToTime {h : Hp} {u : Value} {n : Int} {m : Nat} (lu : Fv h u n m) (k1 : (de n.natAbs).length ≤ 1000) (k2 : (de m).length ≤ 1000) :
    ACalls Try.prog 45 [u] h fun r h' => r = .tuple #[.agg #[.int .i64 (if fitT n m then n else 0), .int .i64 (if fitT n m then m else 0)], .bool (decide (fitT n m))] ∧ Fm No h h' := by
  refine dioramaref00_ToTime_ok.snd Af.hm rfl fun w => ?_
  rw [WF_eq, dioramaref00_ToTime]
  obtain ⟨a1, c1, q1, d1, rfl, l1, l2⟩ := fv_e lu
  obtain ⟨hA, b1, eA, uA, FA, kA, -, -, -⟩ := (Fr.mk0 w).new _ (st4 (b := decide (n < 0)) (oa := a1) (n := (de n.natAbs).length) (c := c1) (b' := false) (oa' := q1) (n' := (de m).length) (c' := d1))
  have st2i' : St [.int .i64 0, .int .i64 0] → True := fun _ => trivial
  obtain ⟨hB, eB⟩ : ∃ g, hA.new ⟨[.int .i64 0, .int .i64 0], .own⟩ = g := ⟨_, rfl⟩
  obtain ⟨FB, kB⟩ := FA.newO ⟨[.int .i64 0, .int .i64 0], .own⟩
  rw [eB] at FB kB
  have gB : hB.get hA.size = some ⟨[.int .i64 0, .int .i64 0], .own⟩ := eB ▸ gnew
  obtain ⟨⟨-, -, n1a, n1b, n1c⟩, -⟩ := FB.facts
  have kk := kA.trans kB
  have z1 : Zv hB (.agg #[.bool (decide (n < 0)), .slice a1 (de n.natAbs).length c1]) n := ⟨a1, c1, rfl, kk _ _ _ _ l1⟩
  have z3 : Zv hB (.agg #[.bool false, .slice q1 (de m).length d1]) (m : Int) := zv_pos ⟨q1, d1, rfl, kk _ _ _ _ l2⟩
  simp +contextual (disch := omega) only [↓AM, ↓AV, AP, CQ, CN, i64, eA, uA, eB, n1a, n1b, n1c]
  refine (c_Int z1 k1).use ?_
  rintro _ h2 w2 ⟨rfl, fm2⟩
  obtain ⟨F2, k2'⟩ := FB.call fm2 w2
  obtain ⟨⟨-, -, n1a, n1b, n1c⟩, -⟩ := F2.facts
  have gC := fm2.keep FB.wf gB (fun f => f)
  simp +contextual (disch := omega) only [↓AM, ↓AV, AP, CQ, CN, i64, eA, uA, eB, n1a, n1b, n1c]
  refine (c_Int (z3.kp k2') (by rw [nab]; exact k2)).use ?_
  rintro _ h3 w3 ⟨rfl, fm3⟩
  obtain ⟨F3, k3⟩ := F2.call fm3 w3
  have gD := fm3.keep F2.wf gC (fun f => f)
  have hlt : hA.size < h3.size := F3.wf.lt gD
  have hs : h.size ≤ hA.size := FA.fm.size
  have put : ∀ cs : List Value, ∃ g, h3.put hA.size ⟨cs, .own⟩ = g ∧ g.get hA.size = some ⟨cs, .own⟩ ∧ Fm No h g := fun cs =>
    ⟨_, rfl, gput, F3.fm.trans (Fm.put (Fm.refl (F := fun x => x = hA.size)) fun _ => rfl) fun x hx e => absurd e (by omega)⟩
  by_cases hf : fitT n m
  · have i1 : i62 n := by unfold i62; have := hf.1; omega
    have i2 : i62 (m : Int) := by unfold i62; have := hf.2; omega
    have f1 : (n < -1152921504606846976) = False := eq_false (by have := hf.1; omega)
    have f2 : (1152921504606846976 < n) = False := eq_false (by have := hf.1; omega)
    have f3 : (1152921504606846976 < (m : Int)) = False := eq_false (by have := hf.2; omega)
    obtain ⟨g, e, gg, fg⟩ := put [.int .i64 n, .int .i64 (m : Int)]
    have ng : g.rdN hA.size 0 2 = some [.int .i64 n, .int .i64 (m : Int)] := rdN_mk gg (by simp)
    simp +contextual (disch := omega) only [↓AM, ↓AV, AP, CQ, CN, i64, eA, uA, eB, i1, i2, f1, f2, f3, if_true, decide_true, gD, e, ng, hf]
    exact fg
  · obtain ⟨g, e, gg, fg⟩ := put [.int .i64 0, .int .i64 0]
    have ng : g.rdN hA.size 0 2 = some [.int .i64 0, .int .i64 0] := rdN_mk gg (by simp)
    by_cases i1 : i62 n
    case neg =>
      simp +contextual (disch := omega) only [↓AM, ↓AV, AP, CQ, CN, i64, eA, uA, eB, i1, if_false, decide_false, gD, e, ng, hf]
      exact fg
    by_cases i2 : i62 (m : Int)
    case neg =>
      simp +contextual (disch := omega) only [↓AM, ↓AV, AP, CQ, CN, i64, eA, uA, eB, i1, i2, if_true, if_false, decide_true, decide_false, gD, e, ng, hf]
      exact fg
    by_cases f1 : n < -1152921504606846976
    · simp +contextual (disch := omega) only [↓AM, ↓AV, AP, CQ, CN, i64, eA, uA, eB, i1, i2, f1, if_true, if_false, decide_true, decide_false, gD, e, ng, hf]
      exact fg
    by_cases f2 : 1152921504606846976 < n
    · simp +contextual (disch := omega) only [↓AM, ↓AV, AP, CQ, CN, i64, eA, uA, eB, i1, i2, f1, f2, if_true, if_false, decide_true, decide_false, gD, e, ng, hf]
      exact fg
    · have f3 : 1152921504606846976 < (m : Int) := by
        have := hf
        unfold fitT at this
        omega
      simp +contextual (disch := omega) only [↓AM, ↓AV, AP, CQ, CN, i64, eA, uA, eB, i1, i2, f1, f2, f3, if_true, if_false, decide_true, decide_false, gD, e, ng, hf]
      exact fg
end Go.Proofs.Ytikbdeobghoglaa.Nu

/- How many bits a number has; limbs moved up by bits. Plain theorems over the abstract machine.
   Conditions: none. -/
namespace Go.Proofs.Ytikbdeobghoglaa.Nu
open Go Go.RowKit Go.Proofs.Ytikbdeobghoglaa.Am Go.Proofs.Ytikbdeobghoglaa.Af Go.Proofs.Ytikbdeobghoglaa.Md
set_option linter.unusedVariables false
set_option linter.unusedSimpArgs false
set_option linter.defProp false
set_option maxRecDepth 20000
set_option maxHeartbeats 1000000

def tab8 : ByteArray := ⟨#[0, 1, 2, 2, 3, 3, 3, 3, 4, 4, 4, 4, 4, 4, 4, 4, 5, 5, 5, 5, 5, 5, 5, 5, 5, 5, 5, 5, 5, 5, 5, 5, 6, 6, 6, 6, 6, 6, 6, 6, 6, 6, 6, 6, 6, 6, 6, 6, 6, 6, 6, 6, 6, 6, 6, 6, 6, 6, 6, 6, 6, 6, 6, 6, 7, 7, 7, 7, 7, 7, 7, 7, 7, 7, 7, 7, 7, 7, 7, 7, 7, 7, 7, 7, 7, 7, 7, 7, 7, 7, 7, 7, 7, 7, 7, 7, 7, 7, 7, 7, 7, 7, 7, 7, 7, 7, 7, 7, 7, 7, 7, 7, 7, 7, 7, 7, 7, 7, 7, 7, 7, 7, 7, 7, 7, 7, 7, 7, 8, 8, 8, 8, 8, 8, 8, 8, 8, 8, 8, 8, 8, 8, 8, 8, 8, 8, 8, 8, 8, 8, 8, 8, 8, 8, 8, 8, 8, 8, 8, 8, 8, 8, 8, 8, 8, 8, 8, 8, 8, 8, 8, 8, 8, 8, 8, 8, 8, 8, 8, 8, 8, 8, 8, 8, 8, 8, 8, 8, 8, 8, 8, 8, 8, 8, 8, 8, 8, 8, 8, 8, 8, 8, 8, 8, 8, 8, 8, 8, 8, 8, 8, 8, 8, 8, 8, 8, 8, 8, 8, 8, 8, 8, 8, 8, 8, 8, 8, 8, 8, 8, 8, 8, 8, 8, 8, 8, 8, 8, 8, 8, 8, 8, 8, 8, 8, 8, 8, 8, 8, 8, 8, 8, 8, 8, 8, 8]⟩
def tabOk (b : Nat) : Bool := match tab8.data.toList[b]? with
  | some v => Nat.ble v.toNat 8 && Nat.blt b (2 ^ v.toNat) && (Nat.beq b 0 || (Nat.ble 1 v.toNat && Nat.ble (2 ^ (v.toNat - 1)) b))
  | none => false
theorem tab_all : ((List.range 256).all tabOk) = true := by kernel_rfl
theorem tab_at {b : Nat} (hb : b < 256) : ∃ v : UInt8, tab8.data.toList[b]? = some v ∧ v.toNat ≤ 8 ∧ b < 2 ^ v.toNat ∧ (b = 0 ∨ 1 ≤ v.toNat ∧ 2 ^ (v.toNat - 1) ≤ b) := by
  have := List.all_eq_true.1 tab_all b (List.mem_range.2 hb)
  unfold tabOk at this
  split at this
  · rename_i v hv
    refine ⟨v, hv, ?_⟩
    simp only [Bool.and_eq_true, Bool.or_eq_true] at this
    obtain ⟨⟨h1, h2⟩, h3⟩ := this
    refine ⟨Nat.le_of_ble_eq_true h1, Nat.le_of_ble_eq_true h2, ?_⟩
    rcases h3 with h3 | h3
    · exact .inl (Nat.eq_of_beq_eq_true h3)
    · exact .inr ⟨Nat.le_of_ble_eq_true h3.1, Nat.le_of_ble_eq_true h3.2⟩
  · cases this
/-- n is how many bits x has. -/
def Bl (x n : Nat) : Prop := x < 2 ^ n ∧ (x = 0 ∨ 1 ≤ n ∧ 2 ^ (n - 1) ≤ x)
theorem Bl.up {x n k : Nat} (h : Bl (x / 2 ^ k) n) (hx : x / 2 ^ k ≠ 0) : Bl x (k + n) := by
  obtain ⟨h1, h2⟩ := h
  have hp : 0 < 2 ^ k := Nat.pow_pos (by decide)
  refine ⟨?_, .inr ?_⟩
  · rw [Nat.pow_add, Nat.mul_comm]
    exact (Nat.div_lt_iff_lt_mul hp).1 h1
  · rcases h2 with h2 | ⟨h2, h3⟩
    · exact absurd h2 hx
    · refine ⟨by omega, ?_⟩
      rw [show k + n - 1 = (n - 1) + k by omega, Nat.pow_add]
      exact (Nat.le_div_iff_mul_le hp).1 h3
theorem shr_16 {n : Nat} : (n : Int).fdiv (2 ^ min 16 IntKind.u32.bits) = ((n / 2 ^ 16 : Nat) : Int) := by
  show (n : Int).fdiv 65536 = _
  rw [Int.fdiv_eq_ediv_of_nonneg _ (by omega)]; rfl
theorem shr_8 {n : Nat} : (n : Int).fdiv (2 ^ min 8 IntKind.u32.bits) = ((n / 2 ^ 8 : Nat) : Int) := by
  show (n : Int).fdiv 256 = _
  rw [Int.fdiv_eq_ediv_of_nonneg _ (by omega)]; rfl
theorem c_Len32 {h : Hp} {x : Nat} (hx : x < 4294967296) : ACalls Try.prog 149 [.int .u32 (x : Int)] h fun v h' => h' = h ∧ ∃ n : Nat, v = .int .i64 (n : Int) ∧ n ≤ 32 ∧ Bl x n := by
  refine bits_Len32_ok.snd hm rfl fun w => ?_
  rw [WF_eq, bits_Len32]
  have low : ∀ b : Nat, b < 256 → ∃ v : UInt8, (⟨#[0, 1, 2, 2, 3, 3, 3, 3, 4, 4, 4, 4, 4, 4, 4, 4, 5, 5, 5, 5, 5, 5, 5, 5, 5, 5, 5, 5, 5, 5, 5, 5, 6, 6, 6, 6, 6, 6, 6, 6, 6, 6, 6, 6, 6, 6, 6, 6, 6, 6, 6, 6, 6, 6, 6, 6, 6, 6, 6, 6, 6, 6, 6, 6, 7, 7, 7, 7, 7, 7, 7, 7, 7, 7, 7, 7, 7, 7, 7, 7, 7, 7, 7, 7, 7, 7, 7, 7, 7, 7, 7, 7, 7, 7, 7, 7, 7, 7, 7, 7, 7, 7, 7, 7, 7, 7, 7, 7, 7, 7, 7, 7, 7, 7, 7, 7, 7, 7, 7, 7, 7, 7, 7, 7, 7, 7, 7, 7, 8, 8, 8, 8, 8, 8, 8, 8, 8, 8, 8, 8, 8, 8, 8, 8, 8, 8, 8, 8, 8, 8, 8, 8, 8, 8, 8, 8, 8, 8, 8, 8, 8, 8, 8, 8, 8, 8, 8, 8, 8, 8, 8, 8, 8, 8, 8, 8, 8, 8, 8, 8, 8, 8, 8, 8, 8, 8, 8, 8, 8, 8, 8, 8, 8, 8, 8, 8, 8, 8, 8, 8, 8, 8, 8, 8, 8, 8, 8, 8, 8, 8, 8, 8, 8, 8, 8, 8, 8, 8, 8, 8, 8, 8, 8, 8, 8, 8, 8, 8, 8, 8, 8, 8, 8, 8, 8, 8, 8, 8, 8, 8, 8, 8, 8, 8, 8, 8, 8, 8, 8, 8, 8, 8, 8, 8, 8, 8]⟩ : ByteArray).data.toList[b]? = some v ∧ v.toNat ≤ 8 ∧ Bl b v.toNat := fun b hb => tab_at hb
  generalize (⟨#[0, 1, 2, 2, 3, 3, 3, 3, 4, 4, 4, 4, 4, 4, 4, 4, 5, 5, 5, 5, 5, 5, 5, 5, 5, 5, 5, 5, 5, 5, 5, 5, 6, 6, 6, 6, 6, 6, 6, 6, 6, 6, 6, 6, 6, 6, 6, 6, 6, 6, 6, 6, 6, 6, 6, 6, 6, 6, 6, 6, 6, 6, 6, 6, 7, 7, 7, 7, 7, 7, 7, 7, 7, 7, 7, 7, 7, 7, 7, 7, 7, 7, 7, 7, 7, 7, 7, 7, 7, 7, 7, 7, 7, 7, 7, 7, 7, 7, 7, 7, 7, 7, 7, 7, 7, 7, 7, 7, 7, 7, 7, 7, 7, 7, 7, 7, 7, 7, 7, 7, 7, 7, 7, 7, 7, 7, 7, 7, 8, 8, 8, 8, 8, 8, 8, 8, 8, 8, 8, 8, 8, 8, 8, 8, 8, 8, 8, 8, 8, 8, 8, 8, 8, 8, 8, 8, 8, 8, 8, 8, 8, 8, 8, 8, 8, 8, 8, 8, 8, 8, 8, 8, 8, 8, 8, 8, 8, 8, 8, 8, 8, 8, 8, 8, 8, 8, 8, 8, 8, 8, 8, 8, 8, 8, 8, 8, 8, 8, 8, 8, 8, 8, 8, 8, 8, 8, 8, 8, 8, 8, 8, 8, 8, 8, 8, 8, 8, 8, 8, 8, 8, 8, 8, 8, 8, 8, 8, 8, 8, 8, 8, 8, 8, 8, 8, 8, 8, 8, 8, 8, 8, 8, 8, 8, 8, 8, 8, 8, 8, 8, 8, 8, 8, 8, 8, 8]⟩ : ByteArray) = T at *
  have e16 : (65536 : Nat) = 2 ^ 16 := rfl
  have e8 : (256 : Nat) = 2 ^ 8 := rfl
  by_cases h1 : (65536 : Int) ≤ (x : Int)
  · have d1 : x / 2 ^ 16 < 65536 := by omega
    have d0 : x / 2 ^ 16 ≠ 0 := by omega
    by_cases h2 : (256 : Int) ≤ ((x / 2 ^ 16 : Nat) : Int)
    · have g1 : x / 2 ^ 16 / 2 ^ 8 < 256 := by omega
      have g0 : x / 2 ^ 16 / 2 ^ 8 ≠ 0 := by omega
      obtain ⟨v, hv, hv8, hb⟩ := low _ g1
      simp +contextual (disch := omega) only [↓AM, ↓AV, AP, CQ, shr_16, shr_8, i64, u8, h1, h2, hv]
      exact ⟨8 + 16 + v.toNat, by simp, by omega, by have := (hb.up g0).up d0; rwa [show 16 + (8 + v.toNat) = 8 + 16 + v.toNat by omega] at this⟩
    · have g1 : x / 2 ^ 16 < 256 := by omega
      obtain ⟨v, hv, hv8, hb⟩ := low _ g1
      simp +contextual (disch := omega) only [↓AM, ↓AV, AP, CQ, shr_16, shr_8, i64, u8, h1, h2, hv]
      exact ⟨16 + v.toNat, by simp, by omega, hb.up d0⟩
  · by_cases h2 : (256 : Int) ≤ (x : Int)
    · have g1 : x / 2 ^ 8 < 256 := by omega
      have g0 : x / 2 ^ 8 ≠ 0 := by omega
      obtain ⟨v, hv, hv8, hb⟩ := low _ g1
      simp +contextual (disch := omega) only [↓AM, ↓AV, AP, CQ, shr_16, shr_8, i64, u8, h1, h2, hv]
      exact ⟨8 + v.toNat, by simp, by omega, hb.up g0⟩
    · have g1 : x < 256 := by omega
      obtain ⟨v, hv, hv8, hb⟩ := low _ g1
      simp +contextual (disch := omega) only [↓AM, ↓AV, AP, CQ, shr_16, shr_8, i64, u8, h1, h2, hv]
      exact ⟨v.toNat, by simp, by omega, hb⟩
end Go.Proofs.Ytikbdeobghoglaa.Nu

/- Limbs moved up by bits. Plain theorems over the abstract machine.
   Conditions: none. -/
namespace Go.Proofs.Ytikbdeobghoglaa.Nu
open Go Go.RowKit Go.Proofs.Ytikbdeobghoglaa.Am Go.Proofs.Ytikbdeobghoglaa.Af Go.Proofs.Ytikbdeobghoglaa.Md
set_option linter.unusedVariables false
set_option linter.unusedSimpArgs false
set_option linter.defProp false
set_option maxRecDepth 20000
set_option maxHeartbeats 1000000

theorem c_Lz {h : Hp} {x : Nat} (h0 : 0 < x) (hx : x < 4294967296) : ACalls Try.prog 132 [.int .u32 (x : Int)] h fun v h' => h' = h ∧ ∃ by_ : Nat, v = .int .i64 (by_ : Int) ∧ by_ < 32 ∧ 2147483648 ≤ x * 2 ^ by_ ∧ x * 2 ^ by_ < 4294967296 := by
  refine bits_LeadingZeros32_ok.snd hm rfl fun w => ?_
  rw [WF_eq, bits_LeadingZeros32]
  simp +contextual (disch := omega) only [↓AM, ↓AV, AP, CQ]
  refine (c_Len32 hx).use ?_
  rintro _ _ w1 ⟨rfl, n, rfl, hn, h1, h2⟩
  have e : (32 : Int) - (n : Int) = ((32 - n : Nat) : Int) := by omega
  simp +contextual (disch := omega) only [↓AM, ↓AV, AP, CQ, i64, e]
  rcases h2 with h2 | ⟨h2, h3⟩
  · omega
  refine ⟨32 - n, rfl, by omega, ?_, ?_⟩
  · have := Nat.mul_le_mul_right (2 ^ (32 - n)) h3
    rw [← Nat.pow_add, show n - 1 + (32 - n) = 31 by omega] at this
    exact this
  · have := Nat.mul_lt_mul_of_pos_right h1 (Nat.pow_pos (n := 32 - n) (show 0 < 2 by decide))
    rw [← Nat.pow_add, show n + (32 - n) = 32 by omega] at this
    exact this
theorem shl_by {x b : Nat} (hb : b ≤ 64) : (x : Int) * 2 ^ min b IntKind.u64.bits = ((x * 2 ^ b : Nat) : Int) := by
  rw [show min b IntKind.u64.bits = b from Nat.min_eq_left hb]
  rw [Int.natCast_mul, Int.natCast_pow]; rfl
theorem or_by {l x b : Nat} (hl : l < 2 ^ b) (hx : x < 4294967296) (hb : b < 32) : (BitVec.ofInt IntKind.u64.bits (l : Int) ||| BitVec.ofInt IntKind.u64.bits ((x * 2 ^ b : Nat) : Int)).toNat = l + x * 2 ^ b := by
  have hp : 2 ^ b ≤ 2147483648 := Nat.pow_le_pow_right (by decide) (show b ≤ 31 by omega)
  have hm : x * 2 ^ b ≤ 4294967296 * 2147483648 := Nat.mul_le_mul (by omega) hp
  show (BitVec.ofInt 64 (l : Int) ||| BitVec.ofInt 64 ((x * 2 ^ b : Nat) : Int)).toNat = l + x * 2 ^ b
  rw [BitVec.toNat_or, BitVec.toNat_ofInt, BitVec.toNat_ofInt]
  have e1 : ((((x * 2 ^ b : Nat) : Int)) % ((2 ^ 64 : Nat) : Int)).toNat = x <<< b := by
    rw [Nat.shiftLeft_eq]; omega
  have e2 : (((l : Nat) : Int) % ((2 ^ 64 : Nat) : Int)).toNat = l := by omega
  rw [e1, e2, Nat.or_comm, ← Nat.shiftLeft_add_eq_or_of_lt hl, Nat.shiftLeft_eq, Nat.add_comm]
theorem take_u3 {Y : List Nat} {j q : Nat} (hq : Y[j]? = some q) : vL B32 (Y.take (j + 1)) = vL B32 (Y.take j) + B32 ^ j * q := by
  rw [List.take_add_one, hq]
  show vL B32 (Y.take j ++ [q]) = _
  rw [vL_snoc, List.length_take, Nat.min_eq_left (by have := (List.getElem?_eq_some_iff.1 hq).1; omega)]
theorem c_shift {h : Hp} {a : Option Addr} {n c b : Nat} {M : List Nat} (la : Lm h a n c M) (hn : n ≤ 400000) (hb : b < 32) :
    ACalls Try.prog 133 [.slice a n c, .int .i64 (b : Int)] h fun v h' => ∃ k U, v = .slice (some ⟨k, 0, none⟩) (n + 1) (n + 1) ∧ h.size ≤ k ∧ h'.get k = some ⟨u3 U, .own⟩ ∧ U.length = n + 1 ∧ Dl B32 U ∧ vL B32 U = vL B32 M * 2 ^ b ∧ Fm No h h' := by
  refine num_shift_ok.snd hm rfl fun w => ?_
  rw [WF_eq, num_shift]
  have hml := la.len
  have hp : 0 < 2 ^ b := Nat.pow_pos (by decide)
  have hp2 : 2 ^ b ≤ 2147483648 := Nat.pow_le_pow_right (by decide) (show b ≤ 31 by omega)
  simp +contextual (disch := omega) only [↓AM, ↓AV, AP, CQ, i64, rep_u3]
  refine ⟨by omega, ?_⟩
  have zl : vL B32 (List.replicate (n + 1) 0) = 0 := vL_zeros _ _
  refine WL.mk (fun k t h' => ∃ O : List Nat, h' = h.new ⟨u3 O, .own⟩ ∧ O.length = n + 1 ∧ Dl B32 O ∧ ∃ i l : Nat, i ≤ n ∧ k = n - i ∧ l < 2 ^ b ∧ vL B32 O + B32 ^ i * l = vL B32 (M.take i) * 2 ^ b ∧ (∀ j, i ≤ j → j < O.length → O[j]? = some 0) ∧
      t = [(0, some (.slice a n c)), (1, some (.int .i64 (b : Int))), (5, some (.slice (some ⟨h.size, 0, none⟩) (n + 1) (n + 1))), (6, some (.int .u64 (l : Int))), (13, some (.slice a n c)), (14, some (.int .i64 (n : Int))), (15, some (.int .i64 (i : Int)))])
    ⟨n, _, rfl, by simp, Dl.zeros _, 0, 0, by omega, rfl, hp, by rw [zl]; simp [vL], fun j h1 h2 => by rw [List.getElem?_replicate, if_pos (by simpa using h2)], rfl⟩ ?_
  rintro k t _ ⟨O, rfl, hOl, hOd, i, l, hi, rfl, hl, hv, hz, rfl⟩
  by_cases hin : i < n
  · obtain ⟨b1, o1, s1, p, rfl, f1, hp1, r1⟩ := (la.rd.keepW w (Fm.new (o := ⟨u3 O, .own⟩) (Fm.refl (F := No))) nNo).nat hin
    have hpl : p < 4294967296 := la.dl.at hp1
    have eo := or_by hl hpl hb
    have hpb : p * 2 ^ b ≤ 4294967295 * 2 ^ b := Nat.mul_le_mul_right _ (by omega)
    have hub : p * 2 ^ b < 9223372036854775808 := by
      have : p * 2 ^ b ≤ 4294967295 * 2147483648 := Nat.mul_le_mul (by omega) hp2
      omega
    have es := shl_by (x := p) (b := b) (by omega)
    have hie : i < O.length := by omega
    have hin2 : i < n + 1 := by omega
    have ul : leIs (i + 1) (u3 O) = true := by rw [← leIs_p, u3_len]; omega
    have us : spl (u3 O) i [.int .u32 (((l + p * 2 ^ b) % 4294967296 : Nat) : Int)] = u3 (O.set i ((l + p * 2 ^ b) % 4294967296)) := spl_u3 hie
    have h0 := hz i (Nat.le_refl _) hie
    simp +contextual (disch := omega) only [↓AM, ↓AV, AP, CQ, CN, i64, u64, hin, f1, r1, es, eo, hin2, ul, us]
    refine ⟨n - (i + 1), by omega, _, rfl, by simp [hOl], hOd.set (Nat.mod_lt _ (by decide)), i + 1, (l + p * 2 ^ b) / 4294967296, by omega, rfl, ?_, ?_, ?_, rfl⟩
    · refine (Nat.div_lt_iff_lt_mul (by decide)).2 ?_
      have : 2 ^ b * 4294967296 = 4294967295 * 2 ^ b + 2 ^ b := by omega
      omega
    · have e1 := vL_set (B := B32) (d := (l + p * 2 ^ b) % 4294967296) h0
      rw [Nat.mul_zero, Nat.add_zero] at e1
      rw [take_u3 hp1, e1, Nat.add_mul, ← hv, Nat.pow_succ, Nat.mul_assoc, Nat.mul_assoc]
      have e2 : B32 ^ i * ((l + p * 2 ^ b) % 4294967296) + B32 ^ i * (B32 * ((l + p * 2 ^ b) / 4294967296)) = B32 ^ i * l + B32 ^ i * (p * 2 ^ b) := by
        rw [← Nat.mul_add, ← Nat.mul_add]; congr 1; exact Nat.mod_add_div _ 4294967296
      omega
    · intro j h1 h2
      rw [List.getElem?_set_ne (by omega)]
      exact hz j (by omega) (by simpa using h2)
  · have hie : i = n := by omega
    subst hie
    have hiO : i < O.length := by omega
    have ul : leIs (i + 1) (u3 O) = true := by rw [← leIs_p, u3_len]; omega
    have us : spl (u3 O) i [.int .u32 ((l % 4294967296 : Nat) : Int)] = u3 (O.set i (l % 4294967296)) := spl_u3 hiO
    have hin2 : i < i + 1 := by omega
    have h0 := hz i (Nat.le_refl _) hiO
    simp +contextual (disch := omega) only [↓AM, ↓AV, AP, CQ, CN, i64, u64, hin, hin2, ul, us]
    refine ⟨h.size, O.set i (l % 4294967296), rfl, Nat.le_refl _, gnew, by simp [hOl], hOd.set (Nat.mod_lt _ (by decide)), ?_, Fm.new Fm.refl⟩
    have e1 := vL_set (B := B32) (d := l % 4294967296) h0
    rw [Nat.mul_zero, Nat.add_zero] at e1
    rw [List.take_of_length_le (by omega)] at hv
    rw [e1, Nat.mod_eq_of_lt (by omega), hv]
end Go.Proofs.Ytikbdeobghoglaa.Nu

/- Long division: one digit, in plain numbers. Plain theorems.
   Conditions: none. -/
namespace Go.Proofs.Ytikbdeobghoglaa.Nu
open Go Go.RowKit Go.Proofs.Ytikbdeobghoglaa.Am Go.Proofs.Ytikbdeobghoglaa.Af Go.Proofs.Ytikbdeobghoglaa.Md
set_option linter.unusedVariables false
set_option linter.unusedSimpArgs false
set_option linter.defProp false
set_option maxRecDepth 20000
set_option maxHeartbeats 1000000

/-- A divisor V with its two highest limbs, and a number U with its three highest ones (the two highest of them as one). -/
structure Kn (B top u2 v1 v2 W V U : Nat) : Prop where
  v1l : 1 ≤ v1
  v2h : v2 < B
  u2h : u2 < B
  w0 : 0 < W
  vl : (v1 * B + v2) * W ≤ V
  vh : V < (v1 * B + v2 + 1) * W
  ul : (top * B + u2) * W ≤ U
  uh : U < (top * B + u2 + 1) * W
  lt : U < V * B
section
variable {B top u2 v1 v2 W V U : Nat}
theorem Kn.v0 (k : Kn B top u2 v1 v2 W V U) : 0 < V := by
  have h1 := k.lt
  refine Nat.pos_of_ne_zero fun e => ?_
  rw [e, Nat.zero_mul] at h1
  omega
theorem Kn.b0 (k : Kn B top u2 v1 v2 W V U) : 0 < B := by have := k.v2h; omega
theorem Kn.qB (k : Kn B top u2 v1 v2 W V U) : U / V < B := (Nat.div_lt_iff_lt_mul k.v0).2 (by have := k.lt; rwa [Nat.mul_comm] at this)
theorem Kn.qV (k : Kn B top u2 v1 v2 W V U) : U / V * V ≤ U := Nat.div_mul_le_self U V
/-- The quotient's estimate from above. -/
theorem Kn.qU (k : Kn B top u2 v1 v2 W V U) : U / V * (v1 * B + v2) ≤ top * B + u2 := by
  have h1 := k.qV
  have h2 := Nat.mul_le_mul_left (U / V) k.vl
  have h3 := k.uh
  have h4 : U / V * (v1 * B + v2) * W < (top * B + u2 + 1) * W := by rw [Nat.mul_assoc]; omega
  have := Nat.lt_of_mul_lt_mul_right h4
  omega
theorem Kn.init (k : Kn B top u2 v1 v2 W V U) : U / V ≤ top / v1 := by
  have h := k.qU
  have hv := k.v1l
  have hu := k.u2h
  have hb := k.b0
  refine (Nat.le_div_iff_mul_le (by omega)).2 ?_
  rw [Nat.mul_add, ← Nat.mul_assoc] at h
  generalize U / V * v1 = m at *
  generalize U / V * v2 = l at *
  have h2 : m * B < (top + 1) * B := by rw [Nat.add_mul, Nat.one_mul]; omega
  have := Nat.lt_of_mul_lt_mul_right h2
  omega
theorem Kn.topB (k : Kn B top u2 v1 v2 W V U) : top ≤ v1 * B + v2 := by
  have h1 := k.ul
  have h2 := k.lt
  have h3 := k.vh
  have hb := k.b0
  have h4 : (top * B + u2) * W < (v1 * B + v2 + 1) * W * B := by
    have := Nat.mul_lt_mul_of_pos_right h3 hb
    omega
  have h5 : (top * B + u2) * W < (v1 * B + v2 + 1) * B * W := by
    rw [Nat.mul_assoc _ W, Nat.mul_comm W, ← Nat.mul_assoc] at h4; exact h4
  have h6 := Nat.lt_of_mul_lt_mul_right h5
  have h7 : top * B < (v1 * B + v2 + 1) * B := by omega
  have := Nat.lt_of_mul_lt_mul_right h7
  omega
theorem Kn.dec (k : Kn B top u2 v1 v2 W V U) {q r : Nat} (e : q * v1 + r = top) (h : B ≤ q ∨ r * B + u2 < q * v2) : U / V < q := by
  rcases h with h | h
  · exact Nat.lt_of_lt_of_le k.qB h
  · refine est_ge (V2 := v1 * B + v2) (U3 := top * B + u2) (W := W) k.vl k.uh k.qV ?_
    rw [Nat.mul_add, ← Nat.mul_assoc, ← e, Nat.add_mul]
    omega
theorem Kn.fin (k : Kn B top u2 v1 v2 W V U) {q r : Nat} (e : q * v1 + r = top) (hq : q < B) (h : q * v2 ≤ r * B + u2) : q ≤ U / V + 1 := by
  rcases Nat.eq_zero_or_pos q with h0 | h0
  · rw [h0]; exact Nat.zero_le _
  · have h1 : (q - 1) * V ≤ U := by
      refine est_le (V2 := v1 * B + v2) (U3 := top * B + u2) (W := W) k.vh k.ul ?_ ?_ h0
      · rw [Nat.mul_add, ← Nat.mul_assoc, ← e, Nat.add_mul]
        omega
      · have h2 := k.vl
        have h4 : 1 * B ≤ v1 * B := Nat.mul_le_mul_right B k.v1l
        have h3 : q * W ≤ (v1 * B + v2) * W := Nat.mul_le_mul_right W (by omega)
        omega
    have := (Nat.le_div_iff_mul_le k.v0).2 h1
    omega
theorem Kn.brk (k : Kn B top u2 v1 v2 W V U) {q r : Nat} (e : q * v1 + r = top) (hr : B ≤ r) : q < B ∧ q ≤ U / V + 1 := by
  have ht := k.topB
  have hv := k.v2h
  have hv1 := k.v1l
  have hq : q < B := by
    refine Nat.lt_of_not_le fun h => ?_
    have := Nat.mul_le_mul_right v1 h
    rw [Nat.mul_comm B] at this
    omega
  refine ⟨hq, k.fin e hq ?_⟩
  have h1 : q * v2 ≤ B * B := Nat.mul_le_mul (by omega) (by omega)
  have h2 : B * B ≤ r * B := Nat.mul_le_mul_right B hr
  omega
end
/-- The window of limbs from j on, the first i of them. -/
def wn (O : List Nat) (j i : Nat) : Nat := vL B32 ((O.drop j).take i)
theorem wn_set {O : List Nat} {j i d : Nat} (h : j + i < O.length) : wn (O.set (j + i) d) j (i + 1) = wn O j i + B32 ^ i * d := by
  unfold wn
  rw [List.drop_set, if_neg (by omega), show j + i - j = i by omega, List.take_add_one, List.take_set_of_le (Nat.le_refl i), List.getElem?_set_self (by simp; omega)]
  show vL B32 ((O.drop j).take i ++ [d]) = _
  rw [vL_snoc, List.length_take, List.length_drop, Nat.min_eq_left (by omega)]
theorem wn_at {O : List Nat} {j i d : Nat} (h : O[j + i]? = some d) : wn O j (i + 1) = wn O j i + B32 ^ i * d := by
  unfold wn
  have hl := (List.getElem?_eq_some_iff.1 h).1
  rw [List.take_add_one, List.getElem?_drop, h]
  show vL B32 ((O.drop j).take i ++ [d]) = _
  rw [vL_snoc, List.length_take, List.length_drop, Nat.min_eq_left (by omega)]
theorem wn_lt {O : List Nat} (h : Dl B32 O) (j i : Nat) : wn O j i < B32 ^ i := by
  have h1 : vL B32 ((O.drop j).take i) < B32 ^ ((O.drop j).take i).length := vL_lt fun d hd => h d (List.mem_of_mem_drop (List.mem_of_mem_take hd))
  have h2 : B32 ^ ((O.drop j).take i).length ≤ B32 ^ i := Nat.pow_le_pow_right (by decide) (by rw [List.length_take]; omega)
  exact Nat.lt_of_lt_of_le h1 h2
theorem wn_0 (O : List Nat) (j : Nat) : wn O j 0 = 0 := rfl
/-- The two highest limbs of a window tell it but for what is below. -/
theorem wn_top2 {O : List Nat} (hd : Dl B32 O) {j n a b : Nat} (ha : O[j + n]? = some a) (hb : O[j + (n + 1)]? = some b) : (b * B32 + a) * B32 ^ n ≤ wn O j (n + 2) ∧ wn O j (n + 2) < (b * B32 + a + 1) * B32 ^ n := by
  have h1 := wn_at hb
  have h2 := wn_at ha
  have h3 := wn_lt hd j n
  rw [h1, h2, Nat.pow_succ]
  generalize B32 = B at *
  have e1 : B ^ n * B * b = b * B * B ^ n := by ac_rfl
  have e2 : B ^ n * a = a * B ^ n := Nat.mul_comm _ _
  rw [e1, e2, Nat.add_mul, Nat.add_mul, Nat.add_mul, Nat.one_mul]
  generalize b * B * B ^ n = p at *
  generalize a * B ^ n = q at *
  generalize B ^ n = W at *
  omega
/-- The same for the three highest ones. -/
theorem wn_top3 {O : List Nat} (hd : Dl B32 O) {j n a b c : Nat} (ha : O[j + n]? = some a) (hb : O[j + (n + 1)]? = some b) (hc : O[j + (n + 2)]? = some c) : ((c * B32 + b) * B32 + a) * B32 ^ n ≤ wn O j (n + 3) ∧ wn O j (n + 3) < ((c * B32 + b) * B32 + a + 1) * B32 ^ n := by
  have h0 := wn_at hc
  have ⟨h1, h2⟩ := wn_top2 hd ha hb
  rw [h0]
  generalize B32 = B at *
  have e1 : B ^ (n + 2) * c = c * B * B * B ^ n := by
    rw [show n + 2 = n + 1 + 1 from rfl, Nat.pow_succ, Nat.pow_succ]; ac_rfl
  have e2 : ((c * B + b) * B + a) * B ^ n = c * B * B * B ^ n + (b * B + a) * B ^ n := by rw [← Nat.add_mul, Nat.add_mul (c * B) b B, Nat.add_assoc]
  have e3 : ((c * B + b) * B + a + 1) * B ^ n = c * B * B * B ^ n + (b * B + a + 1) * B ^ n := by rw [← Nat.add_mul, Nat.add_mul (c * B) b B, Nat.add_assoc, Nat.add_assoc, Nat.add_assoc]
  rw [e1, e2, e3]
  omega
end Go.Proofs.Ytikbdeobghoglaa.Nu

/- Long division: one digit, walked. Plain theorems over the abstract machine.
   Conditions: none. -/
namespace Go.Proofs.Ytikbdeobghoglaa.Nu
open Go Go.RowKit Go.Proofs.Ytikbdeobghoglaa.Am Go.Proofs.Ytikbdeobghoglaa.Af Go.Proofs.Ytikbdeobghoglaa.Md
set_option linter.unusedVariables false
set_option linter.unusedSimpArgs false
set_option linter.defProp false
set_option maxRecDepth 20000
set_option maxHeartbeats 2000000

theorem nzN {b : Nat} (h : 0 < b) : (((b : Nat) : Int) = 0) = False := eq_false (by omega)
theorem u3_rd {h : Hp} {b : Nat} {O : List Nat} (hg : h.get b = some ⟨u3 O, .own⟩) {i d : Nat} (hd : O[i]? = some d) : h.rd b i = some (.int .u32 (d : Int)) := (rd_mk hg).trans (u3_at hd)
theorem lt_l {O : List Nat} {i d : Nat} (h : O[i]? = some d) : i < O.length := (List.getElem?_eq_some_iff.1 h).1
theorem sub_key {p q bor : Nat} (hp : p < 4294967296) (hq : q < 4294967296) (hb : bor ≤ 1) : ∃ D : Nat, IntKind.u64.wrap (IntKind.u64.wrap ((p : Int) - (q : Int)) - (bor : Int)) = (D : Int) ∧ D / 9223372036854775808 ≤ 1 ∧ D % 4294967296 + q + bor = p + 4294967296 * (D / 9223372036854775808) := by
  refine ⟨(IntKind.u64.wrap (IntKind.u64.wrap ((p : Int) - (q : Int)) - (bor : Int))).toNat, ?_, ?_, ?_⟩
  · rw [IntKind.wrap_u64, IntKind.wrap_u64]; omega
  · rw [IntKind.wrap_u64, IntKind.wrap_u64]; omega
  · rw [IntKind.wrap_u64, IntKind.wrap_u64]; omega
theorem mul_lim {q y c : Nat} (hq : q < 4294967296) (hy : y < 4294967296) (hc : c < 4294967296) : q * y < 18446744065119617026 ∧ c + q * y < 18446744073709551616 ∧ (c + q * y) / 4294967296 < 4294967296 := by
  have : q * y ≤ 4294967295 * 4294967295 := Nat.mul_le_mul (by omega) (by omega)
  omega
/-- How the heap stands: the limbs of the number and those of the divisor. -/
structure Dv (h : Hp) (bu : Nat) (O : List Nat) (a : Option Addr) (n c : Nat) (V : List Nat) : Prop where
  wf : Wf h
  gu : h.get bu = some ⟨u3 O, .own⟩
  lv : Lm h a n c V
  ne : ∀ z, At a z → z ≠ bu
theorem Dv.put {h : Hp} {bu n c : Nat} {O O' : List Nat} {a : Option Addr} {V : List Nat} (d : Dv h bu O a n c V) : Dv (h.put bu ⟨u3 O', .own⟩) bu O' a n c V :=
  ⟨d.wf.put (d.wf.lt d.gu), gput, ⟨d.lv.rd.keep d.wf (F := fun z => z = bu) (Fm.put Fm.refl fun _ => rfl) d.ne, d.lv.le, d.lv.dl⟩, d.ne⟩
theorem put_self {h : Hp} {b : Nat} {o : Ob} (e : h.get b = some o) : h.put b o = h := by
  obtain ⟨s, g⟩ := h
  simp only [Hp.put, Hp.mk.injEq, true_and]
  funext x
  split
  · rename_i hx; subst hx; exact e.symm
  · rfl
theorem two_up {a b X s t : Nat} (e : a + X * s = b + X * t) (ha : a < X) (hb : b < X) : s = t ∧ a = b := by
  have h1 : (a + X * s) / X = s := by rw [Nat.add_mul_div_left _ _ (by omega), Nat.div_eq_of_lt ha, Nat.zero_add]
  have h2 : (b + X * t) / X = t := by rw [Nat.add_mul_div_left _ _ (by omega), Nat.div_eq_of_lt hb, Nat.zero_add]
  have h3 : s = t := by rw [← h1, ← h2, e]
  subst h3
  exact ⟨rfl, by omega⟩
theorem c_digitL {h : Hp} {bu j cu n c : Nat} {U V : List Nat} {a : Option Addr} (d : Dv h bu U a n c V) (hn : 2 ≤ n) (hn2 : n ≤ 400000) (hj : j + n + 1 ≤ U.length) (hcu : n + 1 ≤ cu) (hU : Dl B32 U) (hv1 : 2147483648 ≤ V.getD (n - 1) 0) (hlt : wn U j (n + 1) < vL B32 V * 4294967296) (hjl : U.length ≤ 1000000) :
    ACalls Try.prog 134 [.slice (some ⟨bu, j, none⟩) (n + 1) cu, .slice a n c] h fun v h' => v = .int .u32 ((wn U j (n + 1) / vL B32 V : Nat) : Int) ∧ ∃ O, h' = h.put bu ⟨u3 O, .own⟩ ∧ O.length = U.length ∧ Dl B32 O ∧ (∀ k, k < j ∨ j + n < k → O[k]? = U[k]?) ∧ wn O j (n + 1) = wn U j (n + 1) % vL B32 V := by
  refine num_digit_ok.snd hm rfl fun w => ?_
  rw [WF_eq, num_digit]
  obtain ⟨m, rfl⟩ : ∃ m, n = m + 2 := ⟨n - 2, by omega⟩
  have hVl := d.lv.len
  obtain ⟨v1, hv1e⟩ : ∃ v1, V[m + 1]? = some v1 := ⟨_, List.getElem?_eq_getElem (by omega)⟩
  obtain ⟨v2, hv2e⟩ : ∃ v2, V[m]? = some v2 := ⟨_, List.getElem?_eq_getElem (by omega)⟩
  obtain ⟨un, hun⟩ : ∃ un, U[j + (m + 2)]? = some un := ⟨_, List.getElem?_eq_getElem (by omega)⟩
  obtain ⟨un1, hun1⟩ : ∃ un, U[j + (m + 1)]? = some un := ⟨_, List.getElem?_eq_getElem (by omega)⟩
  obtain ⟨u2, hu2⟩ : ∃ un, U[j + m]? = some un := ⟨_, List.getElem?_eq_getElem (by omega)⟩
  have hv1' : 2147483648 ≤ v1 := by
    have e : V.getD (m + 2 - 1) 0 = v1 := by rw [List.getD_eq_getElem?_getD, show m + 2 - 1 = m + 1 from rfl, hv1e]; rfl
    rw [e] at hv1; exact hv1
  have v1h : v1 < 4294967296 := d.lv.dl.at hv1e
  have v2h : v2 < 4294967296 := d.lv.dl.at hv2e
  have unh : un < 4294967296 := hU.at hun
  have un1h : un1 < 4294967296 := hU.at hun1
  have u2h : u2 < 4294967296 := hU.at hu2
  have hvw : vL B32 V = wn V 0 (m + 2) := by unfold wn; rw [List.drop_zero, List.take_of_length_le (by omega)]
  have kn : Kn B32 (un * 4294967296 + un1) u2 v1 v2 (B32 ^ m) (vL B32 V) (wn U j (m + 2 + 1)) := by
    obtain ⟨p1, p2⟩ := wn_top2 (j := 0) d.lv.dl (show V[0 + m]? = some v2 by rw [Nat.zero_add]; exact hv2e) (show V[0 + (m + 1)]? = some v1 by rw [Nat.zero_add]; exact hv1e)
    obtain ⟨q1, q2⟩ := wn_top3 (j := j) hU hu2 hun1 hun
    rw [← hvw] at p1 p2
    exact ⟨by omega, v2h, u2h, Nat.pow_pos (by decide), p1, p2, q1, q2, hlt⟩
  have qB := kn.qB
  have qI := kn.init
  generalize hQ : wn U j (m + 2 + 1) / vL B32 V = Q at *
  obtain ⟨b1, o1, s1, v1', rfl, f1, e1, rv1⟩ := d.lv.rd.nat (i := m + 1) (by omega)
  rw [hv1e] at e1; cases e1
  obtain ⟨b2, o2, s2, v2', e2, f2, e3, rv2⟩ := d.lv.rd.nat (i := m) (by omega)
  cases e2
  rw [hv2e] at e3; cases e3
  have run := u3_rd d.gu hun
  have run1 := u3_rd d.gu hun1
  have ru2 := u3_rd d.gu hu2
  have eor := or_32 unh un1h
  have s21 : ((m + 2 : Nat) : Int) - 1 = ((m + 1 : Nat) : Int) := by omega
  have s22 : ((m + 2 : Nat) : Int) - 2 = ((m : Nat) : Int) := by omega
  have l1 : m + 2 < m + 2 + 1 := by omega
  have l2 : m + 1 < m + 2 + 1 := by omega
  have l3 : m + 1 < m + 2 := by omega
  have l4 : m < m + 2 := by omega
  have l5 : m < m + 2 + 1 := by omega
  have z1 : ((v1 : Int) = 0) = False := nzN (by omega)
  have topb : un * 4294967296 + un1 < 18446744073709551616 := by omega
  have qd : (un * 4294967296 + un1) / v1 < 8589934592 + 1 := by
    refine (Nat.div_lt_iff_lt_mul (by omega)).2 ?_
    have : 8589934593 * 2147483648 ≤ 8589934593 * v1 := Nat.mul_le_mul_left _ hv1'
    omega
  have rmd : (un * 4294967296 + un1) % v1 < v1 := Nat.mod_lt _ (by omega)
  have hdm : (un * 4294967296 + un1) / v1 * v1 + (un * 4294967296 + un1) % v1 = un * 4294967296 + un1 := by rw [Nat.mul_comm]; exact Nat.div_add_mod _ _
  generalize hq0 : (un * 4294967296 + un1) / v1 = q0 at *
  generalize hr0 : (un * 4294967296 + un1) % v1 = r0 at *
  simp +contextual (disch := omega) only [↓AM, ↓AV, AP, CQ, CN, i64, u64, run, run1, rv1, f1, eor, s21, l1, l2, l3, z1, ntdiv, ntmod, hq0, hr0]
  -- LOOP1
  refine WL.mk (fun k t h' => ∃ q r : Nat, h' = h ∧ q * v1 + r = un * 4294967296 + un1 ∧ Q ≤ q ∧ r < 4294967296 ∧ q ≤ 8589934592 ∧ k = q ∧ t = [(0, some (.slice (some ⟨bu, j, none⟩) (m + 2 + 1) cu)), (1, some (.slice (some ⟨b1, o1, s1⟩) (m + 2) c)), (5, some (.int .i64 ((m + 2 : Nat) : Int))), (7, some (.int .u64 (q : Int))), (8, some (.int .u64 (r : Int)))]) ⟨q0, q0, r0, rfl, hdm, qI, by omega, by omega, rfl, rfl⟩ ?_
  rintro q t h ⟨_, r, rfl, hqr, hQq, hr, hql, rfl, rfl⟩
  by_cases hgo : 4294967296 ≤ q ∨ r * 4294967296 + u2 < q * v2
  · have hdec := kn.dec hqr hgo
    obtain ⟨q, rfl⟩ : ∃ q', q = q' + 1 := ⟨q - 1, by omega⟩
    have hqr' : q * v1 + (r + v1) = un * 4294967296 + un1 := by rw [← hqr, Nat.add_mul, Nat.one_mul]; omega
    have hQ1 : Q ≤ q := by omega
    by_cases hrB : 4294967296 ≤ r + v1
    · have e7 : ((0 : Int) < (((r + v1) / 4294967296 : Nat) : Int)) = True := eq_true (by omega)
      obtain ⟨hqB, hq2⟩ := kn.brk (B := B32) hqr' hrB
      rw [hQ] at hq2
      by_cases hbig : 4294967296 ≤ q + 1
      · have e5 : ((0 : Int) < (((q + 1) / 4294967296 : Nat) : Int)) = True := eq_true (by omega)
        simp +contextual (disch := omega) only [↓AM, ↓AV, AP, CQ, CN, i64, u64, rv1, f1, s21, l3, e5, e7]
        have hs0 := put_self d.gu
        refine WL.mk (fun k t h' => ∃ O : List Nat, h' = h.put bu ⟨u3 O, .own⟩ ∧ O.length = U.length ∧ Dl B32 O ∧ ∃ i cy bor : Nat, i ≤ m + 2 ∧ k = m + 2 - i ∧ cy < 4294967296 ∧ bor ≤ 1 ∧ (∀ k, k < j ∨ j + i ≤ k → O[k]? = U[k]?) ∧ wn O j i + q * vL B32 (V.take i) = wn U j i + B32 ^ i * (bor + cy) ∧
            t = [(0, some (.slice (some ⟨bu, j, none⟩) (m + 2 + 1) cu)), (1, some (.slice (some ⟨b1, o1, s1⟩) (m + 2) c)), (5, some (.int .i64 ((m + 2 : Nat) : Int))), (7, some (.int .u64 (q : Int))), (9, some (.int .u64 (cy : Int))), (10, some (.int .u64 (bor : Int))), (85, some (.slice (some ⟨b1, o1, s1⟩) (m + 2) c)), (86, some (.int .i64 ((m + 2 : Nat) : Int))), (87, some (.int .i64 (i : Int)))])
          ⟨m + 2, U, hs0.symm, rfl, hU, 0, 0, 0, by omega, rfl, by decide, by decide, fun k _ => rfl, by simp [wn, vL], rfl⟩ ?_
        rintro k t _ ⟨O, rfl, hOl, hOd, i, cy, bor, hi, rfl, hcy, hbor, hout, hv, rfl⟩
        have dO := d.put (O' := O)
        by_cases hin : i < m + 2
        · obtain ⟨b3, o3, s3, y, e4, f3, hy, ry⟩ := dO.lv.rd.nat (i := i) hin
          cases e4
          have hyl : y < 4294967296 := d.lv.dl.at hy
          obtain ⟨u, hu⟩ : ∃ u, O[j + i]? = some u := ⟨_, List.getElem?_eq_getElem (by omega)⟩
          have hul : u < 4294967296 := hOd.at hu
          have hij := lt_l hu
          have huU : U[j + i]? = some u := by rw [← hout (j + i) (.inr (Nat.le_refl _))]; exact hu
          have ru := u3_rd dO.gu hu
          obtain ⟨m1, m2, m3⟩ := mul_lim hqB hyl hcy
          have m4 : (cy + q * y) % 4294967296 < 4294967296 := Nat.mod_lt _ (by decide)
          obtain ⟨D, kD, kD2, kD3⟩ := sub_key hul m4 hbor
          have hi2 : i < m + 2 + 1 := by omega
          have ul : leIs (j + i + 1) (u3 O) = true := by rw [← leIs_p, u3_len]; omega
          have us : spl (u3 O) (j + i) [.int .u32 ((D % 4294967296 : Nat) : Int)] = u3 (O.set (j + i) (D % 4294967296)) := spl_u3 hij
          have gO : (h.put bu ⟨u3 O, .own⟩).get bu = some ⟨u3 O, .own⟩ := gput
          have Dl64 : D < 18446744073709551616 := by omega
          simp +contextual (disch := omega) only [↓AM, ↓AV, AP, CQ, CN, i64, u64, gput, rput, put_put, hin, f1, ry, ru, u3_at hu, hi2, kD, shr_63, ul, us]
          refine ⟨m + 2 - (i + 1), by omega, O.set (j + i) (D % 4294967296), rfl, by simp [hOl], hOd.set (Nat.mod_lt _ (by decide)), i + 1, (cy + q * y) / 4294967296, D / 9223372036854775808, by omega, rfl, m3, kD2, ?_, ?_, rfl⟩
          · intro k hk
            rw [List.getElem?_set_ne (by omega)]
            exact hout k (by omega)
          · rw [wn_set hij, wn_at huU, take_u3 hy, Nat.pow_succ]
            have e5 : D % 4294967296 + (q * y) + bor + cy = u + 4294967296 * (D / 9223372036854775808 + (cy + q * y) / 4294967296) := by omega
            have e6 : B32 ^ i * (D % 4294967296) + B32 ^ i * (q * y) + B32 ^ i * (bor + cy) = B32 ^ i * u + B32 ^ i * B32 * (D / 9223372036854775808 + (cy + q * y) / 4294967296) := by
              rw [← Nat.mul_add, ← Nat.mul_add, Nat.mul_assoc, ← Nat.mul_add]; congr 1
              show D % 4294967296 + q * y + (bor + cy) = u + 4294967296 * (D / 9223372036854775808 + (cy + q * y) / 4294967296)
              omega
            have e7 : q * (vL B32 (V.take i) + B32 ^ i * y) = q * vL B32 (V.take i) + B32 ^ i * (q * y) := by rw [Nat.mul_add]; congr 1; ac_rfl
            rw [e7]
            omega
        have hie : i = m + 2 := by omega
        subst hie
        rw [List.take_of_length_le (l := V) (by omega)] at hv
        obtain ⟨m4, hO4⟩ : ∃ z, O[j + (m + 2)]? = some z := ⟨_, List.getElem?_eq_getElem (by omega)⟩
        have hm4 : m4 = un := by
          have := hout (j + (m + 2)) (.inr (Nat.le_refl _))
          rw [hO4, hun] at this
          exact Option.some.inj this
        subst hm4
        have hij := lt_l hO4
        have ru := u3_rd dO.gu hO4
        obtain ⟨D, kD, kD2, kD3⟩ := sub_key unh hcy hbor
        have ul : leIs (j + (m + 2) + 1) (u3 O) = true := by rw [← leIs_p, u3_len]; omega
        have us : spl (u3 O) (j + (m + 2)) [.int .u32 ((D % 4294967296 : Nat) : Int)] = u3 (O.set (j + (m + 2)) (D % 4294967296)) := spl_u3 hij
        have Dl64 : D < 18446744073709551616 := by omega
        have hw2 : wn (O.set (j + (m + 2)) (D % 4294967296)) j (m + 2 + 1) = wn O j (m + 2) + B32 ^ (m + 2) * (D % 4294967296) := wn_set hij
        have hwU : wn U j (m + 2 + 1) = wn U j (m + 2) + B32 ^ (m + 2) * m4 := wn_at hun
        have e8 : B32 ^ (m + 2) * (D % 4294967296) + B32 ^ (m + 2) * (bor + cy) = B32 ^ (m + 2) * m4 + B32 ^ (m + 2) * (4294967296 * (D / 9223372036854775808)) := by
          rw [← Nat.mul_add, ← Nat.mul_add]; congr 1; omega
        have hQV : Q * vL B32 V ≤ wn U j (m + 2 + 1) := by rw [← hQ]; exact kn.qV
        have hQV2 : wn U j (m + 2 + 1) % vL B32 V + Q * vL B32 V = wn U j (m + 2 + 1) := by rw [← hQ, Nat.mul_comm]; exact Nat.mod_add_div _ _
        have hQV3 : wn U j (m + 2 + 1) % vL B32 V < vL B32 V := Nat.mod_lt _ kn.v0
        have hOd2 : Dl B32 (O.set (j + (m + 2)) (D % 4294967296)) := hOd.set (Nat.mod_lt _ (by decide))
        have hPl : (O.set (j + (m + 2)) (D % 4294967296)).length = U.length := by simp [hOl]
        have hwl := wn_lt hOd2 j (m + 2 + 1)
        by_cases hz : D / 9223372036854775808 = 0
        · have ez : EqI ((D / 9223372036854775808 : Nat) : Int) 0 = True := by rw [hz]; exact eqI_self
          have kS : (m4 : Int) - (cy : Int) - (bor : Int) = (D : Int) := by rw [← kD, IntKind.wrap_u64, IntKind.wrap_u64]; omega
          simp +contextual (disch := omega) only [↓AM, ↓AV, AP, CQ, CN, i64, u64, gput, rput, put_put, hin, u3_at hO4, l1, kD, kS, shr_63, ul, us, ez]
          simp only [hz, Nat.mul_zero, Nat.add_zero] at e8
          have hle : q * vL B32 V ≤ wn U j (m + 2 + 1) := by omega
          have hqQ : q ≤ Q := by rw [← hQ]; exact (Nat.le_div_iff_mul_le kn.v0).2 hle
          have hqe : q = Q := by omega
          subst hqe
          refine ⟨by rw [Nat.mod_eq_of_lt hqB], _, rfl, hPl, hOd2, ?_, by omega⟩
          intro k hk
          rw [List.getElem?_set_ne (by omega)]
          exact hout k (by omega)
        have hz1 : D / 9223372036854775808 = 1 := by omega
        have ez : EqI ((D / 9223372036854775808 : Nat) : Int) 0 = False := eq_false (by unfold EqI; omega)
        simp +contextual (disch := omega) only [↓AM, ↓AV, AP, CQ, CN, i64, u64, gput, rput, put_put, hin, u3_at hO4, l1, kD, shr_63, ul, us, ez]
        rw [hz1, Nat.mul_one] at e8
        have epow : B32 ^ (m + 2) * 4294967296 = B32 ^ (m + 2 + 1) := (Nat.pow_succ ..).symm
        rw [epow] at e8
        have hgt : wn U j (m + 2 + 1) < q * vL B32 V := by omega
        have hqe : q = Q + 1 := by
          have : Q < q := by
            refine Nat.lt_of_not_le fun hh => ?_
            have := Nat.mul_le_mul_right (vL B32 V) hh
            omega
          omega
        subst hqe
        have dP := d.put (O' := O.set (j + (m + 2)) (D % 4294967296))
        have hP4 : (O.set (j + (m + 2)) (D % 4294967296))[j + (m + 2)]? = some (D % 4294967296) := List.getElem?_set_self hij
        have houtP : ∀ k, k < j ∨ j + (m + 2) < k → (O.set (j + (m + 2)) (D % 4294967296))[k]? = U[k]? := fun k hk => by
          rw [List.getElem?_set_ne (by omega)]
          exact hout k (by omega)
        have hwP : wn (O.set (j + (m + 2)) (D % 4294967296)) j (m + 2 + 1) = wn (O.set (j + (m + 2)) (D % 4294967296)) j (m + 2) + B32 ^ (m + 2) * (D % 4294967296) := wn_at hP4
        generalize O.set (j + (m + 2)) (D % 4294967296) = P at *
        refine WL.mk (fun k t h' => ∃ R : List Nat, h' = h.put bu ⟨u3 R, .own⟩ ∧ R.length = U.length ∧ Dl B32 R ∧ ∃ i ba : Nat, i ≤ m + 2 ∧ k = m + 2 - i ∧ ba ≤ 1 ∧ (∀ k, k < j ∨ j + i ≤ k → R[k]? = P[k]?) ∧ wn R j i + B32 ^ i * ba = wn P j i + vL B32 (V.take i) ∧
            t = [(0, some (.slice (some ⟨bu, j, none⟩) (m + 2 + 1) cu)), (5, some (.int .i64 ((m + 2 : Nat) : Int))), (7, some (.int .u64 ((Q + 1 : Nat) : Int))), (15, some (.int .u64 (ba : Int))), (138, some (.slice (some ⟨b1, o1, s1⟩) (m + 2) c)), (139, some (.int .i64 ((m + 2 : Nat) : Int))), (140, some (.int .i64 (i : Int)))])
          ⟨m + 2, P, rfl, hPl, hOd2, 0, 0, by omega, rfl, by decide, fun k _ => rfl, by simp [wn, vL], rfl⟩ ?_
        rintro k t _ ⟨R, rfl, hRl, hRd, i, ba, hi, rfl, hba, houtR, hvR, rfl⟩
        have dR := d.put (O' := R)
        by_cases hin : i < m + 2
        · obtain ⟨b3, o3, s3, y, e4, f3, hy, ry⟩ := dR.lv.rd.nat (i := i) hin
          cases e4
          have hyl : y < 4294967296 := d.lv.dl.at hy
          obtain ⟨u, hu⟩ : ∃ u, R[j + i]? = some u := ⟨_, List.getElem?_eq_getElem (by omega)⟩
          have hul : u < 4294967296 := hRd.at hu
          have hij := lt_l hu
          have huP : P[j + i]? = some u := by rw [← houtR (j + i) (.inr (Nat.le_refl _))]; exact hu
          have ru := u3_rd dR.gu hu
          have hi2 : i < m + 2 + 1 := by omega
          have ul : leIs (j + i + 1) (u3 R) = true := by rw [← leIs_p, u3_len]; omega
          have us : spl (u3 R) (j + i) [.int .u32 (((ba + (u + y)) % 4294967296 : Nat) : Int)] = u3 (R.set (j + i) ((ba + (u + y)) % 4294967296)) := spl_u3 hij
          simp +contextual (disch := omega) only [↓AM, ↓AV, AP, CQ, CN, i64, u64, gput, rput, put_put, hin, f1, ry, ru, u3_at hu, hi2, ul, us]
          refine ⟨m + 2 - (i + 1), by omega, R.set (j + i) ((ba + (u + y)) % 4294967296), rfl, by simp [hRl], hRd.set (Nat.mod_lt _ (by decide)), i + 1, (ba + (u + y)) / 4294967296, by omega, rfl, by omega, ?_, ?_, rfl⟩
          · intro k hk
            rw [List.getElem?_set_ne (by omega)]
            exact houtR k (by omega)
          · rw [wn_set hij, wn_at huP, take_u3 hy, Nat.pow_succ]
            have e6 : B32 ^ i * ((ba + (u + y)) % 4294967296) + B32 ^ i * B32 * ((ba + (u + y)) / 4294967296) = B32 ^ i * ba + (B32 ^ i * u + B32 ^ i * y) := by
              rw [← Nat.mul_add, ← Nat.mul_add, Nat.mul_assoc, ← Nat.mul_add]; congr 1; exact Nat.mod_add_div _ 4294967296
            omega
        have hie : i = m + 2 := by omega
        subst hie
        rw [List.take_of_length_le (l := V) (by omega)] at hvR
        have hR4 : R[j + (m + 2)]? = some (D % 4294967296) := by rw [houtR (j + (m + 2)) (.inr (Nat.le_refl _))]; exact hP4
        have hij := lt_l hR4
        have hRw := wn_lt hRd j (m + 2)
        have hVw : vL B32 V < B32 ^ (m + 2) := by have := vL_lt d.lv.dl; rw [hVl] at this; exact this
        obtain ⟨t1, t2⟩ := two_up (a := wn R j (m + 2)) (b := wn U j (m + 2 + 1) % vL B32 V) (X := B32 ^ (m + 2)) (s := D % 4294967296 + ba) (t := 4294967296) (by
          rw [Nat.mul_add, epow]
          have e9 : (Q + 1) * vL B32 V = Q * vL B32 V + vL B32 V := by rw [Nat.add_mul, Nat.one_mul]
          omega) hRw (by omega)
        have ul : leIs (j + (m + 2) + 1) (u3 R) = true := by rw [← leIs_p, u3_len]; omega
        have us : spl (u3 R) (j + (m + 2)) [.int .u32 0] = u3 (R.set (j + (m + 2)) 0) := spl_u3 hij
        have wz : IntKind.u32.wrap (((D % 4294967296 : Nat) : Int) + ((ba % 4294967296 : Nat) : Int)) = 0 := by
          rw [IntKind.wrap_u32]; omega
        have wz2 : IntKind.u32.wrap ((D % 4294967296 + ba % 4294967296 : Nat) : Int) = 0 := by
          rw [IntKind.wrap_u32]; omega
        have wz3 : (((D % 4294967296 + ba % 4294967296) % 4294967296 : Nat) : Int) = 0 := by omega
        simp +contextual (disch := omega) only [↓AM, ↓AV, AP, CQ, CN, i64, u64, gput, rput, put_put, hin, u3_at hR4, l1, ul, us, wz, wz2, wz3]
        refine ⟨by rw [Nat.mod_eq_of_lt (by omega)], _, rfl, by simp [hRl], hRd.set (by decide), ?_, ?_⟩
        · intro k hk
          rw [List.getElem?_set_ne (by omega), houtR k (by omega)]
          exact houtP k hk
        · rw [wn_set hij, Nat.mul_zero, Nat.add_zero]
          exact t2
      · have e5 : ((0 : Int) < (((q + 1) / 4294967296 : Nat) : Int)) = False := eq_false (by omega)
        have hcmp : r * 4294967296 + u2 < (q + 1) * v2 := hgo.resolve_left hbig
        have mb : (q + 1) * v2 ≤ 4294967296 * 4294967295 := Nat.mul_le_mul (by omega) (by omega)
        have eor2 := or_32 hr u2h
        simp +contextual (disch := omega) only [↓AM, ↓AV, AP, CQ, CN, i64, u64, rv1, rv2, ru2, f1, s21, s22, l3, l4, l5, e5, e7, eor2, hcmp]
        have hs0 := put_self d.gu
        refine WL.mk (fun k t h' => ∃ O : List Nat, h' = h.put bu ⟨u3 O, .own⟩ ∧ O.length = U.length ∧ Dl B32 O ∧ ∃ i cy bor : Nat, i ≤ m + 2 ∧ k = m + 2 - i ∧ cy < 4294967296 ∧ bor ≤ 1 ∧ (∀ k, k < j ∨ j + i ≤ k → O[k]? = U[k]?) ∧ wn O j i + q * vL B32 (V.take i) = wn U j i + B32 ^ i * (bor + cy) ∧
            t = [(0, some (.slice (some ⟨bu, j, none⟩) (m + 2 + 1) cu)), (1, some (.slice (some ⟨b1, o1, s1⟩) (m + 2) c)), (5, some (.int .i64 ((m + 2 : Nat) : Int))), (7, some (.int .u64 (q : Int))), (9, some (.int .u64 (cy : Int))), (10, some (.int .u64 (bor : Int))), (85, some (.slice (some ⟨b1, o1, s1⟩) (m + 2) c)), (86, some (.int .i64 ((m + 2 : Nat) : Int))), (87, some (.int .i64 (i : Int)))])
          ⟨m + 2, U, hs0.symm, rfl, hU, 0, 0, 0, by omega, rfl, by decide, by decide, fun k _ => rfl, by simp [wn, vL], rfl⟩ ?_
        rintro k t _ ⟨O, rfl, hOl, hOd, i, cy, bor, hi, rfl, hcy, hbor, hout, hv, rfl⟩
        have dO := d.put (O' := O)
        by_cases hin : i < m + 2
        · obtain ⟨b3, o3, s3, y, e4, f3, hy, ry⟩ := dO.lv.rd.nat (i := i) hin
          cases e4
          have hyl : y < 4294967296 := d.lv.dl.at hy
          obtain ⟨u, hu⟩ : ∃ u, O[j + i]? = some u := ⟨_, List.getElem?_eq_getElem (by omega)⟩
          have hul : u < 4294967296 := hOd.at hu
          have hij := lt_l hu
          have huU : U[j + i]? = some u := by rw [← hout (j + i) (.inr (Nat.le_refl _))]; exact hu
          have ru := u3_rd dO.gu hu
          obtain ⟨m1, m2, m3⟩ := mul_lim hqB hyl hcy
          have m4 : (cy + q * y) % 4294967296 < 4294967296 := Nat.mod_lt _ (by decide)
          obtain ⟨D, kD, kD2, kD3⟩ := sub_key hul m4 hbor
          have hi2 : i < m + 2 + 1 := by omega
          have ul : leIs (j + i + 1) (u3 O) = true := by rw [← leIs_p, u3_len]; omega
          have us : spl (u3 O) (j + i) [.int .u32 ((D % 4294967296 : Nat) : Int)] = u3 (O.set (j + i) (D % 4294967296)) := spl_u3 hij
          have gO : (h.put bu ⟨u3 O, .own⟩).get bu = some ⟨u3 O, .own⟩ := gput
          have Dl64 : D < 18446744073709551616 := by omega
          simp +contextual (disch := omega) only [↓AM, ↓AV, AP, CQ, CN, i64, u64, gput, rput, put_put, hin, f1, ry, ru, u3_at hu, hi2, kD, shr_63, ul, us]
          refine ⟨m + 2 - (i + 1), by omega, O.set (j + i) (D % 4294967296), rfl, by simp [hOl], hOd.set (Nat.mod_lt _ (by decide)), i + 1, (cy + q * y) / 4294967296, D / 9223372036854775808, by omega, rfl, m3, kD2, ?_, ?_, rfl⟩
          · intro k hk
            rw [List.getElem?_set_ne (by omega)]
            exact hout k (by omega)
          · rw [wn_set hij, wn_at huU, take_u3 hy, Nat.pow_succ]
            have e5 : D % 4294967296 + (q * y) + bor + cy = u + 4294967296 * (D / 9223372036854775808 + (cy + q * y) / 4294967296) := by omega
            have e6 : B32 ^ i * (D % 4294967296) + B32 ^ i * (q * y) + B32 ^ i * (bor + cy) = B32 ^ i * u + B32 ^ i * B32 * (D / 9223372036854775808 + (cy + q * y) / 4294967296) := by
              rw [← Nat.mul_add, ← Nat.mul_add, Nat.mul_assoc, ← Nat.mul_add]; congr 1
              show D % 4294967296 + q * y + (bor + cy) = u + 4294967296 * (D / 9223372036854775808 + (cy + q * y) / 4294967296)
              omega
            have e7 : q * (vL B32 (V.take i) + B32 ^ i * y) = q * vL B32 (V.take i) + B32 ^ i * (q * y) := by rw [Nat.mul_add]; congr 1; ac_rfl
            rw [e7]
            omega
        have hie : i = m + 2 := by omega
        subst hie
        rw [List.take_of_length_le (l := V) (by omega)] at hv
        obtain ⟨m4, hO4⟩ : ∃ z, O[j + (m + 2)]? = some z := ⟨_, List.getElem?_eq_getElem (by omega)⟩
        have hm4 : m4 = un := by
          have := hout (j + (m + 2)) (.inr (Nat.le_refl _))
          rw [hO4, hun] at this
          exact Option.some.inj this
        subst hm4
        have hij := lt_l hO4
        have ru := u3_rd dO.gu hO4
        obtain ⟨D, kD, kD2, kD3⟩ := sub_key unh hcy hbor
        have ul : leIs (j + (m + 2) + 1) (u3 O) = true := by rw [← leIs_p, u3_len]; omega
        have us : spl (u3 O) (j + (m + 2)) [.int .u32 ((D % 4294967296 : Nat) : Int)] = u3 (O.set (j + (m + 2)) (D % 4294967296)) := spl_u3 hij
        have Dl64 : D < 18446744073709551616 := by omega
        have hw2 : wn (O.set (j + (m + 2)) (D % 4294967296)) j (m + 2 + 1) = wn O j (m + 2) + B32 ^ (m + 2) * (D % 4294967296) := wn_set hij
        have hwU : wn U j (m + 2 + 1) = wn U j (m + 2) + B32 ^ (m + 2) * m4 := wn_at hun
        have e8 : B32 ^ (m + 2) * (D % 4294967296) + B32 ^ (m + 2) * (bor + cy) = B32 ^ (m + 2) * m4 + B32 ^ (m + 2) * (4294967296 * (D / 9223372036854775808)) := by
          rw [← Nat.mul_add, ← Nat.mul_add]; congr 1; omega
        have hQV : Q * vL B32 V ≤ wn U j (m + 2 + 1) := by rw [← hQ]; exact kn.qV
        have hQV2 : wn U j (m + 2 + 1) % vL B32 V + Q * vL B32 V = wn U j (m + 2 + 1) := by rw [← hQ, Nat.mul_comm]; exact Nat.mod_add_div _ _
        have hQV3 : wn U j (m + 2 + 1) % vL B32 V < vL B32 V := Nat.mod_lt _ kn.v0
        have hOd2 : Dl B32 (O.set (j + (m + 2)) (D % 4294967296)) := hOd.set (Nat.mod_lt _ (by decide))
        have hPl : (O.set (j + (m + 2)) (D % 4294967296)).length = U.length := by simp [hOl]
        have hwl := wn_lt hOd2 j (m + 2 + 1)
        by_cases hz : D / 9223372036854775808 = 0
        · have ez : EqI ((D / 9223372036854775808 : Nat) : Int) 0 = True := by rw [hz]; exact eqI_self
          have kS : (m4 : Int) - (cy : Int) - (bor : Int) = (D : Int) := by rw [← kD, IntKind.wrap_u64, IntKind.wrap_u64]; omega
          simp +contextual (disch := omega) only [↓AM, ↓AV, AP, CQ, CN, i64, u64, gput, rput, put_put, hin, u3_at hO4, l1, kD, kS, shr_63, ul, us, ez]
          simp only [hz, Nat.mul_zero, Nat.add_zero] at e8
          have hle : q * vL B32 V ≤ wn U j (m + 2 + 1) := by omega
          have hqQ : q ≤ Q := by rw [← hQ]; exact (Nat.le_div_iff_mul_le kn.v0).2 hle
          have hqe : q = Q := by omega
          subst hqe
          refine ⟨by rw [Nat.mod_eq_of_lt hqB], _, rfl, hPl, hOd2, ?_, by omega⟩
          intro k hk
          rw [List.getElem?_set_ne (by omega)]
          exact hout k (by omega)
        have hz1 : D / 9223372036854775808 = 1 := by omega
        have ez : EqI ((D / 9223372036854775808 : Nat) : Int) 0 = False := eq_false (by unfold EqI; omega)
        simp +contextual (disch := omega) only [↓AM, ↓AV, AP, CQ, CN, i64, u64, gput, rput, put_put, hin, u3_at hO4, l1, kD, shr_63, ul, us, ez]
        rw [hz1, Nat.mul_one] at e8
        have epow : B32 ^ (m + 2) * 4294967296 = B32 ^ (m + 2 + 1) := (Nat.pow_succ ..).symm
        rw [epow] at e8
        have hgt : wn U j (m + 2 + 1) < q * vL B32 V := by omega
        have hqe : q = Q + 1 := by
          have : Q < q := by
            refine Nat.lt_of_not_le fun hh => ?_
            have := Nat.mul_le_mul_right (vL B32 V) hh
            omega
          omega
        subst hqe
        have dP := d.put (O' := O.set (j + (m + 2)) (D % 4294967296))
        have hP4 : (O.set (j + (m + 2)) (D % 4294967296))[j + (m + 2)]? = some (D % 4294967296) := List.getElem?_set_self hij
        have houtP : ∀ k, k < j ∨ j + (m + 2) < k → (O.set (j + (m + 2)) (D % 4294967296))[k]? = U[k]? := fun k hk => by
          rw [List.getElem?_set_ne (by omega)]
          exact hout k (by omega)
        have hwP : wn (O.set (j + (m + 2)) (D % 4294967296)) j (m + 2 + 1) = wn (O.set (j + (m + 2)) (D % 4294967296)) j (m + 2) + B32 ^ (m + 2) * (D % 4294967296) := wn_at hP4
        generalize O.set (j + (m + 2)) (D % 4294967296) = P at *
        refine WL.mk (fun k t h' => ∃ R : List Nat, h' = h.put bu ⟨u3 R, .own⟩ ∧ R.length = U.length ∧ Dl B32 R ∧ ∃ i ba : Nat, i ≤ m + 2 ∧ k = m + 2 - i ∧ ba ≤ 1 ∧ (∀ k, k < j ∨ j + i ≤ k → R[k]? = P[k]?) ∧ wn R j i + B32 ^ i * ba = wn P j i + vL B32 (V.take i) ∧
            t = [(0, some (.slice (some ⟨bu, j, none⟩) (m + 2 + 1) cu)), (5, some (.int .i64 ((m + 2 : Nat) : Int))), (7, some (.int .u64 ((Q + 1 : Nat) : Int))), (15, some (.int .u64 (ba : Int))), (138, some (.slice (some ⟨b1, o1, s1⟩) (m + 2) c)), (139, some (.int .i64 ((m + 2 : Nat) : Int))), (140, some (.int .i64 (i : Int)))])
          ⟨m + 2, P, rfl, hPl, hOd2, 0, 0, by omega, rfl, by decide, fun k _ => rfl, by simp [wn, vL], rfl⟩ ?_
        rintro k t _ ⟨R, rfl, hRl, hRd, i, ba, hi, rfl, hba, houtR, hvR, rfl⟩
        have dR := d.put (O' := R)
        by_cases hin : i < m + 2
        · obtain ⟨b3, o3, s3, y, e4, f3, hy, ry⟩ := dR.lv.rd.nat (i := i) hin
          cases e4
          have hyl : y < 4294967296 := d.lv.dl.at hy
          obtain ⟨u, hu⟩ : ∃ u, R[j + i]? = some u := ⟨_, List.getElem?_eq_getElem (by omega)⟩
          have hul : u < 4294967296 := hRd.at hu
          have hij := lt_l hu
          have huP : P[j + i]? = some u := by rw [← houtR (j + i) (.inr (Nat.le_refl _))]; exact hu
          have ru := u3_rd dR.gu hu
          have hi2 : i < m + 2 + 1 := by omega
          have ul : leIs (j + i + 1) (u3 R) = true := by rw [← leIs_p, u3_len]; omega
          have us : spl (u3 R) (j + i) [.int .u32 (((ba + (u + y)) % 4294967296 : Nat) : Int)] = u3 (R.set (j + i) ((ba + (u + y)) % 4294967296)) := spl_u3 hij
          simp +contextual (disch := omega) only [↓AM, ↓AV, AP, CQ, CN, i64, u64, gput, rput, put_put, hin, f1, ry, ru, u3_at hu, hi2, ul, us]
          refine ⟨m + 2 - (i + 1), by omega, R.set (j + i) ((ba + (u + y)) % 4294967296), rfl, by simp [hRl], hRd.set (Nat.mod_lt _ (by decide)), i + 1, (ba + (u + y)) / 4294967296, by omega, rfl, by omega, ?_, ?_, rfl⟩
          · intro k hk
            rw [List.getElem?_set_ne (by omega)]
            exact houtR k (by omega)
          · rw [wn_set hij, wn_at huP, take_u3 hy, Nat.pow_succ]
            have e6 : B32 ^ i * ((ba + (u + y)) % 4294967296) + B32 ^ i * B32 * ((ba + (u + y)) / 4294967296) = B32 ^ i * ba + (B32 ^ i * u + B32 ^ i * y) := by
              rw [← Nat.mul_add, ← Nat.mul_add, Nat.mul_assoc, ← Nat.mul_add]; congr 1; exact Nat.mod_add_div _ 4294967296
            omega
        have hie : i = m + 2 := by omega
        subst hie
        rw [List.take_of_length_le (l := V) (by omega)] at hvR
        have hR4 : R[j + (m + 2)]? = some (D % 4294967296) := by rw [houtR (j + (m + 2)) (.inr (Nat.le_refl _))]; exact hP4
        have hij := lt_l hR4
        have hRw := wn_lt hRd j (m + 2)
        have hVw : vL B32 V < B32 ^ (m + 2) := by have := vL_lt d.lv.dl; rw [hVl] at this; exact this
        obtain ⟨t1, t2⟩ := two_up (a := wn R j (m + 2)) (b := wn U j (m + 2 + 1) % vL B32 V) (X := B32 ^ (m + 2)) (s := D % 4294967296 + ba) (t := 4294967296) (by
          rw [Nat.mul_add, epow]
          have e9 : (Q + 1) * vL B32 V = Q * vL B32 V + vL B32 V := by rw [Nat.add_mul, Nat.one_mul]
          omega) hRw (by omega)
        have ul : leIs (j + (m + 2) + 1) (u3 R) = true := by rw [← leIs_p, u3_len]; omega
        have us : spl (u3 R) (j + (m + 2)) [.int .u32 0] = u3 (R.set (j + (m + 2)) 0) := spl_u3 hij
        have wz : IntKind.u32.wrap (((D % 4294967296 : Nat) : Int) + ((ba % 4294967296 : Nat) : Int)) = 0 := by
          rw [IntKind.wrap_u32]; omega
        have wz2 : IntKind.u32.wrap ((D % 4294967296 + ba % 4294967296 : Nat) : Int) = 0 := by
          rw [IntKind.wrap_u32]; omega
        have wz3 : (((D % 4294967296 + ba % 4294967296) % 4294967296 : Nat) : Int) = 0 := by omega
        simp +contextual (disch := omega) only [↓AM, ↓AV, AP, CQ, CN, i64, u64, gput, rput, put_put, hin, u3_at hR4, l1, ul, us, wz, wz2, wz3]
        refine ⟨by rw [Nat.mod_eq_of_lt (by omega)], _, rfl, by simp [hRl], hRd.set (by decide), ?_, ?_⟩
        · intro k hk
          rw [List.getElem?_set_ne (by omega), houtR k (by omega)]
          exact houtP k hk
        · rw [wn_set hij, Nat.mul_zero, Nat.add_zero]
          exact t2
    · have e7 : ((0 : Int) < (((r + v1) / 4294967296 : Nat) : Int)) = False := eq_false (by omega)
      by_cases hbig : 4294967296 ≤ q + 1
      · have e5 : ((0 : Int) < (((q + 1) / 4294967296 : Nat) : Int)) = True := eq_true (by omega)
        simp +contextual (disch := omega) only [↓AM, ↓AV, AP, CQ, CN, i64, u64, rv1, f1, s21, l3, e5, e7]
        exact ⟨q, by omega, q, r + v1, hqr', hQ1, by omega, by omega, rfl, rfl⟩
      · have e5 : ((0 : Int) < (((q + 1) / 4294967296 : Nat) : Int)) = False := eq_false (by omega)
        have hcmp : r * 4294967296 + u2 < (q + 1) * v2 := hgo.resolve_left hbig
        have mb : (q + 1) * v2 ≤ 4294967296 * 4294967295 := Nat.mul_le_mul (by omega) (by omega)
        have eor2 := or_32 hr u2h
        simp +contextual (disch := omega) only [↓AM, ↓AV, AP, CQ, CN, i64, u64, rv1, rv2, ru2, f1, s21, s22, l3, l4, l5, e5, e7, eor2, hcmp]
        exact ⟨q, by omega, q, r + v1, hqr', hQ1, by omega, by omega, rfl, rfl⟩
  · have hqB : q < 4294967296 := by omega
    have hcmp : ¬ r * 4294967296 + u2 < q * v2 := fun hh => hgo (.inr hh)
    have e5 : ((0 : Int) < ((q / 4294967296 : Nat) : Int)) = False := eq_false (by omega)
    have hq2 := kn.fin (B := B32) hqr hqB (Nat.le_of_not_lt hcmp)
    rw [hQ] at hq2
    have mb : q * v2 ≤ 4294967296 * 4294967295 := Nat.mul_le_mul (by omega) (by omega)
    have eor2 := or_32 hr u2h
    simp +contextual (disch := omega) only [↓AM, ↓AV, AP, CQ, CN, i64, u64, rv1, rv2, ru2, f1, s21, s22, l3, l4, l5, e5, eor2, hcmp]
    have hs0 := put_self d.gu
    refine WL.mk (fun k t h' => ∃ O : List Nat, h' = h.put bu ⟨u3 O, .own⟩ ∧ O.length = U.length ∧ Dl B32 O ∧ ∃ i cy bor : Nat, i ≤ m + 2 ∧ k = m + 2 - i ∧ cy < 4294967296 ∧ bor ≤ 1 ∧ (∀ k, k < j ∨ j + i ≤ k → O[k]? = U[k]?) ∧ wn O j i + q * vL B32 (V.take i) = wn U j i + B32 ^ i * (bor + cy) ∧
        t = [(0, some (.slice (some ⟨bu, j, none⟩) (m + 2 + 1) cu)), (1, some (.slice (some ⟨b1, o1, s1⟩) (m + 2) c)), (5, some (.int .i64 ((m + 2 : Nat) : Int))), (7, some (.int .u64 (q : Int))), (9, some (.int .u64 (cy : Int))), (10, some (.int .u64 (bor : Int))), (85, some (.slice (some ⟨b1, o1, s1⟩) (m + 2) c)), (86, some (.int .i64 ((m + 2 : Nat) : Int))), (87, some (.int .i64 (i : Int)))])
      ⟨m + 2, U, hs0.symm, rfl, hU, 0, 0, 0, by omega, rfl, by decide, by decide, fun k _ => rfl, by simp [wn, vL], rfl⟩ ?_
    rintro k t _ ⟨O, rfl, hOl, hOd, i, cy, bor, hi, rfl, hcy, hbor, hout, hv, rfl⟩
    have dO := d.put (O' := O)
    by_cases hin : i < m + 2
    · obtain ⟨b3, o3, s3, y, e4, f3, hy, ry⟩ := dO.lv.rd.nat (i := i) hin
      cases e4
      have hyl : y < 4294967296 := d.lv.dl.at hy
      obtain ⟨u, hu⟩ : ∃ u, O[j + i]? = some u := ⟨_, List.getElem?_eq_getElem (by omega)⟩
      have hul : u < 4294967296 := hOd.at hu
      have hij := lt_l hu
      have huU : U[j + i]? = some u := by rw [← hout (j + i) (.inr (Nat.le_refl _))]; exact hu
      have ru := u3_rd dO.gu hu
      obtain ⟨m1, m2, m3⟩ := mul_lim hqB hyl hcy
      have m4 : (cy + q * y) % 4294967296 < 4294967296 := Nat.mod_lt _ (by decide)
      obtain ⟨D, kD, kD2, kD3⟩ := sub_key hul m4 hbor
      have hi2 : i < m + 2 + 1 := by omega
      have ul : leIs (j + i + 1) (u3 O) = true := by rw [← leIs_p, u3_len]; omega
      have us : spl (u3 O) (j + i) [.int .u32 ((D % 4294967296 : Nat) : Int)] = u3 (O.set (j + i) (D % 4294967296)) := spl_u3 hij
      have gO : (h.put bu ⟨u3 O, .own⟩).get bu = some ⟨u3 O, .own⟩ := gput
      have Dl64 : D < 18446744073709551616 := by omega
      simp +contextual (disch := omega) only [↓AM, ↓AV, AP, CQ, CN, i64, u64, gput, rput, put_put, hin, f1, ry, ru, u3_at hu, hi2, kD, shr_63, ul, us]
      refine ⟨m + 2 - (i + 1), by omega, O.set (j + i) (D % 4294967296), rfl, by simp [hOl], hOd.set (Nat.mod_lt _ (by decide)), i + 1, (cy + q * y) / 4294967296, D / 9223372036854775808, by omega, rfl, m3, kD2, ?_, ?_, rfl⟩
      · intro k hk
        rw [List.getElem?_set_ne (by omega)]
        exact hout k (by omega)
      · rw [wn_set hij, wn_at huU, take_u3 hy, Nat.pow_succ]
        have e5 : D % 4294967296 + (q * y) + bor + cy = u + 4294967296 * (D / 9223372036854775808 + (cy + q * y) / 4294967296) := by omega
        have e6 : B32 ^ i * (D % 4294967296) + B32 ^ i * (q * y) + B32 ^ i * (bor + cy) = B32 ^ i * u + B32 ^ i * B32 * (D / 9223372036854775808 + (cy + q * y) / 4294967296) := by
          rw [← Nat.mul_add, ← Nat.mul_add, Nat.mul_assoc, ← Nat.mul_add]; congr 1
          show D % 4294967296 + q * y + (bor + cy) = u + 4294967296 * (D / 9223372036854775808 + (cy + q * y) / 4294967296)
          omega
        have e7 : q * (vL B32 (V.take i) + B32 ^ i * y) = q * vL B32 (V.take i) + B32 ^ i * (q * y) := by rw [Nat.mul_add]; congr 1; ac_rfl
        rw [e7]
        omega
    have hie : i = m + 2 := by omega
    subst hie
    rw [List.take_of_length_le (l := V) (by omega)] at hv
    obtain ⟨m4, hO4⟩ : ∃ z, O[j + (m + 2)]? = some z := ⟨_, List.getElem?_eq_getElem (by omega)⟩
    have hm4 : m4 = un := by
      have := hout (j + (m + 2)) (.inr (Nat.le_refl _))
      rw [hO4, hun] at this
      exact Option.some.inj this
    subst hm4
    have hij := lt_l hO4
    have ru := u3_rd dO.gu hO4
    obtain ⟨D, kD, kD2, kD3⟩ := sub_key unh hcy hbor
    have ul : leIs (j + (m + 2) + 1) (u3 O) = true := by rw [← leIs_p, u3_len]; omega
    have us : spl (u3 O) (j + (m + 2)) [.int .u32 ((D % 4294967296 : Nat) : Int)] = u3 (O.set (j + (m + 2)) (D % 4294967296)) := spl_u3 hij
    have Dl64 : D < 18446744073709551616 := by omega
    have hw2 : wn (O.set (j + (m + 2)) (D % 4294967296)) j (m + 2 + 1) = wn O j (m + 2) + B32 ^ (m + 2) * (D % 4294967296) := wn_set hij
    have hwU : wn U j (m + 2 + 1) = wn U j (m + 2) + B32 ^ (m + 2) * m4 := wn_at hun
    have e8 : B32 ^ (m + 2) * (D % 4294967296) + B32 ^ (m + 2) * (bor + cy) = B32 ^ (m + 2) * m4 + B32 ^ (m + 2) * (4294967296 * (D / 9223372036854775808)) := by
      rw [← Nat.mul_add, ← Nat.mul_add]; congr 1; omega
    have hQV : Q * vL B32 V ≤ wn U j (m + 2 + 1) := by rw [← hQ]; exact kn.qV
    have hQV2 : wn U j (m + 2 + 1) % vL B32 V + Q * vL B32 V = wn U j (m + 2 + 1) := by rw [← hQ, Nat.mul_comm]; exact Nat.mod_add_div _ _
    have hQV3 : wn U j (m + 2 + 1) % vL B32 V < vL B32 V := Nat.mod_lt _ kn.v0
    have hOd2 : Dl B32 (O.set (j + (m + 2)) (D % 4294967296)) := hOd.set (Nat.mod_lt _ (by decide))
    have hPl : (O.set (j + (m + 2)) (D % 4294967296)).length = U.length := by simp [hOl]
    have hwl := wn_lt hOd2 j (m + 2 + 1)
    by_cases hz : D / 9223372036854775808 = 0
    · have ez : EqI ((D / 9223372036854775808 : Nat) : Int) 0 = True := by rw [hz]; exact eqI_self
      have kS : (m4 : Int) - (cy : Int) - (bor : Int) = (D : Int) := by rw [← kD, IntKind.wrap_u64, IntKind.wrap_u64]; omega
      simp +contextual (disch := omega) only [↓AM, ↓AV, AP, CQ, CN, i64, u64, gput, rput, put_put, hin, u3_at hO4, l1, kD, kS, shr_63, ul, us, ez]
      simp only [hz, Nat.mul_zero, Nat.add_zero] at e8
      have hle : q * vL B32 V ≤ wn U j (m + 2 + 1) := by omega
      have hqQ : q ≤ Q := by rw [← hQ]; exact (Nat.le_div_iff_mul_le kn.v0).2 hle
      have hqe : q = Q := by omega
      subst hqe
      refine ⟨by rw [Nat.mod_eq_of_lt hqB], _, rfl, hPl, hOd2, ?_, by omega⟩
      intro k hk
      rw [List.getElem?_set_ne (by omega)]
      exact hout k (by omega)
    have hz1 : D / 9223372036854775808 = 1 := by omega
    have ez : EqI ((D / 9223372036854775808 : Nat) : Int) 0 = False := eq_false (by unfold EqI; omega)
    simp +contextual (disch := omega) only [↓AM, ↓AV, AP, CQ, CN, i64, u64, gput, rput, put_put, hin, u3_at hO4, l1, kD, shr_63, ul, us, ez]
    rw [hz1, Nat.mul_one] at e8
    have epow : B32 ^ (m + 2) * 4294967296 = B32 ^ (m + 2 + 1) := (Nat.pow_succ ..).symm
    rw [epow] at e8
    have hgt : wn U j (m + 2 + 1) < q * vL B32 V := by omega
    have hqe : q = Q + 1 := by
      have : Q < q := by
        refine Nat.lt_of_not_le fun hh => ?_
        have := Nat.mul_le_mul_right (vL B32 V) hh
        omega
      omega
    subst hqe
    have dP := d.put (O' := O.set (j + (m + 2)) (D % 4294967296))
    have hP4 : (O.set (j + (m + 2)) (D % 4294967296))[j + (m + 2)]? = some (D % 4294967296) := List.getElem?_set_self hij
    have houtP : ∀ k, k < j ∨ j + (m + 2) < k → (O.set (j + (m + 2)) (D % 4294967296))[k]? = U[k]? := fun k hk => by
      rw [List.getElem?_set_ne (by omega)]
      exact hout k (by omega)
    have hwP : wn (O.set (j + (m + 2)) (D % 4294967296)) j (m + 2 + 1) = wn (O.set (j + (m + 2)) (D % 4294967296)) j (m + 2) + B32 ^ (m + 2) * (D % 4294967296) := wn_at hP4
    generalize O.set (j + (m + 2)) (D % 4294967296) = P at *
    refine WL.mk (fun k t h' => ∃ R : List Nat, h' = h.put bu ⟨u3 R, .own⟩ ∧ R.length = U.length ∧ Dl B32 R ∧ ∃ i ba : Nat, i ≤ m + 2 ∧ k = m + 2 - i ∧ ba ≤ 1 ∧ (∀ k, k < j ∨ j + i ≤ k → R[k]? = P[k]?) ∧ wn R j i + B32 ^ i * ba = wn P j i + vL B32 (V.take i) ∧
        t = [(0, some (.slice (some ⟨bu, j, none⟩) (m + 2 + 1) cu)), (5, some (.int .i64 ((m + 2 : Nat) : Int))), (7, some (.int .u64 ((Q + 1 : Nat) : Int))), (15, some (.int .u64 (ba : Int))), (138, some (.slice (some ⟨b1, o1, s1⟩) (m + 2) c)), (139, some (.int .i64 ((m + 2 : Nat) : Int))), (140, some (.int .i64 (i : Int)))])
      ⟨m + 2, P, rfl, hPl, hOd2, 0, 0, by omega, rfl, by decide, fun k _ => rfl, by simp [wn, vL], rfl⟩ ?_
    rintro k t _ ⟨R, rfl, hRl, hRd, i, ba, hi, rfl, hba, houtR, hvR, rfl⟩
    have dR := d.put (O' := R)
    by_cases hin : i < m + 2
    · obtain ⟨b3, o3, s3, y, e4, f3, hy, ry⟩ := dR.lv.rd.nat (i := i) hin
      cases e4
      have hyl : y < 4294967296 := d.lv.dl.at hy
      obtain ⟨u, hu⟩ : ∃ u, R[j + i]? = some u := ⟨_, List.getElem?_eq_getElem (by omega)⟩
      have hul : u < 4294967296 := hRd.at hu
      have hij := lt_l hu
      have huP : P[j + i]? = some u := by rw [← houtR (j + i) (.inr (Nat.le_refl _))]; exact hu
      have ru := u3_rd dR.gu hu
      have hi2 : i < m + 2 + 1 := by omega
      have ul : leIs (j + i + 1) (u3 R) = true := by rw [← leIs_p, u3_len]; omega
      have us : spl (u3 R) (j + i) [.int .u32 (((ba + (u + y)) % 4294967296 : Nat) : Int)] = u3 (R.set (j + i) ((ba + (u + y)) % 4294967296)) := spl_u3 hij
      simp +contextual (disch := omega) only [↓AM, ↓AV, AP, CQ, CN, i64, u64, gput, rput, put_put, hin, f1, ry, ru, u3_at hu, hi2, ul, us]
      refine ⟨m + 2 - (i + 1), by omega, R.set (j + i) ((ba + (u + y)) % 4294967296), rfl, by simp [hRl], hRd.set (Nat.mod_lt _ (by decide)), i + 1, (ba + (u + y)) / 4294967296, by omega, rfl, by omega, ?_, ?_, rfl⟩
      · intro k hk
        rw [List.getElem?_set_ne (by omega)]
        exact houtR k (by omega)
      · rw [wn_set hij, wn_at huP, take_u3 hy, Nat.pow_succ]
        have e6 : B32 ^ i * ((ba + (u + y)) % 4294967296) + B32 ^ i * B32 * ((ba + (u + y)) / 4294967296) = B32 ^ i * ba + (B32 ^ i * u + B32 ^ i * y) := by
          rw [← Nat.mul_add, ← Nat.mul_add, Nat.mul_assoc, ← Nat.mul_add]; congr 1; exact Nat.mod_add_div _ 4294967296
        omega
    have hie : i = m + 2 := by omega
    subst hie
    rw [List.take_of_length_le (l := V) (by omega)] at hvR
    have hR4 : R[j + (m + 2)]? = some (D % 4294967296) := by rw [houtR (j + (m + 2)) (.inr (Nat.le_refl _))]; exact hP4
    have hij := lt_l hR4
    have hRw := wn_lt hRd j (m + 2)
    have hVw : vL B32 V < B32 ^ (m + 2) := by have := vL_lt d.lv.dl; rw [hVl] at this; exact this
    obtain ⟨t1, t2⟩ := two_up (a := wn R j (m + 2)) (b := wn U j (m + 2 + 1) % vL B32 V) (X := B32 ^ (m + 2)) (s := D % 4294967296 + ba) (t := 4294967296) (by
      rw [Nat.mul_add, epow]
      have e9 : (Q + 1) * vL B32 V = Q * vL B32 V + vL B32 V := by rw [Nat.add_mul, Nat.one_mul]
      omega) hRw (by omega)
    have ul : leIs (j + (m + 2) + 1) (u3 R) = true := by rw [← leIs_p, u3_len]; omega
    have us : spl (u3 R) (j + (m + 2)) [.int .u32 0] = u3 (R.set (j + (m + 2)) 0) := spl_u3 hij
    have wz : IntKind.u32.wrap (((D % 4294967296 : Nat) : Int) + ((ba % 4294967296 : Nat) : Int)) = 0 := by
      rw [IntKind.wrap_u32]; omega
    have wz2 : IntKind.u32.wrap ((D % 4294967296 + ba % 4294967296 : Nat) : Int) = 0 := by
      rw [IntKind.wrap_u32]; omega
    have wz3 : (((D % 4294967296 + ba % 4294967296) % 4294967296 : Nat) : Int) = 0 := by omega
    simp +contextual (disch := omega) only [↓AM, ↓AV, AP, CQ, CN, i64, u64, gput, rput, put_put, hin, u3_at hR4, l1, ul, us, wz, wz2, wz3]
    refine ⟨by rw [Nat.mod_eq_of_lt (by omega)], _, rfl, by simp [hRl], hRd.set (by decide), ?_, ?_⟩
    · intro k hk
      rw [List.getElem?_set_ne (by omega), houtR k (by omega)]
      exact houtP k hk
    · rw [wn_set hij, Nat.mul_zero, Nat.add_zero]
      exact t2
end Go.Proofs.Ytikbdeobghoglaa.Nu

/- Limbs divided by limbs. Plain theorems over the abstract machine.
   Conditions: none. -/
namespace Go.Proofs.Ytikbdeobghoglaa.Nu
open Go Go.RowKit Go.Proofs.Ytikbdeobghoglaa.Am Go.Proofs.Ytikbdeobghoglaa.Af Go.Proofs.Ytikbdeobghoglaa.Md
set_option linter.unusedVariables false
set_option linter.unusedSimpArgs false
set_option linter.defProp false
set_option maxRecDepth 20000
set_option maxHeartbeats 2000000

theorem lm_get {h : Hp} {b n c : Nat} {O : List Nat} (hg : h.get b = some ⟨u3 O, .own⟩) (hd : Dl B32 O) (hn : n ≤ O.length) (hc : n ≤ c) : Lm h (some ⟨b, 0, none⟩) n c (O.take n) := by
  refine ⟨Rd.of rfl ?_, hc, hd.take n⟩
  rw [Nat.mul_one, rdN_mk hg (by show 0 + n ≤ (u3 O).length; rw [u3_len]; omega)]
  show some (((u3 O).drop 0).take n) = _
  rw [List.drop_zero, u3_take]
theorem vl_split (O : List Nat) (k : Nat) (hk : k ≤ O.length) : vL B32 O = vL B32 (O.take k) + B32 ^ k * vL B32 (O.drop k) := vL_take b32 hk
/-- What is small has nothing above. -/
theorem vl_small {O : List Nat} {n : Nat} (h : vL B32 O < B32 ^ n) : vL B32 (O.take n) = vL B32 O := by
  rcases Nat.lt_or_ge n O.length with hl | hl
  · have e := vl_split O n (by omega)
    have : vL B32 (O.drop n) = 0 := by
      refine Nat.eq_zero_of_not_pos fun hp => ?_
      have := Nat.mul_le_mul_left (B32 ^ n) (show 1 ≤ vL B32 (O.drop n) by omega)
      omega
    rw [this, Nat.mul_zero, Nat.add_zero] at e
    exact e.symm
  · rw [List.take_of_length_le hl]
theorem dg_len_lt {x n : Nat} (h : (dg x).length ≤ n) : x < B32 ^ n := by
  have h1 := vL_lt (dg_dl x)
  rw [dg_val] at h1
  exact Nat.lt_of_lt_of_le h1 (Nat.pow_le_pow_right (by decide) h)
/-- The highest limb. -/
theorem dg_top {y n : Nat} (hn : (dg y).length = n + 1) : ∃ t, (dg y)[n]? = some t ∧ 0 < t ∧ t < 4294967296 ∧ B32 ^ n * t ≤ y ∧ y < B32 ^ n * (t + 1) := by
  obtain ⟨t, ht⟩ : ∃ t, (dg y)[n]? = some t := ⟨_, List.getElem?_eq_getElem (by omega)⟩
  have hd := dg_dl y
  have e := take_u3 ht
  rw [List.take_of_length_le (by omega), dg_val] at e
  have hl := vL_lt (hd.take n)
  rw [List.length_take, Nat.min_eq_left (by omega)] at hl
  have hnz : (dg y).getLast? ≠ some 0 := dig_nz (hB := b32) y
  have htl := hd.at ht
  refine ⟨t, ht, Nat.pos_of_ne_zero fun h0 => hnz ?_, htl, by omega, ?_⟩
  · rw [List.getLast?_eq_getElem?, hn]
    show (dg y)[n]? = _
    rw [ht, h0]
  · rw [Nat.mul_add, Nat.mul_one]; omega
theorem pow_by {t b : Nat} (hb : b < 32) (h : t * 2 ^ b < 4294967296) : (t + 1) * 2 ^ b ≤ 4294967296 := by
  have e : (4294967296 : Nat) = 2 ^ (32 - b) * 2 ^ b := by rw [← Nat.pow_add, show 32 - b + b = 32 by omega]
  rw [e] at h ⊢
  have := Nat.lt_of_mul_lt_mul_right h
  exact Nat.mul_le_mul_right _ this
/-- The divisor, moved up: as many limbs, and the highest one great. -/
theorem moved {y n t b : Nat} {Ub : List Nat} (hn : (dg y).length = n + 1) (ht : (dg y)[n]? = some t) (hb : b < 32) (h1 : 2147483648 ≤ t * 2 ^ b) (h2 : t * 2 ^ b < 4294967296) (hl : Ub.length = n + 1 + 1) (hd : Dl B32 Ub) (hv : vL B32 Ub = y * 2 ^ b) :
    vL B32 (Ub.take (n + 1)) = y * 2 ^ b ∧ 2147483648 ≤ (Ub.take (n + 1)).getD n 0 ∧ y * 2 ^ b < B32 ^ (n + 1) ∧ B32 ^ n * 2 ^ b ≤ y * 2 ^ b := by
  obtain ⟨t', ht', t0, tl, tlo, thi⟩ := dg_top hn
  rw [ht] at ht'
  cases ht'
  have hp : 0 < 2 ^ b := Nat.pow_pos (by decide)
  have hlt : y * 2 ^ b < B32 ^ (n + 1) := by
    have e1 : y * 2 ^ b < B32 ^ n * (t + 1) * 2 ^ b := Nat.mul_lt_mul_of_pos_right thi hp
    rw [Nat.mul_assoc] at e1
    have e2 := Nat.mul_le_mul_left (B32 ^ n) (pow_by hb h2)
    rw [Nat.pow_succ]
    exact Nat.lt_of_lt_of_le e1 e2
  have hs : vL B32 (Ub.take (n + 1)) = y * 2 ^ b := by rw [vl_small (by rw [hv]; exact hlt), hv]
  refine ⟨hs, ?_, hlt, ?_⟩
  · obtain ⟨z, hz⟩ : ∃ z, Ub[n]? = some z := ⟨_, List.getElem?_eq_getElem (by omega)⟩
    have hz2 : (Ub.take (n + 1)).getD n 0 = z := by
      rw [List.getD_eq_getElem?_getD, List.getElem?_take, if_pos (by omega), hz]; rfl
    rw [hz2]
    have e := take_u3 hz
    have hl2 := vL_lt (hd.take n)
    rw [List.length_take, Nat.min_eq_left (by omega)] at hl2
    rw [hs] at e
    have e3 : B32 ^ n * t * 2 ^ b ≤ y * 2 ^ b := Nat.mul_le_mul_right _ tlo
    rw [Nat.mul_assoc] at e3
    have e4 : B32 ^ n * (t * 2 ^ b) < B32 ^ n * (z + 1) := by rw [Nat.mul_add, Nat.mul_one]; omega
    have := Nat.lt_of_mul_lt_mul_left e4
    omega
  · refine Nat.mul_le_mul_right _ (Nat.le_trans ?_ tlo)
    exact Nat.le_mul_of_pos_right _ t0
/-- The limbs of what is moved down again. -/
theorem down_step {x b i p q : Nat} {O : List Nat} (hx : vL B32 O = x) (hd : Dl B32 O) (hb : b < 32) (hp : O[i]? = some p) (hq : O[i + 1]? = some q) : (x / 2 ^ b) / B32 ^ i % 4294967296 = ((q * 4294967296 + p) / 2 ^ b) % 4294967296 := by
  have hi := lt_l hq
  have e1 := vl_split O i (by omega)
  have e2 : O.drop i = p :: q :: O.drop (i + 2) := by
    rw [List.drop_eq_getElem_cons (by omega), List.drop_eq_getElem_cons (by omega)]
    rw [List.getElem?_eq_getElem (by omega)] at hp hq
    rw [Option.some.inj hp, Option.some.inj hq]
  have hl := vL_lt (hd.take i)
  rw [List.length_take, Nat.min_eq_left (by omega)] at hl
  rw [e2, vL, vL] at e1
  have e3 : x / B32 ^ i = p + 4294967296 * (q + 4294967296 * vL B32 (O.drop (i + 2))) := by
    rw [← hx, e1, Nat.add_mul_div_left _ _ (Nat.pow_pos (by decide)), Nat.div_eq_of_lt hl, Nat.zero_add]
  rw [Nat.div_div_eq_div_mul, Nat.mul_comm (2 ^ b), ← Nat.div_div_eq_div_mul, e3]
  generalize vL B32 (O.drop (i + 2)) = T
  have e4 : p + 4294967296 * (q + 4294967296 * T) = (q * 4294967296 + p) + 2 ^ b * (4294967296 * (2 ^ (32 - b) * T)) := by
    have e5 : 2 ^ b * (4294967296 * (2 ^ (32 - b) * T)) = 4294967296 * 4294967296 * T := by
      have e6 : 2 ^ b * 2 ^ (32 - b) = 4294967296 := by rw [← Nat.pow_add, show b + (32 - b) = 32 by omega]
      calc 2 ^ b * (4294967296 * (2 ^ (32 - b) * T)) = 4294967296 * (2 ^ b * 2 ^ (32 - b)) * T := by ac_rfl
        _ = _ := by rw [e6]
    rw [e5]
    omega
  rw [e4, Nat.add_mul_div_left _ _ (Nat.pow_pos (by decide)), Nat.add_mul_mod_self_left]
theorem shr_by {x b : Nat} (hb : b < 32) : (x : Int).fdiv (2 ^ min b IntKind.u64.bits) = ((x / 2 ^ b : Nat) : Int) := by
  rw [show min b IntKind.u64.bits = b from Nat.min_eq_left (by show b ≤ 64; omega)]
  rw [Int.fdiv_eq_ediv_of_nonneg _ (Int.pow_nonneg (by omega))]
  rw [Int.natCast_ediv, Int.natCast_pow]; rfl
end Go.Proofs.Ytikbdeobghoglaa.Nu

/- Limbs divided by limbs, walked. Plain theorems over the abstract machine.
   Conditions: none. -/
namespace Go.Proofs.Ytikbdeobghoglaa.Nu
open Go Go.RowKit Go.Proofs.Ytikbdeobghoglaa.Am Go.Proofs.Ytikbdeobghoglaa.Af Go.Proofs.Ytikbdeobghoglaa.Md
set_option linter.unusedVariables false
set_option linter.unusedSimpArgs false
set_option linter.defProp false
set_option maxRecDepth 20000
set_option maxHeartbeats 2000000

theorem slA {k j c : Nat} (h : ¬ c = j) : slAddr k 0 none 1 j c true = ⟨k, j, none⟩ := by simp [slAddr, h]
theorem c_divG {h : Hp} {a b : Option Addr} {c d x y : Nat} (la : Lm h a (dg x).length c (dg x)) (lb : Lm h b (dg y).length d (dg y)) (hx : (dg x).length ≤ 100000) (hy : (dg y).length ≤ 100000) (hy0 : 0 < y) :
    ACalls Try.prog 109 [.slice a (dg x).length c, .slice b (dg y).length d] h fun r h' => ∃ u v, r = .tuple #[u, v] ∧ LmV h' u (x / y) ∧ LmV h' v (x % y) ∧ Fm No h h' := by
  by_cases hyB : y < 4294967296
  · exact c_div la lb (by omega) hy0 hyB
  refine num_divMag_ok.snd hm rfl fun w => ?_
  rw [WF_eq, num_divMag]
  have hyl2 : 2 ≤ (dg y).length := by
    rcases Nat.lt_or_ge (dg y).length 2 with h2 | h2
    · exfalso
      have := dg_len_lt (x := y) (n := 1) (by omega)
      rw [Nat.pow_one] at this
      exact hyB this
    · exact h2
  simp +contextual (disch := omega) only [↓AM, ↓AV, AP, CQ, i64]
  refine (c_cmp la lb (by omega) (by omega)).use ?_
  rintro _ h w1 ⟨⟨q, rfl, q1, q2, q3, q4⟩, rfl⟩
  by_cases hlt : x < y
  · have hq : q < 0 := q1.2 hlt
    simp +contextual (disch := omega) only [↓AM, ↓AV, AP, CQ, i64, hq]
    refine (c_clone la (by omega)).use ?_
    rintro _ h2 w2 ⟨l, fm⟩
    simp +contextual (disch := omega) only [↓AM, ↓AV, AP, CQ, i64]
    rw [Nat.div_eq_of_lt hlt, Nat.mod_eq_of_lt hlt]
    exact ⟨_, _, rfl, lmv0, l, fm⟩
  have hq : ¬ q < 0 := fun h => hlt (q1.1 h)
  have hll : (dg y).length ≤ (dg x).length := by
    rcases Nat.lt_or_ge (dg x).length (dg y).length with h2 | h2
    · have := len_lt b32 (dg_dl x) (dig_nz (hB := b32) y) h2
      rw [dg_val, show vL B32 (dig B32 b32 y) = y from dg_val y] at this
      omega
    · exact h2
  obtain ⟨n, hn⟩ : ∃ n, (dg y).length = n + 1 := ⟨(dg y).length - 1, by omega⟩
  obtain ⟨t, ht, t0, tl, -, -⟩ := dg_top hn
  obtain ⟨b2, o2, s2, t', rfl, f2, ht', rt⟩ := lb.rd.nat (i := n) (by omega)
  rw [ht] at ht'
  cases ht'
  have e1 : EqI (((n + 1 : Nat)) : Int) 1 = False := eq_false (by unfold EqI; omega)
  have nn1 : n < n + 1 := by omega
  have xlt := dg_len_lt (Nat.le_refl (dg x).length)
  rw [hn] at lb hll ⊢
  simp +contextual (disch := omega) only [↓AM, ↓AV, AP, CQ, i64, hq, e1, f2, rt, nn1]
  refine (c_Lz t0 tl).use ?_
  rintro _ h w2 ⟨rfl, by_, rfl, hby, hb1, hb2⟩
  simp +contextual (disch := omega) only [↓AM, ↓AV, AP, CQ, i64]
  generalize hX : (dg x).length = lx at *
  have xval : vL B32 (dg x) = x := dg_val x
  have yval : vL B32 (dg y) = y := dg_val y
  refine (c_shift la (by omega) hby).use ?_
  rintro _ h3 w3 ⟨k1, U0, rfl, hk1, g1, hU0l, hU0d, hU0v, f3⟩
  simp +contextual (disch := omega) only [↓AM, ↓AV, AP, CQ, i64]
  have lb3 : Lm h3 (some ⟨b2, o2, s2⟩) (n + 1) d (dg y) := ⟨lb.rd.keepW w2 f3 nNo, lb.le, lb.dl⟩
  refine (c_shift lb3 (by omega) hby).use ?_
  rintro _ h4 w4 ⟨k2, Ub, rfl, hk2, g2, hUbl, hUbd, hUbv, f4⟩
  have hk1' := w3.lt g1
  have g1 := f4.keep w3 g1 (fun f => f)
  have hk2' := w4.lt g2
  rw [xval] at hU0v
  rw [yval] at hUbv
  obtain ⟨m1, m2, m3, m4⟩ := moved hn ht hby hb1 hb2 hUbl hUbd hUbv
  have f34 := f3.trans f4 fun _ _ f => f
  have hVl : (Ub.take (n + 1)).length = n + 1 := by rw [List.length_take]; omega
  have sl1 : slAddr k2 0 none 1 0 (n + 1 + 1) true = ⟨k2, 0, none⟩ := slA (by omega)
  have hVd := hUbd.take (n + 1)
  generalize hV : Ub.take (n + 1) = V at *
  have lV : ∀ g : Hp, g.get k2 = some ⟨u3 Ub, .own⟩ → Lm g (some ⟨k2, 0, none⟩) (n + 1) (n + 1 + 1) V := fun g hg => by
    have := lm_get (n := n + 1) (c := n + 1 + 1) hg hUbd (by omega) (by omega)
    rw [hV] at this; exact this
  obtain ⟨mq, hmq⟩ : ∃ mq, lx = mq + (n + 1) := ⟨lx - (n + 1), by omega⟩
  have emq : (lx : Int) - ((n + 1 : Nat) : Int) = (mq : Int) := by omega
  obtain ⟨h5, e5⟩ : ∃ g, h4.new ⟨u3 (List.replicate (mq + 1) 0), .own⟩ = g := ⟨_, rfl⟩
  obtain ⟨kq, ekq⟩ : ∃ g, h4.size = g := ⟨_, rfl⟩
  have w5 : Wf h5 := e5 ▸ w4.new
  have f5 : Fm No h4 h5 := e5 ▸ Fm.new Fm.refl
  have gq : h5.get kq = some ⟨u3 (List.replicate (mq + 1) 0), .own⟩ := by rw [← e5, ← ekq]; exact gnew
  have f35 := f34.trans f5 fun _ _ f => f
  have bl : n + 1 ≤ n + 1 + 1 := by omega
  simp +contextual (disch := omega) only [↓AM, ↓AV, AP, CQ, i64, bnds, Option.isNone, flagOk_none, capOk, sl1, emq, rep_u3, e5, ekq]
  refine ⟨by omega, by omega, ?_⟩
  have V0 : 0 < y * 2 ^ by_ := Nat.mul_pos hy0 (Nat.pow_pos (by decide))
  have zl : ∀ k, vL B32 ((List.replicate (mq + 1) 0).drop k) = 0 := fun k => by rw [List.drop_replicate]; exact vL_zeros _ _
  have top0 : vL B32 (U0.drop (mq + 1)) < y * 2 ^ by_ := by
    have e := vl_split U0 (mq + 1) (by omega)
    rw [hU0v] at e
    have hp : 0 < 2 ^ by_ := Nat.pow_pos (by decide)
    have e2 : x * 2 ^ by_ < B32 ^ lx * 2 ^ by_ := Nat.mul_lt_mul_of_pos_right xlt hp
    rw [hmq, show mq + (n + 1) = (mq + 1) + n by omega, Nat.pow_add, Nat.mul_assoc] at e2
    have e3 : B32 ^ (mq + 1) * vL B32 (U0.drop (mq + 1)) < B32 ^ (mq + 1) * (B32 ^ n * 2 ^ by_) := by omega
    have := Nat.lt_of_mul_lt_mul_left e3
    omega
  refine WL.mk (fun k t h' => k ≤ mq + 1 ∧ ∃ O Q : List Nat, Wf h' ∧ Fm No h h' ∧ h'.get k1 = some ⟨u3 O, .own⟩ ∧ h'.get k2 = some ⟨u3 Ub, .own⟩ ∧ h'.get kq = some ⟨u3 Q, .own⟩ ∧ O.length = lx + 1 ∧ Q.length = mq + 1 ∧ Dl B32 O ∧ Dl B32 Q ∧ O.take k = U0.take k ∧ vL B32 (U0.drop k) = vL B32 (Q.drop k) * (y * 2 ^ by_) + vL B32 (O.drop k) ∧ vL B32 (O.drop k) < y * 2 ^ by_ ∧
      t = [(4, some (.slice (some ⟨kq, 0, none⟩) (mq + 1) (mq + 1))), (8, some (.int .i64 (by_ : Int))), (9, some (.slice (some ⟨k1, 0, none⟩) (lx + 1) (lx + 1))), (10, some (.slice (some ⟨k2, 0, none⟩) (n + 1) (n + 1 + 1))), (11, some (.int .i64 ((n + 1 : Nat) : Int))), (12, some (.int .i64 ((k : Int) - 1)))])
    ⟨mq + 1, Nat.le_refl _, U0, _, w5, f35, f5.keep w4 g1 (fun f => f), f5.keep w4 g2 (fun f => f), gq, hU0l, by simp, hU0d, Dl.zeros _, rfl, by rw [zl]; simp, top0, by rw [show (((mq + 1 : Nat)) : Int) - 1 = (mq : Int) by omega]⟩ ?_
  rintro k t h' ⟨hk, O, Q, w', f', p1, p2, p3, hOl, hQl, hOd, hQd, htk, hv, hr, rfl⟩
  cases k with
  | zero =>
    have e2 : ((0 : Int) ≤ ((0 : Nat) : Int) - 1) = False := by simp
    have hv : x * 2 ^ by_ = vL B32 Q * (y * 2 ^ by_) + vL B32 O := by rw [← hU0v]; exact hv
    have hr : vL B32 O < y * 2 ^ by_ := hr
    have hp : 0 < 2 ^ by_ := Nat.pow_pos (by decide)
    have vq : vL B32 Q = x / y := by
      have : x * 2 ^ by_ / (y * 2 ^ by_) = vL B32 Q := by rw [hv, Nat.mul_comm (vL B32 Q), Nat.mul_add_div V0, Nat.div_eq_of_lt hr]; rfl
      rw [← this, Nat.mul_div_mul_right _ _ hp]
    have vo : vL B32 O = x % y * 2 ^ by_ := by
      have : x * 2 ^ by_ % (y * 2 ^ by_) = vL B32 O := by rw [hv, Nat.mul_comm (vL B32 Q), Nat.mul_add_mod, Nat.mod_eq_of_lt hr]
      rw [← this, Nat.mul_mod_mul_right]
    have vo2 : vL B32 O / 2 ^ by_ = x % y := by rw [vo]; exact Nat.mul_div_cancel _ hp
    have xyb : x % y < B32 ^ (n + 1) := by
      have h1 : x % y < y := Nat.mod_lt _ hy0
      have h2 : y ≤ y * 2 ^ by_ := Nat.le_mul_of_pos_right _ hp
      omega
    obtain ⟨h6, e6⟩ : ∃ g, h'.new ⟨u3 (List.replicate (n + 1) 0), .own⟩ = g := ⟨_, rfl⟩
    obtain ⟨kr, ekr⟩ : ∃ g, h'.size = g := ⟨_, rfl⟩
    have w6 : Wf h6 := e6 ▸ w'.new
    have f6 : Fm No h' h6 := e6 ▸ Fm.new Fm.refl
    have gr : h6.get kr = some ⟨u3 (List.replicate (n + 1) 0), .own⟩ := by rw [← e6, ← ekr]; exact gnew
    have k1r := w'.lt p1
    have kqr := w'.lt p3
    have hks := f'.size
    simp +contextual (disch := omega) only [↓AM, ↓AV, AP, CQ, i64, e2, rep_u3, e6, ekr]
    refine ⟨by omega, ?_⟩
    refine WL.mk (fun k t g => ∃ R : List Nat, Wf g ∧ Fm (fun z => z = kr) h6 g ∧ g.get kr = some ⟨u3 R, .own⟩ ∧ R.length = n + 1 ∧ Dl B32 R ∧ ∃ i : Nat, i ≤ n + 1 ∧ k = n + 1 - i ∧ vL B32 R = (vL B32 O / 2 ^ by_) % B32 ^ i ∧ (∀ j, i ≤ j → j < R.length → R[j]? = some 0) ∧
        t = [(4, some (.slice (some ⟨kq, 0, none⟩) (mq + 1) (mq + 1))), (5, some (.slice (some ⟨kr, 0, none⟩) (n + 1) (n + 1))), (8, some (.int .i64 (by_ : Int))), (9, some (.slice (some ⟨k1, 0, none⟩) (lx + 1) (lx + 1))), (107, some (.int .i64 ((n + 1 : Nat) : Int))), (108, some (.int .i64 (i : Int)))])
      ⟨n + 1, _, w6, Fm.refl, gr, by simp, Dl.zeros _, 0, by omega, rfl, by rw [vL_zeros, Nat.pow_zero, Nat.mod_one], fun j h1 h2 => by rw [List.getElem?_replicate, if_pos (by simpa using h2)], rfl⟩ ?_
    rintro k t g ⟨R, wg, fg, gg, hRl, hRd, i, hi, rfl, hvR, hzR, rfl⟩
    have gO : g.get k1 = some ⟨u3 O, .own⟩ := fg.keep w6 (f6.keep w' p1 (fun f => f)) (by omega)
    have gQ : g.get kq = some ⟨u3 Q, .own⟩ := fg.keep w6 (f6.keep w' p3 (fun f => f)) (by omega)
    have fall : Fm No h g := (f'.trans f6 fun _ _ f => f).trans fg fun z hz e => by omega
    by_cases hin : i < n + 1
    · obtain ⟨p, hp1⟩ : ∃ p, O[i]? = some p := ⟨_, List.getElem?_eq_getElem (by omega)⟩
      obtain ⟨q, hq1⟩ : ∃ q, O[i + 1]? = some q := ⟨_, List.getElem?_eq_getElem (by omega)⟩
      have pl : p < 4294967296 := hOd.at hp1
      have ql : q < 4294967296 := hOd.at hq1
      have rp := u3_rd gO hp1
      have rq := u3_rd gO hq1
      have eor := or_32 ql pl
      have es := shr_by (x := q * 4294967296 + p) hby
      have hq64 : (q * 4294967296 + p) / 2 ^ by_ ≤ q * 4294967296 + p := Nat.div_le_self _ _
      have hij : i < R.length := by omega
      have l1 : i + 1 < lx + 1 := by omega
      have l2 : i < lx + 1 := by omega
      have ul : leIs (i + 1) (u3 R) = true := by rw [← leIs_p, u3_len]; omega
      have us : spl (u3 R) i [.int .u32 (((q * 4294967296 + p) / 2 ^ by_ % 4294967296 : Nat) : Int)] = u3 (R.set i ((q * 4294967296 + p) / 2 ^ by_ % 4294967296)) := spl_u3 hij
      simp +contextual (disch := omega) only [↓AM, ↓AV, AP, CQ, CN, i64, u64, hin, rp, rq, l1, l2, eor, es, gg, ul, us]
      have fp : Fm (fun z => z = kr) g (g.put kr ⟨u3 (R.set i ((q * 4294967296 + p) / 2 ^ by_ % 4294967296)), .own⟩) := Fm.put Fm.refl fun _ => rfl
      refine ⟨n + 1 - (i + 1), by omega, R.set i ((q * 4294967296 + p) / 2 ^ by_ % 4294967296), wg.put (wg.lt gg), fg.trans fp fun _ _ e => e, by first | rfl | exact gput, by simp [hRl], hRd.set (Nat.mod_lt _ (by decide)), i + 1, by omega, rfl, ?_, ?_, rfl⟩
      · have h0 := vL_set (B := B32) (d := (q * 4294967296 + p) / 2 ^ by_ % 4294967296) (hzR i (Nat.le_refl _) hij)
        rw [Nat.mul_zero, Nat.add_zero] at h0
        rw [h0, hvR, Nat.pow_succ, Nat.mod_mul, down_step rfl hOd hby hp1 hq1]
      · intro j h1 h2
        rw [List.getElem?_set_ne (by omega)]
        exact hzR j (by omega) (by simpa using h2)
    · have hie : i = n + 1 := by omega
      subst hie
      rw [vo2, Nat.mod_eq_of_lt xyb] at hvR
      simp +contextual (disch := omega) only [↓AM, ↓AV, AP, CQ, CN, i64, hin]
      have lQ := lm_get (n := mq + 1) (c := mq + 1) gQ hQd (by omega) (Nat.le_refl _)
      rw [List.take_of_length_le (by omega)] at lQ
      refine (c_trim lQ (by omega)).use ?_
      rintro u g1 w7 ⟨lu, rfl⟩
      rw [vq] at lu
      simp +contextual (disch := omega) only [↓AM, ↓AV, AP, CQ, CN, i64]
      have lR := lm_get (n := n + 1) (c := n + 1) gg hRd (by omega) (Nat.le_refl _)
      rw [List.take_of_length_le (by omega)] at lR
      refine (c_trim lR (by omega)).use ?_
      rintro v g2 w8 ⟨lv, rfl⟩
      rw [hvR] at lv
      obtain ⟨ua, uc, rfl, lu⟩ := lu
      obtain ⟨va, vc, rfl, lv⟩ := lv
      simp +contextual (disch := omega) only [↓AM, ↓AV, AP, CQ, CN, i64]
      exact ⟨_, _, rfl, ⟨_, _, rfl, lu⟩, ⟨_, _, rfl, lv⟩, fall⟩
  | succ k =>
    have hks := f'.size
    obtain ⟨ok, hok⟩ : ∃ z, O[k]? = some z := ⟨_, List.getElem?_eq_getElem (by omega)⟩
    have huk : U0[k]? = some ok := by
      have := congrArg (·[k]?) htk
      simp only [List.getElem?_take, show k < k + 1 by omega, if_true] at this
      rw [← this]; exact hok
    have okl : ok < 4294967296 := hOd.at hok
    have dO : vL B32 (O.drop k) = ok + B32 * vL B32 (O.drop (k + 1)) := by
      rw [List.drop_eq_getElem_cons (by omega)]
      rw [List.getElem?_eq_getElem (by omega)] at hok
      rw [Option.some.inj hok, vL]
    have dU : vL B32 (U0.drop k) = ok + B32 * vL B32 (U0.drop (k + 1)) := by
      rw [List.drop_eq_getElem_cons (by omega)]
      rw [List.getElem?_eq_getElem (by omega)] at huk
      rw [Option.some.inj huk, vL]
    have hlt2 : vL B32 (O.drop k) < y * 2 ^ by_ * 4294967296 := by
      have : B32 * (vL B32 (O.drop (k + 1)) + 1) ≤ B32 * (y * 2 ^ by_) := Nat.mul_le_mul_left _ hr
      rw [Nat.mul_add, Nat.mul_one] at this
      rw [dO, Nat.mul_comm _ 4294967296]
      have e : B32 * (y * 2 ^ by_) = 4294967296 * (y * 2 ^ by_) := rfl
      have eB : B32 = 4294967296 := rfl
      omega
    have hws : wn O k (n + 1 + 1) = vL B32 (O.drop k) := by
      unfold wn
      refine vl_small (Nat.lt_of_lt_of_le hlt2 ?_)
      rw [Nat.pow_succ]
      exact Nat.mul_le_mul_right _ (Nat.le_of_lt m3)
    have dv : Dv h' k1 O (some ⟨k2, 0, none⟩) (n + 1) (n + 1 + 1) V := ⟨w', p1, lV h' p2, fun z hz => by rw [At.some] at hz; have hz : k2 = z := hz; omega⟩
    have sl2 : slAddr k1 0 none 1 k (lx + 1) true = ⟨k1, 0 + k * 1, none⟩ := by rw [Nat.zero_add, Nat.mul_one]; exact slA (by omega)
    have ek : ((k : Int) + ((n + 1 : Nat) : Int) + 1) = ((k + (n + 1) + 1 : Nat) : Int) := by omega
    have el : k + (n + 1) + 1 - k = n + 1 + 1 := by omega
    simp +contextual (disch := omega) only [↓AM, ↓AV, AP, CQ, i64, bnds, Option.isNone, flagOk_none, capOk, sl2, ek]
    have hVv : vL B32 V = y * 2 ^ by_ := m1
    have dg := c_digitL (cu := lx + 1 - k) (j := k) dv (by omega) (by omega) (by omega) (by omega) hOd m2 (by rw [hws, hVv]; exact hlt2) (by omega)
    rw [el]
    refine ⟨⟨by omega, by omega⟩, ?_⟩
    refine dg.use ?_
    rintro _ _ w7 ⟨rfl, O2, rfl, hO2l, hO2d, hO2o, hO2w⟩
    rw [hws, hVv] at hO2w ⊢
    obtain ⟨hA, eA⟩ : ∃ g, h'.put k1 ⟨u3 O2, .own⟩ = g := ⟨_, rfl⟩
    rw [eA] at w7
    have fA : Fm (fun z => z = k1) h' hA := eA ▸ Fm.put Fm.refl fun _ => rfl
    have a1 : hA.get k1 = some ⟨u3 O2, .own⟩ := eA ▸ gput
    have k1q : k1 ≠ kq := by have := f'.size; omega
    have a2 := fA.keep w' p2 (show ¬ k2 = k1 by omega)
    have a3 := fA.keep w' p3 (fun e => k1q e.symm)
    have hkq : k < Q.length := by omega
    have qb : vL B32 (O.drop k) / (y * 2 ^ by_) < 4294967296 := (Nat.div_lt_iff_lt_mul V0).2 (by rw [Nat.mul_comm]; exact hlt2)
    generalize hqd : vL B32 (O.drop k) / (y * 2 ^ by_) = qd at *
    have ul : leIs (k + 1) (u3 Q) = true := by rw [← leIs_p, u3_len]; omega
    have us : spl (u3 Q) k [.int .u32 (qd : Int)] = u3 (Q.set k qd) := spl_u3 hkq
    have lk : k < mq + 1 := by omega
    simp +contextual (disch := omega) only [↓AM, ↓AV, AP, CQ, i64, eA, a3, ul, us, lk]
    have fp : Fm (fun z => z = kq) hA (hA.put kq ⟨u3 (Q.set k qd), .own⟩) := Fm.put Fm.refl fun _ => rfl
    have dO2 : vL B32 (O2.drop k) = vL B32 (O.drop k) % (y * 2 ^ by_) := by
      have e := vl_split (O2.drop k) (n + 1 + 1) (by rw [List.length_drop]; omega)
      have e2 : (O2.drop k).drop (n + 1 + 1) = (O.drop k).drop (n + 1 + 1) := by
        rw [List.drop_drop, List.drop_drop]
        refine List.ext_getElem? fun z => ?_
        rw [List.getElem?_drop, List.getElem?_drop]
        exact hO2o _ (.inr (by omega))
      have e3 := vl_split (O.drop k) (n + 1 + 1) (by rw [List.length_drop]; omega)
      have hws' : vL B32 ((O.drop k).take (n + 1 + 1)) = vL B32 (O.drop k) := hws
      have hO2w' : vL B32 ((O2.drop k).take (n + 1 + 1)) = vL B32 (O.drop k) % (y * 2 ^ by_) := hO2w
      rw [e, hO2w', e2]
      omega
    refine ⟨k, by omega, by omega, O2, Q.set k qd, w7.put (w7.lt a3), ?_, (get_put k1q).trans a1, (get_put (by omega)).trans a2, by first | rfl | exact gput, by omega, by simp [hQl], hO2d, hQd.set qb, ?_, ?_, ?_, rfl⟩
    · exact (f'.trans fA fun z hz e => by omega).trans fp fun z hz e => by omega
    · have : O.take k = U0.take k := by
        have := congrArg (List.take k) htk
        rw [List.take_take, List.take_take, Nat.min_eq_left (by omega)] at this
        exact this
      rw [← this]
      refine List.ext_getElem? fun z => ?_
      rw [List.getElem?_take, List.getElem?_take]
      split
      · exact hO2o z (.inl (by omega))
      · rfl
    · have e4 : (Q.set k qd).drop k = qd :: Q.drop (k + 1) := by
        rw [List.drop_eq_getElem_cons (by simp; omega), List.getElem_set_self, List.drop_set_of_lt (by omega)]
      rw [e4, vL, dO2, dU, hv]
      have e5 := Nat.div_add_mod (vL B32 (O.drop k)) (y * 2 ^ by_)
      rw [hqd, dO] at e5
      rw [dO, Nat.add_mul, Nat.mul_add, Nat.mul_assoc, Nat.mul_comm qd]
      omega
    · rw [dO2]; exact Nat.mod_lt _ V0
end Go.Proofs.Ytikbdeobghoglaa.Nu

/- Whole numbers divided, fractions made of any numbers. Plain theorems over the abstract machine.
   Conditions: none. -/
namespace Go.Proofs.Ytikbdeobghoglaa.Nu
open Go Go.RowKit Go.Proofs.Ytikbdeobghoglaa.Am Go.Proofs.Ytikbdeobghoglaa.Af Go.Proofs.Ytikbdeobghoglaa.Md
set_option linter.unusedVariables false
set_option linter.unusedSimpArgs false
set_option linter.defProp false
set_option maxRecDepth 20000
set_option maxHeartbeats 2000000

theorem dg_mono {x y : Nat} (h : x ≤ y) : (dg x).length ≤ (dg y).length := by
  refine dg_len ?_
  have := vL_lt (dg_dl y)
  rw [dg_val] at this
  omega
theorem IntAt.same {h h' : Hp} {b o : Nat} {x : Int} (n : IntAt h b o x) (w : Wf h) (wr : Wr (fun y => y = b) h h') (e0 : h'.rd b o = h.rd b o) (e1 : h'.rd b (o + 1) = h.rd b (o + 1)) : IntAt h' b o x := by
  have sf := n.x.sf
  obtain ⟨cs, oa, c, h1, h2, h3, h4, h5⟩ := n
  obtain ⟨cs', g1, g2, g3⟩ := wr.ln b cs rfl h1
  rw [rd_mk g1, rd_mk h1] at e0 e1
  exact ⟨cs', oa, c, g1, g3 h2, e0.trans h3, e1.trans h4, h5.wr w wr sf⟩
/-- A fraction at a place, above with its sign. -/
def RatI (h : Hp) (b : Nat) (p : Int) (q : Nat) : Prop := IntAt h b 0 p ∧ NatAt h b 2 q
theorem RatI.keep {h h' : Hp} {b q : Nat} {p : Int} (r : RatI h b p q) (w : Wf h) (fm : Fm No h h') : RatI h' b p q := ⟨r.1.keep w fm, r.2.keep w fm⟩
theorem z_div {z : Int} {g : Nat} (h : g ∣ z.natAbs) : (if decide (z < 0) then -((z.natAbs / g : Nat) : Int) else ((z.natAbs / g : Nat) : Int)) = z / (g : Int) := by
  obtain ⟨k, hk⟩ := h
  rcases Nat.eq_zero_or_pos g with rfl | hg
  · have : z = 0 := by simp at hk; omega
    subst this; simp
  · have e1 : z.natAbs / g = k := by rw [hk]; exact Nat.mul_div_cancel_left k hg
    rw [e1]
    have hgz : (g : Int) ≠ 0 := by omega
    by_cases hz : z < 0
    · have ez : z = (g : Int) * (-(k : Int)) := by
        have : (z.natAbs : Int) = (g : Int) * (k : Int) := by rw [hk]; exact Int.natCast_mul _ _
        rw [Int.mul_neg]; omega
      rw [if_pos (by simpa using hz), ez, Int.mul_ediv_cancel_left _ hgz]
    · have ez : z = (g : Int) * (k : Int) := by
        have : (z.natAbs : Int) = (g : Int) * (k : Int) := by rw [hk]; exact Int.natCast_mul _ _
        omega
      rw [if_neg (by simpa using hz), ez, Int.mul_ediv_cancel_left _ hgz]
theorem c_SetFracG {h : Hp} {bx ba oa bb ob q : Nat} {z : Int} (xa : XAt h bx 2) (na : IntAt h ba oa z) (nb : NatAt h bb ob q) (hpl : (dg z.natAbs).length ≤ 50000) (hq0 : 0 < q) (hql : (dg q).length ≤ 50000) :
    ACalls Try.prog 76 [.pointer (some ⟨bx, 0, none⟩), .pointer (some ⟨ba, oa, none⟩), .pointer (some ⟨bb, ob, none⟩)] h fun r h' => r = .pointer (some ⟨bx, 0, none⟩) ∧ Wr (fun y => y = bx) h h' ∧ RatI h' bx (z / ((Nat.gcd z.natAbs q : Nat) : Int)) (q / Nat.gcd z.natAbs q) := by
  refine num_Rat__SetFrac_ok.snd hm rfl fun w => ?_
  rw [WF_eq, num_Rat__SetFrac]
  obtain ⟨ca, a, c, ga, sa, a0, a1, la⟩ := na
  obtain ⟨cb, b, d, gb, sb, b0, b1, lb⟩ := nb
  have r0 := (rd_mk ga (i := oa)).trans a0
  have r1 := (rd_mk ga (i := oa + 1)).trans a1
  have q0 := (rd_mk gb (i := ob)).trans b0
  have q1 := (rd_mk gb (i := ob + 1)).trans b1
  have hdiv := z_div (z := z) (g := Nat.gcd z.natAbs q) (Nat.gcd_dvd_left _ _)
  generalize hzp : z.natAbs = p at *
  have hg0 : 0 < Nat.gcd p q := Nat.gcd_pos_of_pos_right _ hq0
  have hg : (dg (Nat.gcd p q)).length ≤ 50000 := Nat.le_trans (dg_mono (Nat.gcd_le_right _ hq0)) hql
  have bne : (decide (z < 0) != false) = decide (z < 0) := by cases decide (z < 0) <;> rfl
  simp +contextual (disch := omega) only [↓AM, ↓AV, AP, CQ, r0, r1, q0, q1, bne]
  refine (c_clone la (by omega)).use ?_
  rintro _ h1 w1 ⟨l, fm⟩
  have r1 := (rd_mk (fm.keep w ga (fun f => f)) (i := oa + 1)).trans a1
  have q1 := (rd_mk (fm.keep w gb (fun f => f)) (i := ob + 1)).trans b1
  simp +contextual (disch := omega) only [↓AM, ↓AV, AP, CQ, r1, q1]
  refine WL.mk (fun k t h' => Wf h' ∧ Fm No h h' ∧ ∃ x u v, (dg k).length ≤ 50000 ∧ (dg x).length ≤ 50000 ∧ Nat.gcd x k = Nat.gcd p q ∧ LmV h' u x ∧ LmV h' v k ∧
      t = [(0, some (.pointer (some ⟨bx, 0, none⟩))), (1, some (.pointer (some ⟨ba, oa, none⟩))), (2, some (.pointer (some ⟨bb, ob, none⟩))), (7, some u), (8, some v)])
    ⟨q, w1, fm, p, _, _, hql, hpl, rfl, l, ⟨b, d, rfl, lb.rd.keepW w fm nNo, lb.le, lb.dl⟩, rfl⟩ ?_
  rintro k t h2 ⟨w2, fm2, x, u, v, hk, hx, hgc, ⟨au, cu, rfl, lu⟩, ⟨av, cv, rfl, lv⟩, rfl⟩
  rcases Nat.eq_zero_or_pos k with rfl | hk0
  · have e0 : ((0 : Int) < ((dg 0).length : Int)) = False := by rw [dg_0]; simp
    simp +contextual (disch := omega) only [↓AM, ↓AV, AP, CQ, e0]
    rw [Nat.gcd_zero_right] at hgc
    have r1 := (rd_mk (fm2.keep w ga (fun f => f)) (i := oa + 1)).trans a1
    have la2 := la.rd.keepW w fm2 nNo
    have lb2 := lb.rd.keepW w fm2 nNo
    simp +contextual (disch := omega) only [↓AM, ↓AV, AP, CQ, r1]
    rw [hgc] at lu ⊢
    refine (c_divG ⟨la2, la.le, la.dl⟩ lu (by omega) (by omega) hg0).use ?_
    rintro _ h3 w3 ⟨up, _, rfl, lup, -, fm3⟩
    have fm3h := fm2.trans fm3 fun _ _ f => f
    have q1 := (rd_mk (fm3h.keep w gb (fun f => f)) (i := ob + 1)).trans b1
    simp +contextual (disch := omega) only [↓AM, ↓AV, AP, CQ, q1]
    refine (c_divG ⟨lb2.keepW w2 fm3 nNo, lb.le, lb.dl⟩ ⟨lu.rd.keepW w2 fm3 nNo, lu.le, lu.dl⟩ (by omega) (by omega) hg0).use ?_
    rintro _ h4 w4 ⟨dn, _, rfl, ldn, -, fm4⟩
    have fm4h := fm3h.trans fm4 fun _ _ f => f
    have r0 := (rd_mk (fm4h.keep w ga (fun f => f)) (i := oa)).trans a0
    have q0 := (rd_mk (fm4h.keep w gb (fun f => f)) (i := ob)).trans b0
    simp +contextual (disch := omega) only [↓AM, ↓AV, AP, CQ, r0, q0, bne]
    have xa4 := xa.keep w fm4h
    refine (c_setS (decide (z < 0)) (xa4.le (o' := 0) (by omega)) (lup.keep w3 fm4)).use ?_
    rintro _ h5 w5 ⟨rfl, wr5, n5, -⟩
    simp +contextual (disch := omega) only [↓AM, ↓AV, AP, CQ]
    have xa5 := xa4.wr w4 wr5
    refine (c_set xa5 (ldn.wr w4 wr5 xa4.sf)).use ?_
    rintro _ h6 w6 ⟨rfl, wr6, n6, sm⟩
    simp +contextual (disch := omega) only [↓AM, ↓AV, AP, CQ]
    refine ⟨((Wr.of (F := fun y => y = bx) w fm4h).trans w w4 wr5 fun _ _ f => f).trans w w5 wr6 fun _ _ f => f, by rw [← hdiv]; exact n5.same w5 wr6 (sm 0 (by omega) (by omega)) (sm 1 (by omega) (by omega)), n6⟩
  · have e0 : ((0 : Int) < ((dg k).length : Int)) = True := eq_true (by have := dg_pos.2 hk0; omega)
    simp +contextual (disch := omega) only [↓AM, ↓AV, AP, CQ, e0]
    refine (c_divG lu lv (by omega) (by omega) hk0).use ?_
    rintro _ h3 w3 ⟨qu, rm, rfl, -, lrm, fm3⟩
    simp +contextual (disch := omega) only [↓AM, ↓AV, AP, CQ]
    refine ⟨x % k, Nat.mod_lt _ hk0, w3, fm2.trans fm3 fun _ _ f => f, k, _, _, Nat.le_trans (dg_mono (Nat.le_of_lt (Nat.mod_lt _ hk0))) hk, hk, ?_, ⟨av, cv, rfl, lv.rd.keepW w2 fm3 nNo, lv.le, lv.dl⟩, lrm, rfl⟩
    rw [← hgc, Nat.gcd_comm x k, Nat.gcd_rec k x, Nat.gcd_comm]
theorem tdiv_sgn (a b : Int) : (if (decide (a < 0) != decide (b < 0)) then -((a.natAbs / b.natAbs : Nat) : Int) else ((a.natAbs / b.natAbs : Nat) : Int)) = a.tdiv b ∧ (if decide (a < 0) then -((a.natAbs % b.natAbs : Nat) : Int) else ((a.natAbs % b.natAbs : Nat) : Int)) = a.tmod b := by
  have key : ∀ n m : Nat, (n : Int).tdiv (m : Int) = ((n / m : Nat) : Int) ∧ (n : Int).tmod (m : Int) = ((n % m : Nat) : Int) := fun n m => ⟨rfl, rfl⟩
  have ab : ∀ k : Nat, ((k : Nat) : Int).natAbs = k := fun k => by omega
  have pos : ∀ k : Nat, ¬ ((k : Int) < 0) := fun k => by omega
  by_cases ha : a < 0 <;> by_cases hb : b < 0
  · obtain ⟨n, rfl⟩ : ∃ n : Nat, a = -(n : Int) := ⟨a.natAbs, by omega⟩
    obtain ⟨m, rfl⟩ : ∃ m : Nat, b = -(m : Int) := ⟨b.natAbs, by omega⟩
    rw [decide_eq_true ha, decide_eq_true hb, Int.natAbs_neg, Int.natAbs_neg, ab, ab, Int.neg_tdiv, Int.tdiv_neg, Int.neg_neg, Int.neg_tmod, Int.tmod_neg, (key n m).1, (key n m).2]
    exact ⟨rfl, rfl⟩
  · obtain ⟨n, rfl⟩ : ∃ n : Nat, a = -(n : Int) := ⟨a.natAbs, by omega⟩
    obtain ⟨m, rfl⟩ : ∃ m : Nat, b = (m : Int) := ⟨b.natAbs, by omega⟩
    rw [decide_eq_true ha, decide_eq_false hb, Int.natAbs_neg, ab, ab, Int.neg_tdiv, Int.neg_tmod, (key n m).1, (key n m).2]
    exact ⟨rfl, rfl⟩
  · obtain ⟨n, rfl⟩ : ∃ n : Nat, a = (n : Int) := ⟨a.natAbs, by omega⟩
    obtain ⟨m, rfl⟩ : ∃ m : Nat, b = -(m : Int) := ⟨b.natAbs, by omega⟩
    rw [decide_eq_false ha, decide_eq_true hb, Int.natAbs_neg, ab, ab, Int.tdiv_neg, Int.tmod_neg, (key n m).1, (key n m).2]
    exact ⟨rfl, rfl⟩
  · obtain ⟨n, rfl⟩ : ∃ n : Nat, a = (n : Int) := ⟨a.natAbs, by omega⟩
    obtain ⟨m, rfl⟩ : ∃ m : Nat, b = (m : Int) := ⟨b.natAbs, by omega⟩
    rw [decide_eq_false ha, decide_eq_false hb, ab, ab, (key n m).1, (key n m).2]
    exact ⟨rfl, rfl⟩
theorem c_QuoRemG {h : Hp} {bx ox ba oa bb ob br or' : Nat} {x y : Int} (xa : XAt h bx ox) (ra : XAt h br or') (hne : bx ≠ br) (na : IntAt h ba oa x) (nb : IntAt h bb ob y) (hx : (dg x.natAbs).length ≤ 100000) (hy0 : y ≠ 0) (hy : (dg y.natAbs).length ≤ 100000) :
    ACalls Try.prog 69 [.pointer (some ⟨bx, ox, none⟩), .pointer (some ⟨ba, oa, none⟩), .pointer (some ⟨bb, ob, none⟩), .pointer (some ⟨br, or', none⟩)] h fun r h' =>
      r = .tuple #[.pointer (some ⟨bx, ox, none⟩), .pointer (some ⟨br, or', none⟩)] ∧ Wr (fun y => y = bx ∨ y = br) h h' ∧ IntAt h' bx ox (x.tdiv y) ∧ IntAt h' br or' (x.tmod y) := by
  refine num_Int__QuoRem_ok.snd hm rfl fun w => ?_
  rw [WF_eq, num_Int__QuoRem]
  obtain ⟨ca, a, c, ga, sa, a0, a1, la⟩ := na
  obtain ⟨cb, b, d, gb, sb, b0, b1, lb⟩ := nb
  have r0 := (rd_mk ga (i := oa)).trans a0
  have r1 := (rd_mk ga (i := oa + 1)).trans a1
  have q0 := (rd_mk gb (i := ob)).trans b0
  have q1 := (rd_mk gb (i := ob + 1)).trans b1
  obtain ⟨t1, t2⟩ := tdiv_sgn x y
  simp +contextual (disch := omega) only [↓AM, ↓AV, AP, CQ, r0, r1, q0, q1]
  refine (c_divG la lb hx hy (by omega)).use ?_
  rintro _ h1 w1 ⟨u, v, rfl, lu, lv, fm⟩
  have r1 := (rd_mk (fm.keep w ga (fun f => f)) (i := oa + 1)).trans a1
  have q1 := (rd_mk (fm.keep w gb (fun f => f)) (i := ob + 1)).trans b1
  simp +contextual (disch := omega) only [↓AM, ↓AV, AP, CQ, r1, q1]
  have ra1 := ra.keep w fm
  have xa1 := xa.keep w fm
  refine (c_setS (decide (x < 0)) ra1 lv).use ?_
  rintro _ h2 w2 ⟨rfl, wr, n, -⟩
  rw [t2] at n
  simp +contextual (disch := omega) only [↓AM, ↓AV, AP, CQ]
  have xa2 := xa1.wr w1 wr
  refine (c_setS (decide (x < 0) != decide (y < 0)) xa2 (lu.wr w1 wr ra1.sf)).use ?_
  rintro _ h3 w3 ⟨rfl, wr3, n3, -⟩
  rw [t1] at n3
  simp +contextual (disch := omega) only [↓AM, ↓AV, AP, CQ]
  refine ⟨((Wr.of (F := fun y => y = bx ∨ y = br) w fm).trans w w1 wr fun _ _ f => .inr f).trans w w2 wr3 fun _ _ f => .inl f, n3, n.wr w2 wr3 xa2.sf (fun e => hne e.symm)⟩
theorem c_SignG {h : Hp} {b o : Nat} {z : Int} (n : IntAt h b o z) :
    ACalls Try.prog 70 [.pointer (some ⟨b, o, none⟩)] h fun r h' => r = .int .i64 (sgnZ z) ∧ h' = h := by
  refine num_Int__Sign_ok.snd hm rfl fun w => ?_
  rw [WF_eq, num_Int__Sign]
  have r0 := n.r0
  obtain ⟨a, c, r1, la⟩ := n.r1
  by_cases hz : z = 0
  · have e0 : EqI ((dg z.natAbs).length : Int) 0 = True := eq_true (by rw [hz]; show EqI ((dg 0).length : Int) 0; rw [dg_0]; rfl)
    simp +contextual (disch := omega) only [↓AM, ↓AV, AP, CQ, r1, e0]
    rw [hz]; rfl
  · have e0 : EqI ((dg z.natAbs).length : Int) 0 = False := eq_false (by have := dg_pos.2 (show 0 < z.natAbs by omega); unfold EqI; omega)
    by_cases hn : z < 0
    · have e1 : decide (z < 0) = true := decide_eq_true hn
      rw [e1] at r0
      simp +contextual (disch := omega) only [↓AM, ↓AV, AP, CQ, r1, r0, e0]
      unfold sgnZ
      rw [if_pos hn]
    · have e1 : decide (z < 0) = false := decide_eq_false hn
      rw [e1] at r0
      simp +contextual (disch := omega) only [↓AM, ↓AV, AP, CQ, r1, r0, e0]
      unfold sgnZ
      rw [if_neg hn, if_neg hz]
theorem c_lowS {h : Hp} {b o x : Nat} {z : Int} (n : IntAt h b o z) (hzx : z.natAbs = x) (hx : x < 18446744073709551616) :
    ACalls Try.prog 115 [.pointer (some ⟨b, o, none⟩)] h fun r h' => r = .int .u64 (x : Int) ∧ h' = h := by
  refine num_Int__low_ok.snd hm rfl fun w => ?_
  rw [WF_eq, num_Int__low]
  obtain ⟨a, c, r1, la⟩ := n.r1
  rw [hzx] at r1 la
  have hlen : (dg x).length ≤ 2 := by
    rcases Nat.lt_or_ge 2 (dg x).length with h | h
    · exfalso
      have h1 := vL_ge b32 (dig_nz (hB := b32) x) (by intro e; rw [show dg x = [] from e] at h; simp at h)
      rw [show vL B32 (dig B32 b32 x) = x from dg_val x] at h1
      have h2 : B32 ^ 2 ≤ B32 ^ ((dig B32 b32 x).length - 1) := Nat.pow_le_pow_right (by decide) (by show 2 ≤ (dg x).length - 1; omega)
      have : B32 ^ 2 = 18446744073709551616 := by decide
      omega
    · exact h
  have emn : intMin [.int .i64 2, .int .i64 ((dg x).length : Int)] = some (.int .i64 ((dg x).length : Int)) := by
    have : (dg x).length = 0 ∨ (dg x).length = 1 ∨ (dg x).length = 2 := by omega
    rcases this with e | e | e <;> rw [e] <;> rfl
  simp +contextual (disch := omega) only [↓AM, ↓AV, AP, CQ, i64, r1, emn]
  refine WL.mk (fun k t h' => h' = h ∧ k ≤ (dg x).length ∧ t = [(0, some (.pointer (some ⟨b, o, none⟩))), (3, some (.int .u64 ((vL B32 ((dg x).drop k) : Nat) : Int))), (4, some (.int .i64 ((k : Int) - 1)))]) ⟨(dg x).length, rfl, Nat.le_refl _, by rw [List.drop_eq_nil_of_le (Nat.le_refl _)]; rfl⟩ ?_
  rintro k t hh ⟨rfl, hk, rfl⟩
  cases k with
  | zero =>
    have e2 : ((0 : Int) ≤ ((0 : Nat) : Int) - 1) = False := by simp
    simp +contextual (disch := omega) only [↓AM, ↓AV, AP, CQ, i64, e2, List.drop_zero]
    rw [dg_val]
  | succ k =>
    have hk1 : k < (dg x).length := by omega
    obtain ⟨b1, o1, s1, p, rfl, f1, hp, r2⟩ := la.rd.nat hk1
    have hpl : p < 4294967296 := la.dl.at hp
    have hvl : vL B32 ((dg x).drop (k + 1)) < 4294967296 := by
      have h1 := vL_lt (B := B32) (l := (dg x).drop (k + 1)) fun d hd => dg_dl x d (List.mem_of_mem_drop hd)
      rw [List.length_drop] at h1
      have h2 : B32 ^ ((dg x).length - (k + 1)) ≤ B32 ^ 1 := Nat.pow_le_pow_right (by decide) (by omega)
      have : B32 ^ 1 = 4294967296 := by decide
      omega
    have ed : vL B32 ((dg x).drop k) = vL B32 ((dg x).drop (k + 1)) * 4294967296 + p := by
      rw [List.drop_eq_getElem_cons hk1]
      rw [List.getElem?_eq_getElem hk1] at hp
      rw [Option.some.inj hp, vL]
      show p + 4294967296 * _ = _
      omega
    generalize vL B32 ((dg x).drop (k + 1)) = v at *
    have eor := or_32 hvl hpl
    simp +contextual (disch := omega) only [↓AM, ↓AV, AP, CQ, CN, i64, u64, f1, r1, r2, hk1, eor]
    exact ⟨k, by omega, by omega, by rw [ed]⟩
theorem c_Int64G {h : Hp} {b o : Nat} {z : Int} (n : IntAt h b o z) (hz : -9223372036854775807 ≤ z ∧ z ≤ 9223372036854775807) :
    ACalls Try.prog 79 [.pointer (some ⟨b, o, none⟩)] h fun r h' => r = .int .i64 z ∧ h' = h := by
  refine num_Int__Int64_ok.snd hm rfl fun w => ?_
  rw [WF_eq, num_Int__Int64]
  have r0 := n.r0
  by_cases hn : z < 0
  · have e1 : decide (z < 0) = true := decide_eq_true hn
    rw [e1] at r0
    simp +contextual (disch := omega) only [↓AM, ↓AV, AP, CQ, r0]
    refine (c_lowS n rfl (by omega)).use ?_
    rintro _ _ w2 ⟨rfl, rfl⟩
    have e2 : 0 - (z.natAbs : Int) = z := by omega
    simp +contextual (disch := omega) only [↓AM, ↓AV, AP, CQ, i64, e2]
  · have e1 : decide (z < 0) = false := decide_eq_false hn
    rw [e1] at r0
    simp +contextual (disch := omega) only [↓AM, ↓AV, AP, CQ, r0]
    refine (c_lowS n rfl (by omega)).use ?_
    rintro _ _ w2 ⟨rfl, rfl⟩
    have e2 : (z.natAbs : Int) = z := by omega
    simp +contextual (disch := omega) only [↓AM, ↓AV, AP, CQ, i64, e2]
theorem c_IsInt64 {h : Hp} {b o : Nat} {z : Int} (n : IntAt h b o z) (hl : (dg z.natAbs).length ≤ 100000) :
    ACalls Try.prog 78 [.pointer (some ⟨b, o, none⟩)] h fun r h' => r = .bool (decide (-9223372036854775808 ≤ z ∧ z ≤ 9223372036854775807)) ∧ h' = h := by
  refine num_Int__IsInt64_ok.snd hm rfl fun w => ?_
  rw [WF_eq, num_Int__IsInt64]
  have r0 := n.r0
  obtain ⟨a, c, r1, la⟩ := n.r1
  by_cases hl2 : (2 : Int) < ((dg z.natAbs).length : Int)
  · have hbig : 18446744073709551616 ≤ z.natAbs := by
      refine Nat.le_of_not_lt fun hh => ?_
      have := dg_len (x := z.natAbs) (k := 2) (Nat.lt_of_lt_of_le hh (by decide))
      omega
    simp +contextual (disch := omega) only [↓AM, ↓AV, AP, CQ, r1, hl2]
    rw [decide_eq_false (by omega)]
  · have hsm : z.natAbs < 18446744073709551616 := by
      have := dg_len_lt (x := z.natAbs) (n := 2) (by omega)
      exact Nat.lt_of_lt_of_le this (by decide)
    simp +contextual (disch := omega) only [↓AM, ↓AV, AP, CQ, r1, hl2]
    refine (c_lowS n rfl hsm).use ?_
    rintro _ _ w2 ⟨rfl, rfl⟩
    by_cases h1 : (z.natAbs : Int) < 9223372036854775808
    · simp +contextual (disch := omega) only [↓AM, ↓AV, AP, CQ, h1]
      rw [decide_eq_true (by omega)]
    · by_cases hn : z < 0
      · have e1 : decide (z < 0) = true := decide_eq_true hn
        rw [e1] at r0
        simp +contextual (disch := omega) only [↓AM, ↓AV, AP, CQ, h1, r0]
        exact congrArg Value.bool (decide_eq_decide.2 (by unfold EqI; omega))
      · have e1 : decide (z < 0) = false := decide_eq_false hn
        rw [e1] at r0
        simp +contextual (disch := omega) only [↓AM, ↓AV, AP, CQ, h1, r0]
        rw [decide_eq_false (by omega)]
end Go.Proofs.Ytikbdeobghoglaa.Nu
