/- The document's window, and with which segment a client goes on. Plain theorems over the abstract machine.
   Conditions: none. -/
import Derived.Test.YtikbdeobghoglaaBun4
import Derived.Test.YtikbdeobghoglaaAmZb
import Derived.DataShut
namespace Go.Proofs.Ytikbdeobghoglaa.St
open Go Go.RowKit Go.Proofs.Ytikbdeobghoglaa.Am Go.Proofs.Ytikbdeobghoglaa.Af Go.Proofs.Ytikbdeobghoglaa.Md Go.Proofs.Ytikbdeobghoglaa.Nu
set_option linter.unusedVariables false
set_option linter.unusedSimpArgs false
set_option linter.defProp false
set_option maxRecDepth 20000
set_option maxHeartbeats 1000000

theorem low_cross {n1 n2 : Int} {m1 m2 : Nat} (h1 : 0 < m1) (h2 : 0 < m2) : cmpZ (lowN n1 m1 * lowD n2 m2) (lowN n2 m2 * lowD n1 m1) = cmpZ (n1 * m2) (n2 * m1) := by
  have key : ∀ (n : Int) (m : Nat), 0 < m → ∃ g : Nat, 0 < g ∧ n = lowN n m * g ∧ (m : Int) = lowD n m * g := by
    intro n m hm
    refine ⟨Nat.gcd n.natAbs m, Nat.gcd_pos_of_pos_right _ hm, ?_, ?_⟩
    · unfold lowN
      refine (Int.ediv_mul_cancel ?_).symm
      exact Int.ofNat_dvd_left.2 (Nat.gcd_dvd_left _ _)
    · unfold lowD
      rw [← Int.natCast_mul, Nat.div_mul_cancel (Nat.gcd_dvd_right _ _)]
  obtain ⟨g, hg, e1, e2⟩ := key n1 m1 h1
  obtain ⟨k, hk, e3, e4⟩ := key n2 m2 h2
  generalize lowN n1 m1 = a at *
  generalize lowD n1 m1 = b at *
  generalize lowN n2 m2 = c at *
  generalize lowD n2 m2 = d at *
  have l : n1 * m2 = (a * d) * ((g * k : Nat) : Int) := by rw [e4, e1, Int.natCast_mul]; ac_rfl
  have r : n2 * m1 = (c * b) * ((g * k : Nat) : Int) := by rw [e2, e3, Int.natCast_mul]; ac_rfl
  have hp : (0 : Int) < ((g * k : Nat) : Int) := by have := Nat.mul_pos hg hk; omega
  rw [l, r]
  generalize ((g * k : Nat) : Int) = p at *
  generalize a * d = u
  generalize c * b = v
  unfold cmpZ
  by_cases h : u < v
  · rw [if_pos h, if_pos (Int.mul_lt_mul_of_pos_right h hp)]
  · rw [if_neg h, if_neg (fun q => h (Int.lt_of_mul_lt_mul_right q (Int.le_of_lt hp)))]
    by_cases he : u = v
    · rw [if_pos he, if_pos (by rw [he])]
    · rw [if_neg he, if_neg (fun q => he (Int.eq_of_mul_eq_mul_right (by omega) q))]
theorem low_len {n : Int} {m : Nat} (hn : n.natAbs ≤ 9223372036854775807) (hm : m ≤ 9223372036854775807) : (de (lowN n m).natAbs).length ≤ 3 ∧ (de (lowD n m)).length ≤ 3 := by
  constructor
  · refine de3 ?_
    have h1 : (lowN n m).natAbs ≤ n.natAbs := by
      unfold lowN
      exact Int.natAbs_ediv_le_natAbs n _
    omega
  · refine de3 ?_
    have := Nat.div_le_self m (Nat.gcd n.natAbs m)
    unfold lowD
    omega
/-- The fraction of a time. -/
theorem c_OfT {h : Hp} {x : Tim} (hx : VT x) : ACalls Try.prog 21 [.agg #[.int .i64 x.1, .int .i64 x.2]] h fun v h' => Fv h' v (lowN x.1 x.2.toNat) (lowD x.1 x.2.toNat) ∧ Fm No h h' := by
  obtain ⟨h1, h2, h3, h4⟩ := hx
  have e : x.2 = ((x.2.toNat : Nat) : Int) := by omega
  have := c_OfTime (h := h) (n := x.1) (m := x.2.toNat) (by omega) (by omega) (by omega)
  rwa [← e] at this
theorem c_CmpFT {h : Hp} {u v : Value} {x y : Tim} (hx : VT x) (hy : VT y) (lu : Fv h u (lowN x.1 x.2.toNat) (lowD x.1 x.2.toNat)) (lv : Fv h v (lowN y.1 y.2.toNat) (lowD y.1 y.2.toNat)) :
    ACalls Try.prog 20 [u, v] h fun r h' => r = .int .i64 (cmpZ (x.1 * y.2) (y.1 * x.2)) ∧ Fm No h h' := by
  obtain ⟨h1, h2, h3, h4⟩ := hx
  obtain ⟨k1, k2, k3, k4⟩ := hy
  obtain ⟨l1, l2⟩ := low_len (n := x.1) (m := x.2.toNat) (by omega) (by omega)
  obtain ⟨l3, l4⟩ := low_len (n := y.1) (m := y.2.toNat) (by omega) (by omega)
  refine (c_CmpF lu lv (by omega) (by omega) (by omega) (by omega)).mono ?_
  rintro r h' ⟨rfl, fm⟩
  refine ⟨?_, fm⟩
  have := low_cross (n1 := x.1) (n2 := y.1) (m1 := x.2.toNat) (m2 := y.2.toNat) (by omega) (by omega)
  have e1 : ((x.2.toNat : Nat) : Int) = x.2 := by omega
  have e2 : ((y.2.toNat : Nat) : Int) = y.2 := by omega
  rw [e1, e2] at this
  rw [← this]
  rfl
theorem c_rspan {h : Hp} {x : Sg} : ACalls Try.prog 59 [.agg #[.int .i64 x.2.1.1, .int .i64 x.2.1.2, .int .i64 x.2.2.1.1, .int .i64 x.2.2.1.2]] h fun v h' => v = .bool (decide (SO x)) ∧ Fm No h h' := by
  refine dioramaref27_span_ok.snd Af.hm rfl fun w => ?_
  rw [WF_eq, dioramaref27_span]
  obtain ⟨m, ⟨f1, f2⟩, ⟨t1, t2⟩, dd, br⟩ := x
  simp only at *
  obtain ⟨h0, e0⟩ : ∃ g, h.new ⟨[.int .i64 f1, .int .i64 f2, .int .i64 t1, .int .i64 t2], .own⟩ = g := ⟨_, rfl⟩
  have w0 : Wf h0 := e0 ▸ w.new
  have fm0 : Fm No h h0 := e0 ▸ Fm.new Fm.refl
  have g0 : h0.get h.size = some ⟨[.int .i64 f1, .int .i64 f2, .int .i64 t1, .int .i64 t2], .own⟩ := e0 ▸ gnew
  have rds : ∀ g : Hp, Fm No h0 g → g.rdN h.size 0 2 = some [.int .i64 f1, .int .i64 f2] ∧ g.rdN h.size 2 2 = some [.int .i64 t1, .int .i64 t2] := fun g fg => ⟨rdN_mk (fg.keep w0 g0 (fun f => f)) (by simp), rdN_mk (fg.keep w0 g0 (fun f => f)) (by simp)⟩
  obtain ⟨n0, n2⟩ := rds h0 Fm.refl
  simp +contextual (disch := omega) only [↓AM, ↓AV, AP, CQ, e0, n0, n2]
  refine (c_VTime (x := (f1, f2))).use ?_
  rintro _ h1 w1 ⟨rfl, fm1⟩
  have fh1 := fm0.trans fm1 fun _ _ f => f
  obtain ⟨n3, n4⟩ := rds h1 fm1
  by_cases hv1 : VT (f1, f2)
  case neg =>
    simp +contextual (disch := omega) only [↓AM, ↓AV, AP, CQ, e0, hv1, n3, n4]
    exact ⟨by rw [decide_eq_false (fun q : SO (m, (f1, f2), (t1, t2), dd, br) => hv1 q.1.1)], fh1⟩
  simp +contextual (disch := omega) only [↓AM, ↓AV, AP, CQ, e0, hv1, n3, n4]
  refine (c_VTime (x := (t1, t2))).use ?_
  rintro _ h2 w2 ⟨rfl, fm2⟩
  have fh2 := fh1.trans fm2 fun _ _ f => f
  have f02 := fm1.trans fm2 fun _ _ f => f
  obtain ⟨n5, n6⟩ := rds h2 f02
  by_cases hv2 : VT (t1, t2)
  case neg =>
    simp +contextual (disch := omega) only [↓AM, ↓AV, AP, CQ, e0, hv2, n5, n6]
    exact ⟨by rw [decide_eq_false (fun q : SO (m, (f1, f2), (t1, t2), dd, br) => hv2 q.1.2)], fh2⟩
  simp +contextual (disch := omega) only [↓AM, ↓AV, AP, CQ, e0, hv2, n5, n6]
  refine (c_OfT (x := (f1, f2)) hv1).use ?_
  rintro u h3 w3 ⟨l3, fm3⟩
  have f03 := f02.trans fm3 fun _ _ f => f
  obtain ⟨n7, n8⟩ := rds h3 f03
  simp +contextual (disch := omega) only [↓AM, ↓AV, AP, CQ, e0, n7, n8]
  refine ⟨⟨_, rfl, rfl⟩, ?_⟩
  refine (c_OfT (x := (t1, t2)) hv2).use ?_
  rintro v h4 w4 ⟨l4, fm4⟩
  simp +contextual (disch := omega) only [↓AM, ↓AV, AP, CQ, e0]
  refine (c_CmpFT (x := (f1, f2)) (y := (t1, t2)) hv1 hv2 (l3.kp (Kp.fm w3 fm4)) l4).use ?_
  rintro _ h5 w5 ⟨rfl, fm5⟩
  simp +contextual (disch := omega) only [↓AM, ↓AV, AP, CQ, e0, cmpZ_le]
  refine ⟨congrArg Value.bool (decide_eq_decide.2 ?_), ((fh2.trans fm3 fun _ _ f => f).trans fm4 fun _ _ f => f).trans fm5 fun _ _ f => f⟩
  unfold SO leT
  simp only [hv1, hv2, true_and]
theorem c_rlive {h : Hp} {oa : Option Addr} {c : Nat} {s : List Sg} {t : Tim} {keep : Int} (ha : Rd h 7 oa s.length (s.flatMap segC)) (hn : s.length ≤ 1000000) :
    ACalls Try.prog 30 [.slice oa s.length c, .agg #[.int .i64 t.1, .int .i64 t.2], .int .i64 keep] h fun v h' => v = .int .i64 (er s t keep) ∧ Fm No h h' := by
  refine dioramaref27_live_ok.snd Af.hm rfl fun w => ?_
  rw [WF_eq, dioramaref27_live]
  obtain ⟨t1, t2⟩ := t
  simp only at *
  obtain ⟨h0, e0⟩ : ∃ g, h.new ⟨[.int .i64 t1, .int .i64 t2], .own⟩ = g := ⟨_, rfl⟩
  have f0 : Fm No h h0 := e0 ▸ Fm.new Fm.refl
  have g0 : h0.get h.size = some ⟨[.int .i64 t1, .int .i64 t2], .own⟩ := e0 ▸ gnew
  have n0 : h0.rdN h.size 0 2 = some [.int .i64 t1, .int .i64 t2] := rdN_mk g0 (by simp)
  simp +contextual (disch := omega) only [↓AM, ↓AV, AP, CQ, e0, n0]
  refine (c_VTime (x := (t1, t2))).use ?_
  rintro _ h1 w1 ⟨rfl, f1⟩
  have f01 := f0.trans f1 fun _ _ f => f
  by_cases hv : VT (t1, t2)
  case neg =>
    have he : er s (t1, t2) keep = 4 := by unfold er; rw [if_neg (fun q => hv q.1)]
    simp +contextual (disch := omega) only [↓AM, ↓AV, AP, CQ, e0, hv]
    rw [he]
    exact ⟨rfl, f01⟩
  simp +contextual (disch := omega) only [↓AM, ↓AV, AP, CQ, e0, hv]
  refine WL.mk (fun k u h' => ∃ i : Nat, Wf h' ∧ Fm No h h' ∧ i ≤ s.length ∧ k = s.length - i ∧ (∀ x ∈ s.take i, SO x) ∧ u = [(0, some (.slice oa s.length c)), (2, some (.int .i64 keep)), (7, some (.int .i64 (i : Int)))]) ⟨s.length, 0, w1, f01, by omega, rfl, by simp, rfl⟩ ?_
  rintro k u h2 ⟨i, w2, f2, hi, rfl, hall, rfl⟩
  by_cases hin : i < s.length
  · obtain ⟨b1, o1, s1, x, rfl, p1, hx, r1, r2⟩ := (ha.keepW w f2 nNo).elem segC_len rfl hin
    have r4 : h2.rdN b1 (o1 + i * 7 + 1) 4 = some [.int .i64 x.2.1.1, .int .i64 x.2.1.2, .int .i64 x.2.2.1.1, .int .i64 x.2.2.1.2] := rdN_sub (k := 1) (l := 4) r1 (by omega)
    simp +contextual (disch := omega) only [↓AM, ↓AV, AP, CQ, e0, hin, p1, r4]
    refine (c_rspan (x := x)).use ?_
    rintro _ h3 w3 ⟨rfl, f3⟩
    have f23 := f2.trans f3 fun _ _ f => f
    by_cases hs : SO x
    · simp +contextual (disch := omega) only [↓AM, ↓AV, AP, CQ, e0, hs, i64]
      refine ⟨_, ?_, i + 1, w3, f23, by omega, rfl, ?_, rfl⟩
      · omega
      · rw [List.take_add_one, hx]
        intro y hy
        rcases List.mem_append.1 hy with hy | hy
        · exact hall y hy
        · have : y = x := by simpa using hy
          rw [this]; exact hs
    · have he : er s (t1, t2) keep = 4 := by unfold er; rw [if_neg (fun q => hs (q.2 x (List.mem_of_getElem? hx)))]
      simp +contextual (disch := omega) only [↓AM, ↓AV, AP, CQ, e0, hs]
      rw [he]
      exact ⟨rfl, f23⟩
  · rw [List.take_of_length_le (by omega)] at hall
    simp +contextual (disch := omega) only [↓AM, ↓AV, AP, CQ, e0, hin]
    refine c_in.use ?_
    rintro _ h3 w3 ⟨rfl, rfl⟩
    by_cases hk : 1 ≤ keep ∧ keep ≤ 60
    · have he : er s (t1, t2) keep = 0 := by unfold er; rw [if_pos ⟨hv, hall⟩, if_pos hk]
      simp +contextual (disch := omega) only [↓AM, ↓AV, AP, CQ, e0, hk]
      rw [he]
      exact ⟨rfl, f2⟩
    · have he : er s (t1, t2) keep = 1 := by unfold er; rw [if_pos ⟨hv, hall⟩, if_neg hk]
      simp +contextual (disch := omega) only [↓AM, ↓AV, AP, CQ, e0, hk]
      rw [he]
      exact ⟨rfl, f2⟩
end Go.Proofs.Ytikbdeobghoglaa.St

/- The document's window, and with which segment a client goes on. Plain theorems over the abstract machine.
   Conditions: none. -/
namespace Go.Proofs.Ytikbdeobghoglaa.St
open Go Go.RowKit Go.Proofs.Ytikbdeobghoglaa.Am Go.Proofs.Ytikbdeobghoglaa.Af Go.Proofs.Ytikbdeobghoglaa.Md Go.Proofs.Ytikbdeobghoglaa.Nu
set_option linter.unusedVariables false
set_option linter.unusedSimpArgs false
set_option linter.defProp false
set_option maxRecDepth 20000
set_option maxHeartbeats 1000000

theorem c_rthere {h : Hp} {oa : Option Addr} {c : Nat} {s : List Sg} {t : Tim} {keep : Int} (ha : Rd h 7 oa s.length (s.flatMap segC)) (hn : s.length ≤ 1000000) (hv : VT t) (hall : ∀ x ∈ s, SO x) (hk : 1 ≤ keep ∧ keep ≤ 60) :
    ACalls Try.prog 31 [.slice oa s.length c, .agg #[.int .i64 t.1, .int .i64 t.2], .int .i64 keep] h fun v h' => Fm No h h' ∧ ∃ a' c', v = .slice a' (win s t keep).length c' ∧ Rd h' 7 a' (win s t keep).length ((win s t keep).flatMap segC) := by
  refine dioramaref27_there_ok.snd Af.hm rfl fun w => ?_
  rw [WF_eq, dioramaref27_there]
  obtain ⟨t1, t2⟩ := t
  simp only at *
  obtain ⟨h2, e0⟩ : ∃ g, h.new ⟨[.int .i64 t1, .int .i64 t2], .own⟩ = g := ⟨_, rfl⟩
  have w2 : Wf h2 := e0 ▸ w.new
  have f02 : Fm No h h2 := e0 ▸ Fm.new Fm.refl
  have g0 : h2.get h.size = some ⟨[.int .i64 t1, .int .i64 t2], .own⟩ := e0 ▸ gnew
  have rds : ∀ g : Hp, Fm No h2 g → g.rdN h.size 0 2 = some [.int .i64 t1, .int .i64 t2] := fun g fg => rdN_mk (fg.keep w2 g0 (fun f => f)) (by simp)
  simp +contextual (disch := omega) only [↓AM, ↓AV, AP, CQ, e0]
  refine WL.mk (fun k u h' => ∃ (i : Nat) (o : Option Addr) (cap : Nat), Wf h' ∧ Fm No h2 h' ∧ i ≤ s.length ∧ k = s.length - i ∧ Nw h2 o ∧ Ow h' 7 o (thr (s.take i) (t1, t2)).length cap ((thr (s.take i) (t1, t2)).flatMap segC) ∧
      u = [(0, some (.slice oa s.length c)), (2, some (.int .i64 keep)), (4, some (.pointer (some ⟨h.size, 0, none⟩))), (7, some (.slice o (thr (s.take i) (t1, t2)).length cap)), (8, some (.int .i64 (i : Int)))])
    ⟨s.length, 0, none, 0, w2, Fm.refl, by omega, rfl, Nw.none, by simp [thr]; exact Ow.mk0, by simp [thr]⟩ ?_
  rintro k u h3 ⟨i, o, cap, w3, f3, hi, rfl, nw, ow, rfl⟩
  have f03 := f02.trans f3 fun _ _ f => f
  have hthl : (thr (s.take i) (t1, t2)).length ≤ 1000000 := by
    have h1 : (thr (s.take i) (t1, t2)).length ≤ (s.take i).length := List.length_filter_le _ _
    have h2 : (s.take i).length ≤ s.length := by rw [List.length_take]; omega
    omega
  by_cases hin : i < s.length
  · obtain ⟨b1, o1, s1, x, rfl, g1, hx, r1, -⟩ := (ha.keepW w f03 nNo).elem segC_len rfl hin
    have hsx := hall x (List.mem_of_getElem? hx)
    have hts : s.take (i + 1) = s.take i ++ [x] := by rw [List.take_add_one, hx]; rfl
    have r4 : h3.rdN b1 (o1 + i * 7 + 3) 2 = some [.int .i64 x.2.2.1.1, .int .i64 x.2.2.1.2] := rdN_sub (k := 3) (l := 2) r1 (by omega)
    have a3 : o1 + i * 7 + 1 + 2 = o1 + i * 7 + 3 := by omega
    have nT := rds h3 f3
    simp +contextual (disch := omega) only [↓AM, ↓AV, AP, CQ, e0, hin, g1, a3, r4, nT]
    refine (c_OfT (x := x.2.2.1) hsx.1.2).use ?_
    rintro u1 h4 w4 ⟨l4, f4⟩
    have nT4 := rds h4 (f3.trans f4 fun _ _ f => f)
    have r14 := (rdN_keep (f4.get _ (rdN_wf w3 r1) (fun f => f)) (off := o1 + i * 7) (m := 7)).trans r1
    have r44 := (rdN_keep (f4.get _ (rdN_wf w3 r1) (fun f => f)) (off := o1 + i * 7 + 3) (m := 2)).trans r4
    simp +contextual (disch := omega) only [↓AM, ↓AV, AP, CQ, e0, nT4, r44]
    refine ⟨⟨_, rfl, rfl⟩, ?_⟩
    refine (c_OfT (x := (t1, t2)) hv).use ?_
    rintro u2 h5 w5 ⟨l5, f5⟩
    simp +contextual (disch := omega) only [↓AM, ↓AV, AP, CQ, e0]
    refine (c_CmpFT (x := x.2.2.1) (y := (t1, t2)) hsx.1.2 hv (l4.kp (Kp.fm w4 f5)) l5).use ?_
    rintro _ h6 w6 ⟨rfl, f6⟩
    have f36 := (f4.trans f5 fun _ _ f => f).trans f6 fun _ _ f => f
    have r16 := (rdN_keep (f36.get _ (rdN_wf w3 r1) (fun f => f)) (off := o1 + i * 7) (m := 7)).trans r1
    have ow6 := ow.keep w3 f36 fun _ _ f => f
    have al : allc (segC x) = true := rfl
    have np : ∀ cs : List Value, cs.length = 7 → spl cs 0 (segC x) = segC x := fun cs hc => by unfold spl; rw [List.take_zero, List.nil_append, segC_len, List.drop_eq_nil_of_le (by omega), List.append_nil]
    have np := np _ (show ([.int .i64 0, .int .i64 0, .int .i64 0, .int .i64 0, .int .i64 0, .slice none 0 0, .bool false] : List Value).length = 7 from rfl)
    have l7 : lenIs (segC x) 7 = true := rfl
    by_cases hle : leT x.2.2.1 (t1, t2)
    · have hth : thr (s.take (i + 1)) (t1, t2) = thr (s.take i) (t1, t2) ++ [x] := by
        rw [hts]; unfold thr; rw [List.filter_append]; simp [hle]
      have hle' : x.2.2.1.1 * t2 ≤ t1 * x.2.2.1.2 := hle
      have srcx : (h6.new ⟨segC x, .own⟩).src 7 (.slice (some ⟨h6.size, 0, none⟩) 1 1) = some (segC x) := src_new rfl
      simp +contextual (disch := omega) only [↓AM, ↓AV, AP, CQ, e0, cmpZ_le, hle', hin, g1, r16, srcx, al, l7, np]
      refine ow6.push (m := 1) w6 rfl ?_ fun oa' cap' h7 o7 w7 f7 n7 => ?_
      · omega
      obtain ⟨p1, p2⟩ := grown (f3.trans f36 fun _ _ f => f) nw f7 n7
      simp +contextual (disch := omega) only [↓AM, ↓AV, AP, CQ, e0, i64]
      have hl1 : (thr (s.take (i + 1)) (t1, t2)).length = (thr (s.take i) (t1, t2)).length + 1 := by rw [hth, List.length_append]; rfl
      have ho7 : Ow h7 7 oa' (thr (s.take (i + 1)) (t1, t2)).length cap' ((thr (s.take (i + 1)) (t1, t2)).flatMap segC) := by
        rw [hl1, hth, List.flatMap_append, List.flatMap_cons, List.flatMap_nil, List.append_nil]; exact o7
      refine ⟨_, ?_, i + 1, oa', cap', w7, p1, by omega, rfl, p2, ho7, by rw [hl1]⟩
      omega
    · have hth : thr (s.take (i + 1)) (t1, t2) = thr (s.take i) (t1, t2) := by
        rw [hts]; unfold thr; rw [List.filter_append]; simp [hle]
      have hle' : ¬ x.2.2.1.1 * t2 ≤ t1 * x.2.2.1.2 := hle
      simp +contextual (disch := omega) only [↓AM, ↓AV, AP, CQ, e0, cmpZ_le, hle', i64]
      refine ⟨_, ?_, i + 1, o, cap, w6, f3.trans f36 fun _ _ f => f, by omega, rfl, nw, by rw [hth]; exact ow6, by rw [hth]⟩
      omega
  · have hie : i = s.length := by omega
    subst hie
    have ets : s.take s.length = s := List.take_of_length_le (Nat.le_refl _)
    rw [ets] at hthl ow ⊢
    have hwl : (win s (t1, t2) keep).length = (thr s (t1, t2)).length - ((thr s (t1, t2)).length - keep.toNat) := by unfold win; rw [List.length_drop]
    by_cases hgt : keep < (thr s (t1, t2)).length
    · have hL : 0 < (thr s (t1, t2)).length := by omega
      obtain ⟨bo, oo, so, rfl, hs, -⟩ := ow.rd.pos hL
      have hle := ow.le
      have hcap : capOk so (thr s (t1, t2)).length cap := by cases so <;> simp [capOk]; omega
      have rd := (ow.rd).dropS (l := (thr s (t1, t2)).length - keep.toNat) hs (by omega) hle
      rw [flat_drop segC_len] at rd
      have ek : ((thr s (t1, t2)).length : Int) - keep = (((thr s (t1, t2)).length - keep.toNat : Nat) : Int) := by omega
      simp +contextual (disch := omega) only [↓AM, ↓AV, AP, CQ, e0, hin, i64, hgt, ek, bnds, hs, hcap, Option.isNone]
      refine ⟨by omega, f03, _, _, by rw [hwl], ?_⟩
      rw [hwl]
      exact rd
    · simp +contextual (disch := omega) only [↓AM, ↓AV, AP, CQ, e0, hin, i64, hgt]
      have hw0 : (thr s (t1, t2)).length - keep.toNat = 0 := by omega
      have hw : win s (t1, t2) keep = thr s (t1, t2) := by unfold win; rw [hw0, List.drop_zero]
      rw [hw]
      exact ⟨f03, _, _, rfl, ow.rd⟩
theorem c_rWindow {h : Hp} {oa : Option Addr} {c : Nat} {s : List Sg} {t : Tim} {keep : Int} (ha : Rd h 7 oa s.length (s.flatMap segC)) (hn : s.length ≤ 1000000) :
    ACalls Try.prog 12 [.slice oa s.length c, .agg #[.int .i64 t.1, .int .i64 t.2], .int .i64 keep] h fun v h' => v = wiR (er s t keep) (win s t keep) ∧ Fm No h h' := by
  refine dioramaref27_Window_ok.snd Af.hm rfl fun w => ?_
  rw [WF_eq, dioramaref27_Window]
  obtain ⟨t1, t2⟩ := t
  simp only at *
  obtain ⟨h0, e0⟩ : ∃ g, h.new ⟨[.int .i64 t1, .int .i64 t2], .own⟩ = g := ⟨_, rfl⟩
  have w0 : Wf h0 := e0 ▸ w.new
  have f0 : Fm No h h0 := e0 ▸ Fm.new Fm.refl
  have g0 : h0.get h.size = some ⟨[.int .i64 t1, .int .i64 t2], .own⟩ := e0 ▸ gnew
  have rds : ∀ g : Hp, Fm No h0 g → g.rdN h.size 0 2 = some [.int .i64 t1, .int .i64 t2] := fun g fg => rdN_mk (fg.keep w0 g0 (fun f => f)) (by simp)
  have n0 := rds h0 Fm.refl
  simp +contextual (disch := omega) only [↓AM, ↓AV, AP, CQ, e0, n0]
  refine (c_rlive (t := (t1, t2)) (keep := keep) (ha.keepW w f0 nNo) hn).use ?_
  rintro _ h1 w1 ⟨rfl, f1⟩
  have f01 := f0.trans f1 fun _ _ f => f
  have n1 := rds h1 f1
  by_cases he : er s (t1, t2) keep = 0
  case neg =>
    have e1 : EqI (er s (t1, t2) keep) 0 = False := eq_false he
    simp +contextual (disch := omega) only [↓AM, ↓AV, AP, CQ, e0, e1]
    exact ⟨by unfold wiR; rw [if_neg he], f01⟩
  have hcond : (VT (t1, t2) ∧ ∀ x ∈ s, SO x) ∧ (1 ≤ keep ∧ keep ≤ 60) := by
    unfold er at he
    by_cases q : VT (t1, t2) ∧ ∀ x ∈ s, SO x
    · rw [if_pos q] at he
      by_cases q2 : 1 ≤ keep ∧ keep ≤ 60
      · exact ⟨q, q2⟩
      · rw [if_neg q2] at he; omega
    · rw [if_neg q] at he; omega
  have e1 : EqI (er s (t1, t2) keep) 0 = True := eq_true he
  simp +contextual (disch := omega) only [↓AM, ↓AV, AP, CQ, e0, e1, n1]
  refine (c_rthere (t := (t1, t2)) (keep := keep) (ha.keepW w f01 nNo) hn hcond.1.1 hcond.1.2 hcond.2).use ?_
  rintro _ h2 w2 ⟨f2, a', c', rfl, hr⟩
  have fm := f01.trans f2 fun _ _ f => f
  have hwl := win_len s (t1, t2) keep
  rw [he]
  generalize win s (t1, t2) keep = R at *
  rcases Nat.eq_zero_or_pos R.length with h0' | h0'
  · have hR : R = [] := List.length_eq_zero_iff.1 h0'
    subst hR
    have e0' : EqI ((([] : List Sg).length : Nat) : Int) 0 = True := eqI_self
    simp +contextual (disch := omega) only [↓AM, ↓AV, AP, CQ, eqI_self, e0']
    exact ⟨rfl, fm⟩
  · obtain ⟨b, off, sp, x, rfl, g1, hx, r1, -⟩ := num_at hr h0'
    have e1 : EqI ((R.length : Nat) : Int) 0 = False := eq_false (by unfold EqI; omega)
    simp only [Nat.zero_mul, Nat.add_zero] at r1
    simp +contextual (disch := omega) only [↓AM, ↓AV, AP, CQ, eqI_self, e1, g1, h0', r1]
    refine ⟨by omega, ?_, fm⟩
    cases R with
    | nil => simp at h0'
    | cons y R => cases hx; rfl
end Go.Proofs.Ytikbdeobghoglaa.St

/- The document's next segment; live segments. Plain theorems over the abstract machine.
   Conditions: none. -/
namespace Go.Proofs.Ytikbdeobghoglaa.St
open Go Go.RowKit Go.Proofs.Ytikbdeobghoglaa.Am Go.Proofs.Ytikbdeobghoglaa.Af Go.Proofs.Ytikbdeobghoglaa.Md Go.Proofs.Ytikbdeobghoglaa.Nu
set_option linter.unusedVariables false
set_option linter.unusedSimpArgs false
set_option linter.defProp false
set_option maxRecDepth 20000
set_option maxHeartbeats 1000000

/-- The numbers rise. -/
def Rise (R : List Sg) : Prop := R.Pairwise fun x y => x.1 < y.1
theorem rise_last {R : List Sg} (hr : Rise R) {z : Sg} (hz : R[R.length - 1]? = some z) : ∀ x ∈ R, x.1 ≤ z.1 := by
  intro x hx
  obtain ⟨i, hi, rfl⟩ := List.getElem_of_mem hx
  rw [List.getElem?_eq_getElem (by omega)] at hz
  have hz := Option.some.inj hz
  rcases Nat.lt_or_ge i (R.length - 1) with h | h
  · have := List.pairwise_iff_getElem.1 hr i (R.length - 1) hi (by omega) h
    rw [hz] at this
    omega
  · have : i = R.length - 1 := by omega
    subst this
    rw [hz]; exact Int.le_refl _
theorem c_rnext {h : Hp} {oa : Option Addr} {c : Nat} {R : List Sg} {last : Int} (hr : Rd h 7 oa R.length (R.flatMap segC)) (hn : R.length ≤ 1000000) (hmem : ∀ x ∈ R, 1 ≤ x.1 ∧ x.1 ≤ 1000000) (rise : Rise R) (hl : 0 ≤ last) :
    ACalls Try.prog 34 [.slice oa R.length c, .int .i64 last] h fun v h' => v = .tuple #[.int .i64 (nxt R last).1, .int .i64 (nxt R last).2] ∧ h' = h := by
  refine dioramaref27_next_ok.snd Af.hm rfl fun w => ?_
  rw [WF_eq, dioramaref27_next]
  rcases Nat.eq_zero_or_pos R.length with h0' | h0'
  · have hR : R = [] := List.length_eq_zero_iff.1 h0'
    subst hR
    have e0' : EqI ((([] : List Sg).length : Nat) : Int) 0 = True := eqI_self
    simp +contextual (disch := omega) only [↓AM, ↓AV, AP, CQ, eqI_self, e0']
    rfl
  have hRn : R ≠ [] := fun q => by rw [q] at h0'; simp at h0'
  have e1 : EqI ((R.length : Nat) : Int) 0 = False := eq_false (by unfold EqI; omega)
  obtain ⟨b, off, sp, z, rfl, g1, hz, r1, -⟩ := num_at hr (show R.length - 1 < R.length by omega)
  have e3 : ((R.length : Int) - 1) = ((R.length - 1 : Nat) : Int) := by omega
  have e4 : R.length - 1 < R.length := by omega
  by_cases hl0 : last = 0
  · have e2 : EqI last 0 = True := eq_true hl0
    simp +contextual (disch := omega) only [↓AM, ↓AV, AP, CQ, eqI_self, e1, e2, e3, e4, i64, g1, r1]
    have : nxt R last = (z.1, 0) := by
      unfold nxt
      rw [if_neg hRn, if_pos hl0, List.getLast?_eq_getElem?, hz]
      rfl
    rw [this]
  have e2 : EqI last 0 = False := eq_false hl0
  have hle := rise_last rise hz
  have hzm := hmem z (List.mem_of_getElem? hz)
  obtain ⟨b', off', sp', y, e, g2, hy, r2, -⟩ := num_at hr h0'
  cases e
  simp only [Nat.zero_mul, Nat.add_zero] at r2
  have hw : wiN R = y.1 := by
    cases R with
    | nil => simp at h0'
    | cons x R => cases hy; rfl
  have hym := hmem y (List.mem_of_getElem? hy)
  have hyz := hle y (List.mem_of_getElem? hy)
  by_cases hge : z.1 ≤ last
  · simp +contextual (disch := omega) only [↓AM, ↓AV, AP, CQ, eqI_self, e1, e2, e3, e4, i64, g1, r1, hge]
    have hex : ¬ ∃ x ∈ R, x.1 - 1 = last := by
      rintro ⟨x, hx, hx2⟩
      have := hle x hx
      omega
    have : nxt R last = (0, 1) := by
      unfold nxt
      rw [if_neg hRn, if_neg hl0, if_neg hex, if_neg (by rw [hw]; omega)]
    rw [this]
  have hlb : last ≤ 1000000 := by omega
  simp +contextual (disch := omega) only [↓AM, ↓AV, AP, CQ, eqI_self, e1, e2, e3, e4, i64, g1, r1, hge]
  refine WL.mk (fun k u h' => ∃ i : Nat, h' = h ∧ i ≤ R.length ∧ k = R.length - i ∧ (∀ x ∈ R.take i, ¬ x.1 - 1 = last) ∧ u = [(0, some (.slice (some ⟨b, off, sp⟩) R.length c)), (1, some (.int .i64 last)), (6, some (.int .i64 (i : Int)))]) ⟨R.length, 0, rfl, by omega, rfl, by simp, rfl⟩ ?_
  rintro k u _ ⟨i, rfl, hi, rfl, hall, rfl⟩
  by_cases hin : i < R.length
  · obtain ⟨b3, o3, s3, x, e, g3, hx, r3, -⟩ := num_at hr hin
    cases e
    have hxm := hmem x (List.mem_of_getElem? hx)
    by_cases heq : x.1 = last + 1
    · have e5 : EqI x.1 (last + 1) = True := eq_true heq
      simp +contextual (disch := omega) only [↓AM, ↓AV, AP, CQ, hin, i64, g3, r3, e5]
      have hex : ∃ x ∈ R, x.1 - 1 = last := ⟨x, List.mem_of_getElem? hx, by omega⟩
      have : nxt R last = (last + 1, 0) := by
        unfold nxt
        rw [if_neg hRn, if_neg hl0, if_pos hex]
      rw [this]
    · have e5 : EqI x.1 (last + 1) = False := eq_false heq
      simp +contextual (disch := omega) only [↓AM, ↓AV, AP, CQ, hin, i64, g3, r3, e5]
      have hall' : ∀ v ∈ R.take (i + 1), ¬ v.1 - 1 = last := by
        rw [List.take_add_one, hx]
        intro v hv
        rcases List.mem_append.1 hv with hv | hv
        · exact hall v hv
        · have : v = x := by simpa using hv
          rw [this]; omega
      first
        | exact ⟨R.length - (i + 1), by omega, i + 1, by omega, rfl, hall', rfl⟩
        | exact ⟨R.length - (i + 1), by omega, i + 1, by omega, rfl, hall'⟩
  · rw [List.take_of_length_le (by omega)] at hall
    have hex : ¬ ∃ x ∈ R, x.1 - 1 = last := by
      rintro ⟨x, hx, hx2⟩
      exact hall x hx hx2
    have hnx : nxt R last = if last < y.1 - 1 then (y.1, 2) else (0, 1) := by unfold nxt; rw [if_neg hRn, if_neg hl0, if_neg hex, hw]
    rw [hnx]
    by_cases hlt : last + 1 < y.1
    · rw [if_pos (by omega)]
      simp +contextual (disch := omega) only [↓AM, ↓AV, AP, CQ, hin, i64, g2, r2, h0', hlt]
      first | trivial | exact ⟨by omega, by omega⟩ | omega
    · rw [if_neg (by omega)]
      simp +contextual (disch := omega) only [↓AM, ↓AV, AP, CQ, hin, i64, g2, r2, h0', hlt]
      first | trivial | omega
theorem c_rNext {h : Hp} {oa : Option Addr} {c : Nat} {s : List Sg} {t : Tim} {keep last : Int} (ha : Rd h 7 oa s.length (s.flatMap segC)) (hn : s.length ≤ 1000000) (hnum : ∀ x ∈ s, 1 ≤ x.1 ∧ x.1 ≤ 1000000) (rise : Rise s) :
    ACalls Try.prog 14 [.slice oa s.length c, .agg #[.int .i64 t.1, .int .i64 t.2], .int .i64 keep, .int .i64 last] h fun v h' => v = nxR (er s t keep) (win s t keep) last ∧ Fm No h h' := by
  refine dioramaref27_Next_ok.snd Af.hm rfl fun w => ?_
  rw [WF_eq, dioramaref27_Next]
  obtain ⟨t1, t2⟩ := t
  simp only at *
  obtain ⟨h0, e0⟩ : ∃ g, h.new ⟨[.int .i64 t1, .int .i64 t2], .own⟩ = g := ⟨_, rfl⟩
  have w0 : Wf h0 := e0 ▸ w.new
  have f0 : Fm No h h0 := e0 ▸ Fm.new Fm.refl
  have g0 : h0.get h.size = some ⟨[.int .i64 t1, .int .i64 t2], .own⟩ := e0 ▸ gnew
  have rds : ∀ g : Hp, Fm No h0 g → g.rdN h.size 0 2 = some [.int .i64 t1, .int .i64 t2] := fun g fg => rdN_mk (fg.keep w0 g0 (fun f => f)) (by simp)
  have n0 := rds h0 Fm.refl
  simp +contextual (disch := omega) only [↓AM, ↓AV, AP, CQ, e0, n0]
  refine (c_rlive (t := (t1, t2)) (keep := keep) (ha.keepW w f0 nNo) hn).use ?_
  rintro _ h1 w1 ⟨rfl, f1⟩
  have f01 := f0.trans f1 fun _ _ f => f
  have n1 := rds h1 f1
  by_cases he : er s (t1, t2) keep = 0
  case neg =>
    have e1 : EqI (er s (t1, t2) keep) 0 = False := eq_false he
    simp +contextual (disch := omega) only [↓AM, ↓AV, AP, CQ, e0, e1]
    exact ⟨by unfold nxR; rw [if_neg he], f01⟩
  have hcond : (VT (t1, t2) ∧ ∀ x ∈ s, SO x) ∧ (1 ≤ keep ∧ keep ≤ 60) := by
    unfold er at he
    by_cases q : VT (t1, t2) ∧ ∀ x ∈ s, SO x
    · rw [if_pos q] at he
      by_cases q2 : 1 ≤ keep ∧ keep ≤ 60
      · exact ⟨q, q2⟩
      · rw [if_neg q2] at he; omega
    · rw [if_neg q] at he; omega
  have e1 : EqI (er s (t1, t2) keep) 0 = True := eq_true he
  by_cases hneg : last < 0
  · simp +contextual (disch := omega) only [↓AM, ↓AV, AP, CQ, e0, e1, n1, hneg]
    rw [he]
    exact ⟨by unfold nxR; rw [if_pos rfl, if_pos hneg], f01⟩
  simp +contextual (disch := omega) only [↓AM, ↓AV, AP, CQ, e0, e1, n1, hneg]
  refine (c_rthere (t := (t1, t2)) (keep := keep) (ha.keepW w f01 nNo) hn hcond.1.1 hcond.1.2 hcond.2).use ?_
  rintro _ h2 w2 ⟨f2, a', c', rfl, hr⟩
  have fm := f01.trans f2 fun _ _ f => f
  have hwl := win_len s (t1, t2) keep
  have hmem : ∀ x ∈ win s (t1, t2) keep, 1 ≤ x.1 ∧ x.1 ≤ 1000000 := fun x hx => hnum x (win_mem hx).1
  have riseR : Rise (win s (t1, t2) keep) := by
    unfold Rise win thr
    exact (rise.sublist List.filter_sublist).sublist (List.drop_sublist _ _)
  rw [he]
  generalize win s (t1, t2) keep = R at *
  simp +contextual (disch := omega) only [↓AM, ↓AV, AP, CQ, e0]
  refine (c_rnext (last := last) hr (by omega) hmem riseR (by omega)).use ?_
  rintro _ h3 w3 ⟨rfl, rfl⟩
  simp +contextual (disch := omega) only [↓AM, ↓AV, AP, CQ, e0]
  exact ⟨by unfold nxR; rw [if_pos rfl, if_neg hneg], fm⟩
end Go.Proofs.Ytikbdeobghoglaa.St

/- The law's live segments. Plain theorems over the abstract machine.
   Conditions: none. -/
namespace Go.Proofs.Ytikbdeobghoglaa.St
open Go Go.RowKit Go.Proofs.Ytikbdeobghoglaa.Am Go.Proofs.Ytikbdeobghoglaa.Af Go.Proofs.Ytikbdeobghoglaa.Md Go.Proofs.Ytikbdeobghoglaa.Nu
set_option linter.unusedVariables false
set_option linter.unusedSimpArgs false
set_option linter.defProp false
set_option maxRecDepth 20000
set_option maxHeartbeats 1000000

def Nums (s : List Sg) : Prop := ∀ (i : Nat) (x : Sg), s[i]? = some x → x.1 = (i : Int) + 1
theorem Nums.rise {s : List Sg} (h : Nums s) : Rise s := by
  unfold Rise
  refine List.pairwise_iff_getElem.2 fun i j hi hj hij => ?_
  have h1 := h i _ (List.getElem?_eq_getElem hi)
  have h2 := h j _ (List.getElem?_eq_getElem hj)
  omega
theorem Nums.bound {s : List Sg} (h : Nums s) (hn : s.length ≤ 1000000) : ∀ x ∈ s, 1 ≤ x.1 ∧ x.1 ≤ 1000000 := fun x hx => by
  obtain ⟨i, hi, rfl⟩ := List.getElem_of_mem hx
  have := h i _ (List.getElem?_eq_getElem hi)
  omega
theorem c_live {h : Hp} {oa : Option Addr} {c : Nat} {s : List Sg} (ha : Rd h 7 oa s.length (s.flatMap segC)) (hn : s.length ≤ 9000000000000000000) :
    ACalls Try.prog 9 [.slice oa s.length c] h fun v h' => Fm No h h' ∧ ∃ b, v = .bool b ∧ (b = true → s.length ≤ 70 ∧ Nums s ∧ ∀ x ∈ s, VT x.2.1 ∧ VT x.2.2.1) := by
  refine dioramalaw27_live_ok.snd Af.hm rfl fun w => ?_
  rw [WF_eq, dioramalaw27_live]
  simp +contextual (disch := omega) only [↓AM, ↓AV, AP, CQ]
  refine WL.mk (fun k u h' => ∃ i : Nat, Wf h' ∧ Fm No h h' ∧ i ≤ s.length ∧ k = s.length - i ∧ (∀ (j : Nat) (x : Sg), j < i → s[j]? = some x → x.1 = (j : Int) + 1 ∧ VT x.2.1 ∧ VT x.2.2.1) ∧ u = [(0, some (.slice oa s.length c)), (3, some (.int .i64 (i : Int)))]) ⟨s.length, 0, w, Fm.refl, by omega, rfl, fun j x hj => by omega, rfl⟩ ?_
  rintro k u h2 ⟨i, w2, f2, hi, rfl, hall, rfl⟩
  by_cases hin : i < s.length
  case neg =>
    simp +contextual (disch := omega) only [↓AM, ↓AV, AP, CQ, hin]
    refine ⟨f2, _, rfl, fun hb => ⟨by have := of_decide_eq_true hb; omega, fun j x hx => ?_, fun x hx => ?_⟩⟩
    · have := (List.getElem?_eq_some_iff.1 hx).1
      exact (hall j x (by omega) hx).1
    · obtain ⟨j, hj, rfl⟩ := List.getElem_of_mem hx
      exact (hall j _ (by omega) (List.getElem?_eq_getElem hj)).2
  obtain ⟨b1, o1, s1, x, rfl, g1, hx, r1, -⟩ := (ha.keepW w f2 nNo).elem segC_len rfl hin
  obtain ⟨hA, eA⟩ : ∃ g, h2.new ⟨segC x, .own⟩ = g := ⟨_, rfl⟩
  have wA : Wf hA := eA ▸ w2.new
  have fA : Fm No h2 hA := eA ▸ Fm.new Fm.refl
  have gA : hA.get h2.size = some ⟨segC x, .own⟩ := eA ▸ gnew
  have rds : ∀ g : Hp, Fm No hA g → g.rd h2.size 0 = some (.int .i64 x.1) ∧ g.rdN h2.size 1 2 = some [.int .i64 x.2.1.1, .int .i64 x.2.1.2] ∧ g.rdN h2.size 3 2 = some [.int .i64 x.2.2.1.1, .int .i64 x.2.2.1.2] := fun g fg =>
    ⟨rd_mk (fg.keep wA gA (fun f => f)), rdN_mk (fg.keep wA gA (fun f => f)) (by simp [segC]), rdN_mk (fg.keep wA gA (fun f => f)) (by simp [segC])⟩
  obtain ⟨rA, nA, mA⟩ := rds hA Fm.refl
  have al : allc (segC x) = true := rfl
  have sc0 : (segC x)[0]? = some (.int .i64 x.1) := rfl
  have np : ∀ cs : List Value, cs.length = 7 → spl cs 0 (segC x) = segC x := fun cs hc => by unfold spl; rw [List.take_zero, List.nil_append, segC_len, List.drop_eq_nil_of_le (by omega), List.append_nil]
  have np := np _ (show ([.int .i64 0, .int .i64 0, .int .i64 0, .int .i64 0, .int .i64 0, .slice none 0 0, .bool false] : List Value).length = 7 from rfl)
  have l7 : lenIs (segC x) 7 = true := rfl
  have f2A := f2.trans fA fun _ _ f => f
  by_cases hnum : x.1 = (i : Int) + 1
  case neg =>
    have e5 : EqI x.1 (((i + 1 : Nat)) : Int) = False := eq_false (by unfold EqI; omega)
    simp +contextual (disch := omega) only [↓AM, ↓AV, AP, CQ, hin, g1, r1, al, np, l7, eA, rA, sc0, i64, e5]
    exact ⟨f2A, _, rfl, fun hb => by cases hb⟩
  have e5 : EqI x.1 (((i + 1 : Nat)) : Int) = True := eq_true (by unfold EqI; omega)
  simp +contextual (disch := omega) only [↓AM, ↓AV, AP, CQ, hin, g1, r1, al, np, l7, eA, rA, sc0, i64, e5, nA]
  refine (c_VTime (x := x.2.1)).use ?_
  rintro _ h3 w3 ⟨rfl, f3⟩
  obtain ⟨r3, n3, m3⟩ := rds h3 f3
  have f23 := f2A.trans f3 fun _ _ f => f
  by_cases hv1 : VT x.2.1
  case neg =>
    simp +contextual (disch := omega) only [↓AM, ↓AV, AP, CQ, eA, hv1]
    exact ⟨f23, _, rfl, fun hb => by cases hb⟩
  simp +contextual (disch := omega) only [↓AM, ↓AV, AP, CQ, eA, hv1, m3]
  refine (c_VTime (x := x.2.2.1)).use ?_
  rintro _ h4 w4 ⟨rfl, f4⟩
  have f34 := f3.trans f4 fun _ _ f => f
  obtain ⟨r4, n4, m4⟩ := rds h4 f34
  have f24 := f23.trans f4 fun _ _ f => f
  by_cases hv2 : VT x.2.2.1
  case neg =>
    simp +contextual (disch := omega) only [↓AM, ↓AV, AP, CQ, eA, hv2]
    exact ⟨f24, _, rfl, fun hb => by cases hb⟩
  simp +contextual (disch := omega) only [↓AM, ↓AV, AP, CQ, eA, hv2, n4, m4]
  refine (c_OfT (x := x.2.1) hv1).use ?_
  rintro u1 h5 w5 ⟨l5, f5⟩
  have f35 := f34.trans f5 fun _ _ f => f
  obtain ⟨r5, n5, m5⟩ := rds h5 f35
  simp +contextual (disch := omega) only [↓AM, ↓AV, AP, CQ, eA, n5, m5]
  refine ⟨⟨_, rfl, rfl⟩, ?_⟩
  refine (c_OfT (x := x.2.2.1) hv2).use ?_
  rintro u2 h6 w6 ⟨l6, f6⟩
  have f36 := f35.trans f6 fun _ _ f => f
  simp +contextual (disch := omega) only [↓AM, ↓AV, AP, CQ, eA]
  refine (c_CmpFT (x := x.2.1) (y := x.2.2.1) hv1 hv2 (l5.kp (Kp.fm w5 f6)) l6).use ?_
  rintro _ h7 w7 ⟨rfl, f7⟩
  have f37 := f36.trans f7 fun _ _ f => f
  obtain ⟨r7, n7, m7⟩ := rds h7 f37
  have f27 := f2A.trans f37 fun _ _ f => f
  have hall' : ∀ (j : Nat) (y : Sg), j < i + 1 → s[j]? = some y → y.1 = (j : Int) + 1 ∧ VT y.2.1 ∧ VT y.2.2.1 := fun j y hj hy => by
    rcases Nat.lt_or_ge j i with h | h
    · exact hall j y h hy
    · have : j = i := by omega
      subst this
      rw [hx] at hy
      cases hy
      exact ⟨hnum, hv1, hv2⟩
  by_cases hgt : x.2.2.1.1 * x.2.1.2 < x.2.1.1 * x.2.2.1.2
  · simp +contextual (disch := omega) only [↓AM, ↓AV, AP, CQ, eA, cmpZ_gt, hgt]
    exact ⟨f27, _, rfl, fun hb => by cases hb⟩
  cases i with
  | zero =>
    have e6 : ((0 : Int) < ((0 : Nat) : Int)) = False := by simp
    simp +contextual (disch := omega) only [↓AM, ↓AV, AP, CQ, eA, cmpZ_gt, hgt, e6, i64]
    exact ⟨s.length - 1, by omega, 1, w7, f27, by omega, rfl, hall', rfl⟩
  | succ i =>
    have e6 : ((0 : Int) < (((i + 1 : Nat)) : Int)) = True := eq_true (by omega)
    obtain ⟨b2, o2, s2, y, e, g2, hy, q1, -⟩ := (ha.keepW w f27 nNo).elem segC_len rfl (show i < s.length by omega)
    cases e
    have hvy := (hall i y (by omega) hy).2.2
    have q4 : h7.rdN b1 (o1 + i * 7 + 3) 2 = some [.int .i64 y.2.2.1.1, .int .i64 y.2.2.1.2] := rdN_sub (k := 3) (l := 2) q1 (by omega)
    have a3 : o1 + i * 7 + 1 + 2 = o1 + i * 7 + 3 := by omega
    have hin2 : i < s.length := by omega
    simp +contextual (disch := omega) only [↓AM, ↓AV, AP, CQ, eA, cmpZ_gt, hgt, e6, i64, hin2, g1, a3, q4, m7]
    refine (c_OfT (x := y.2.2.1) hvy).use ?_
    rintro u3 h8 w8 ⟨l8, f8⟩
    have f38 := f37.trans f8 fun _ _ f => f
    obtain ⟨r8, n8, m8⟩ := rds h8 f38
    simp +contextual (disch := omega) only [↓AM, ↓AV, AP, CQ, eA, m8]
    refine ⟨⟨_, rfl, rfl⟩, ?_⟩
    refine (c_OfT (x := x.2.2.1) hv2).use ?_
    rintro u4 h9 w9 ⟨l9, f9⟩
    have f39 := f38.trans f9 fun _ _ f => f
    simp +contextual (disch := omega) only [↓AM, ↓AV, AP, CQ, eA]
    refine (c_CmpFT (x := y.2.2.1) (y := x.2.2.1) hvy hv2 (l8.kp (Kp.fm w8 f9)) l9).use ?_
    rintro _ h10 w10 ⟨rfl, f10⟩
    have f210 := f2A.trans (f39.trans f10 fun _ _ f => f) fun _ _ f => f
    by_cases hgt2 : x.2.2.1.1 * y.2.2.1.2 < y.2.2.1.1 * x.2.2.1.2
    · simp +contextual (disch := omega) only [↓AM, ↓AV, AP, CQ, eA, cmpZ_gt, hgt2]
      exact ⟨f210, _, rfl, fun hb => by cases hb⟩
    · simp +contextual (disch := omega) only [↓AM, ↓AV, AP, CQ, eA, cmpZ_gt, hgt2, i64]
      exact ⟨s.length - (i + 1 + 1), by omega, i + 1 + 1, w10, f210, by omega, rfl, hall', rfl⟩
end Go.Proofs.Ytikbdeobghoglaa.St

/- Segments of a law's argument. Plain theorems over the abstract machine.
   Conditions: none. -/
namespace Go.Proofs.Ytikbdeobghoglaa.St
open Go Go.RowKit Go.Proofs.Ytikbdeobghoglaa.Am Go.Proofs.Ytikbdeobghoglaa.Af Go.Proofs.Ytikbdeobghoglaa.Md Go.Proofs.Ytikbdeobghoglaa.Nu
set_option linter.unusedVariables false
set_option linter.unusedSimpArgs false
set_option maxRecDepth 20000

def segK := AKd.pair (AKd.int .i64) (AKd.pair (AKd.pair (AKd.pair (AKd.int .i64) (AKd.int .i64)) (AKd.pair (AKd.int .i64) (AKd.int .i64))) (AKd.pair (AKd.slice (AKd.int .u8)) AKd.bool))
abbrev SegA := Int × ((Int × Int) × (Int × Int)) × List Int × Bool
theorem seg_open {h : Hp} {x : SegA} {cs : List Value} (a : segK.A h x cs) : ∃ y : Sg, cs = segC y := by
  obtain ⟨m, ⟨⟨f1, f2⟩, t1, t2⟩, d, b⟩ := x
  obtain ⟨c1, c2, rfl, a1, c3, c4, rfl, ⟨c5, c6, rfl, ⟨c7, c8, rfl, a2, a3⟩, c9, c10, rfl, a4, a5⟩, c11, c12, rfl, ⟨oa, c, r, rfl, -⟩, a6⟩ := a
  have a1 : c1 = [.int .i64 m] := a1
  have a2 : c7 = [.int .i64 f1] := a2
  have a3 : c8 = [.int .i64 f2] := a3
  have a4 : c9 = [.int .i64 t1] := a4
  have a5 : c10 = [.int .i64 t2] := a5
  have a6 : c12 = [.bool b] := a6
  subst a1 a2 a3 a4 a5 a6
  exact ⟨(m, (f1, f2), (t1, t2), (oa, d.length, c), b), rfl⟩
theorem segs_open {h : Hp} : ∀ {xs : List SegA} {r : List Value}, AKd.Row (segK.A h) xs r → ∃ s : List Sg, r = s.flatMap segC ∧ s.length = xs.length
  | [], r, e => ⟨[], e, rfl⟩
  | x :: xs, r, ⟨c, r', e, h1, h2⟩ => by
    obtain ⟨y, rfl⟩ := seg_open h1
    obtain ⟨s, rfl, hs⟩ := segs_open h2
    exact ⟨y :: s, e, by simp [hs]⟩
theorem wiR_tuple (e : Int) (R : List Sg) : ∃ a b c, wiR e R = .tuple #[.int .i64 a, .int .i64 b, .int .i64 c] := by
  unfold wiR
  split
  · exact ⟨_, _, _, rfl⟩
  · exact ⟨_, _, _, rfl⟩
theorem nxR_tuple (e : Int) (R : List Sg) (last : Int) : ∃ a b c, nxR e R last = .tuple #[.int .i64 a, .int .i64 b, .int .i64 c] := by
  unfold nxR
  split
  · split
    · exact ⟨_, _, _, rfl⟩
    · exact ⟨_, _, _, rfl⟩
  · exact ⟨_, _, _, rfl⟩
end Go.Proofs.Ytikbdeobghoglaa.St

/- What a client takes at some times: plain words; two growing rows. Plain theorems over the abstract machine.
   Conditions: none. -/
namespace Go.Proofs.Ytikbdeobghoglaa.St
open Go Go.RowKit Go.Proofs.Ytikbdeobghoglaa.Am Go.Proofs.Ytikbdeobghoglaa.Af Go.Proofs.Ytikbdeobghoglaa.Md Go.Proofs.Ytikbdeobghoglaa.Nu
set_option linter.unusedVariables false
set_option linter.unusedSimpArgs false
set_option linter.defProp false
set_option maxRecDepth 20000
set_option maxHeartbeats 1000000

abbrev Tk := List Int × List Int × Int
def fstep (s : List Sg) (keep : Int) (z : Tk) (t : Tim) : Tk :=
  if (nxt (win s t keep) z.2.2).2 = 1 then z else (z.1 ++ [(nxt (win s t keep) z.2.2).1], (if (nxt (win s t keep) z.2.2).2 = 2 then z.2.1 ++ [(z.1.length : Int)] else z.2.1), (nxt (win s t keep) z.2.2).1)
def fol (s : List Sg) (keep : Int) (ts : List Tim) : Tk := ts.foldl (fstep s keep) ([], [], 0)
theorem fol_snoc (s : List Sg) (keep : Int) (ts : List Tim) (t : Tim) : fol s keep (ts ++ [t]) = fstep s keep (fol s keep ts) t := by
  unfold fol; rw [List.foldl_append]; rfl
/-- The times are valid and rise. -/
def TOK (ts : List Tim) : Prop := ∀ (i : Nat) (t : Tim), ts[i]? = some t → VT t ∧ ∀ u, 0 < i → ts[i - 1]? = some u → u.1 * t.2 < t.1 * u.2
theorem nxt_gt {R : List Sg} {last : Int} (hm : ∀ x ∈ R, 1 ≤ x.1) (hl : 0 ≤ last) (hk : (nxt R last).2 ≠ 1) : last < (nxt R last).1 := by
  unfold nxt at hk ⊢
  by_cases h1 : R = []
  · rw [if_pos h1] at hk; exact absurd rfl hk
  · rw [if_neg h1] at hk ⊢
    by_cases h2 : last = 0
    · rw [if_pos h2]
      have : R.getLast? = some (R.getLast h1) := List.getLast?_eq_some_getLast h1
      rw [this]
      have := hm _ (List.getLast_mem h1)
      show last < (R.getLast h1).1
      omega
    · rw [if_neg h2] at hk ⊢
      by_cases h3 : ∃ x ∈ R, x.1 - 1 = last
      · rw [if_pos h3]; show last < last + 1; omega
      · rw [if_neg h3] at hk ⊢
        by_cases h4 : last < wiN R - 1
        · rw [if_pos h4]; show last < wiN R; omega
        · rw [if_neg h4] at hk; exact absurd rfl hk
theorem nxt_small {R : List Sg} {last : Int} (hm : ∀ x ∈ R, 1 ≤ x.1 ∧ x.1 ≤ 1000000) (hl : 0 ≤ last ∧ last ≤ 1000000) : 0 ≤ (nxt R last).1 ∧ (nxt R last).1 ≤ 1000000 := by
  unfold nxt
  split
  · decide
  · rename_i h1
    split
    · have : R.getLast? = some (R.getLast h1) := List.getLast?_eq_some_getLast h1
      rw [this]
      have := hm _ (List.getLast_mem h1)
      show 0 ≤ (R.getLast h1).1 ∧ (R.getLast h1).1 ≤ 1000000
      omega
    · split
      · rename_i h3
        obtain ⟨x, hx, h4⟩ := h3
        have := hm x hx
        show 0 ≤ last + 1 ∧ last + 1 ≤ 1000000
        omega
      · split
        · cases R with
          | nil => exact absurd rfl h1
          | cons y R =>
            have := hm y (by simp)
            show 0 ≤ y.1 ∧ y.1 ≤ 1000000
            omega
        · decide
/-- What is taken rises, and is at most the last. -/
structure FolOk (z : Tk) (n : Nat) : Prop where
  nn : 0 ≤ z.2.2 ∧ z.2.2 ≤ 1000000
  le : ∀ x ∈ z.1, x ≤ z.2.2
  up : z.1.Pairwise fun x y => x < y
  l1 : z.1.length ≤ n
  l2 : z.2.1.length ≤ n
theorem FolOk.step {s : List Sg} {keep : Int} {z : Tk} {n : Nat} {t : Tim} (f : FolOk z n) (hm : ∀ x ∈ win s t keep, 1 ≤ x.1 ∧ x.1 ≤ 1000000) : FolOk (fstep s keep z t) (n + 1) := by
  unfold fstep
  by_cases h : (nxt (win s t keep) z.2.2).2 = 1
  · rw [if_pos h]; exact ⟨f.nn, f.le, f.up, by have := f.l1; omega, by have := f.l2; omega⟩
  · rw [if_neg h]
    have hg := nxt_gt (fun x hx => (hm x hx).1) f.nn.1 h
    have hs := nxt_small hm f.nn
    refine ⟨hs, ?_, ?_, by simp; exact f.l1, ?_⟩
    · intro x hx
      rcases List.mem_append.1 hx with hx | hx
      · have := f.le x hx
        show x ≤ (nxt (win s t keep) z.2.2).1
        omega
      · rw [List.mem_singleton.1 hx]; exact Int.le_refl _
    · rw [List.pairwise_append]
      refine ⟨f.up, by simp, fun x hx y hy => ?_⟩
      rw [List.mem_singleton.1 hy]
      have := f.le x hx
      omega
    · show (if _ then _ else _ : List Int).length ≤ _
      split
      · simp; exact f.l2
      · have := f.l2; omega
theorem fol_ok {s : List Sg} {keep : Int} (hm : ∀ x ∈ s, 1 ≤ x.1 ∧ x.1 ≤ 1000000) (ts : List Tim) : ∀ i, FolOk (fol s keep (ts.take i)) i
  | 0 => ⟨by simp [fol], by simp [fol], by simp [fol], by simp [fol], by simp [fol]⟩
  | i + 1 => by
    rw [List.take_add_one]
    cases h : ts[i]? with
    | none =>
      rw [Option.toList_none, List.append_nil]
      have f := fol_ok (keep := keep) hm ts i
      exact ⟨f.nn, f.le, f.up, by have := f.l1; omega, by have := f.l2; omega⟩
    | some t =>
      rw [Option.toList_some, fol_snoc]
      exact (fol_ok hm ts i).step fun x hx => hm x (win_mem hx).1
def iV (L : List Int) : List Value := L.map (Value.int .i64)
/-- Two rows of numbers that grow. -/
structure Gr (h0 h : Hp) (o1 : Option Addr) (c1 : Nat) (L1 : List Int) (o2 : Option Addr) (c2 : Nat) (L2 : List Int) : Prop where
  n1 : Nw h0 o1
  n2 : Nw h0 o2
  w1 : Ow h 1 o1 L1.length c1 (iV L1)
  w2 : Ow h 1 o2 L2.length c2 (iV L2)
  ne : ∀ x, At o1 x → ¬ At o2 x
theorem Gr.mk0 {h0 h : Hp} : Gr h0 h none 0 [] none 0 [] := ⟨Nw.none, Nw.none, Ow.mk0, Ow.mk0, fun x hx => absurd hx At.none⟩
theorem Gr.keep {h0 h h' : Hp} {o1 o2 : Option Addr} {c1 c2 : Nat} {L1 L2 : List Int} (g : Gr h0 h o1 c1 L1 o2 c2 L2) (w : Wf h) (f : Fm No h h') : Gr h0 h' o1 c1 L1 o2 c2 L2 :=
  ⟨g.n1, g.n2, g.w1.keep w f fun _ _ f => f, g.w2.keep w f fun _ _ f => f, g.ne⟩
theorem Gr.push1 {h0 h h' : Hp} {o1 o2 o' : Option Addr} {c1 c2 c' : Nat} {L1 L2 : List Int} {d : Int} (g : Gr h0 h o1 c1 L1 o2 c2 L2) (w : Wf h) (fm : Fm No h0 h) (o : Ow h' 1 o' (L1.length + 1) c' (iV L1 ++ [.int .i64 d])) (f : Fm (At o1) h h') (n : ∀ x, At o' x → At o1 x ∨ h.size ≤ x) :
    Gr h0 h' o' c' (L1 ++ [d]) o2 c2 L2 ∧ Fm No h0 h' := by
  obtain ⟨g1, g2⟩ := grown fm g.n1 f n
  refine ⟨⟨g2, g.n2, ?_, g.w2.keep w f fun x hx hy => g.ne x hy hx, fun x hx hy => ?_⟩, g1⟩
  · rw [List.length_append]; simp only [iV, List.map_append]; exact o
  · rcases n x hx with h1 | h1
    · exact g.ne x h1 hy
    · have := g.w2.lt w x hy; omega
theorem Gr.push2 {h0 h h' : Hp} {o1 o2 o' : Option Addr} {c1 c2 c' : Nat} {L1 L2 : List Int} {d : Int} (g : Gr h0 h o1 c1 L1 o2 c2 L2) (w : Wf h) (fm : Fm No h0 h) (o : Ow h' 1 o' (L2.length + 1) c' (iV L2 ++ [.int .i64 d])) (f : Fm (At o2) h h') (n : ∀ x, At o' x → At o2 x ∨ h.size ≤ x) :
    Gr h0 h' o1 c1 L1 o' c' (L2 ++ [d]) ∧ Fm No h0 h' := by
  obtain ⟨g1, g2⟩ := grown fm g.n2 f n
  refine ⟨⟨g.n1, g2, g.w1.keep w f fun x hx hy => g.ne x hx hy, ?_, fun x hx hy => ?_⟩, g1⟩
  · rw [List.length_append]; simp only [iV, List.map_append]; exact o
  · rcases n x hy with h1 | h1
    · exact g.ne x hx h1
    · have := g.w1.lt w x hx; omega
theorem c_EqInts {h : Hp} {a b : Option Addr} {c d : Nat} {L : List Int} (ra : Rd h 1 a L.length (iV L)) (rb : Rd h 1 b L.length (iV L)) (hn : L.length ≤ 1000000) :
    ACalls Try.prog 17 [.slice a L.length c, .slice b L.length d] h fun v h' => v = .bool true ∧ h' = h := by
  refine dioramaref00_EqInts_ok.snd Af.hm rfl fun w => ?_
  rw [WF_eq, dioramaref00_EqInts]
  simp +contextual (disch := omega) only [↓AM, ↓AV, AP, CQ, eqI_self]
  refine WL.mk (fun k u h' => ∃ i : Nat, h' = h ∧ i ≤ L.length ∧ k = L.length - i ∧ u = [(0, some (.slice a L.length c)), (1, some (.slice b L.length d)), (5, some (.int .i64 (i : Int)))]) ⟨L.length, 0, rfl, by omega, rfl, rfl⟩ ?_
  rintro k u _ ⟨i, rfl, hi, rfl, rfl⟩
  by_cases hin : i < L.length
  · obtain ⟨b1, o1, s1, rfl, f1, x, hx, r1⟩ := Rd.int ra hin
    obtain ⟨b2, o2, s2, rfl, f2, y, hy, r2⟩ := Rd.int rb hin
    rw [hx] at hy
    cases hy
    simp +contextual (disch := omega) only [↓AM, ↓AV, AP, CQ, hin, f1, f2, r1, r2, eqI_self, i64]
    first
      | exact ⟨L.length - (i + 1), by omega, i + 1, by omega, rfl⟩
      | exact ⟨L.length - (i + 1), by omega, i + 1, by omega, rfl, rfl⟩
      | exact ⟨L.length - (i + 1), by omega, i + 1, rfl, by omega, rfl, rfl⟩
  · simp +contextual (disch := omega) only [↓AM, ↓AV, AP, CQ, hin]
end Go.Proofs.Ytikbdeobghoglaa.St

/- What the program's client takes. Plain theorems over the abstract machine.
   Conditions: none. -/
namespace Go.Proofs.Ytikbdeobghoglaa.St
open Go Go.RowKit Go.Proofs.Ytikbdeobghoglaa.Am Go.Proofs.Ytikbdeobghoglaa.Af Go.Proofs.Ytikbdeobghoglaa.Md Go.Proofs.Ytikbdeobghoglaa.Nu
set_option linter.unusedVariables false
set_option linter.unusedSimpArgs false
set_option linter.defProp false
set_option maxRecDepth 20000
set_option maxHeartbeats 1000000

theorem cmpZ_ge {a b : Int} : (0 ≤ cmpZ a b) = (b ≤ a) := by
  unfold cmpZ
  split
  · simp; omega
  · split <;> simp <;> omega
/-- What comes of following. -/
structure FolP (s : List Sg) (keep : Int) (ts : List Tim) (L1 L2 : List Int) (e : Int) : Prop where
  bad : ¬ TOK ts → e = 4 ∧ L1 = [] ∧ L2 = []
  err : TOK ts → er s (0, 1) keep ≠ 0 → e = er s (0, 1) keep ∧ L1 = [] ∧ L2 = []
  ok : TOK ts → er s (0, 1) keep = 0 → e = 0 ∧ L1 = (fol s keep ts).1 ∧ L2 = (fol s keep ts).2.1
theorem FolP.same {s : List Sg} {keep : Int} {ts : List Tim} {L1 L2 M1 M2 : List Int} {e f : Int} (a : FolP s keep ts L1 L2 e) (b : FolP s keep ts M1 M2 f) : L1 = M1 ∧ L2 = M2 ∧ e = f := by
  rcases Classical.em (TOK ts) with h | h
  · rcases Classical.em (er s (0, 1) keep = 0) with h2 | h2
    · obtain ⟨a1, a2, a3⟩ := a.ok h h2
      obtain ⟨b1, b2, b3⟩ := b.ok h h2
      exact ⟨by rw [a2, b2], by rw [a3, b3], by rw [a1, b1]⟩
    · obtain ⟨a1, a2, a3⟩ := a.err h h2
      obtain ⟨b1, b2, b3⟩ := b.err h h2
      exact ⟨by rw [a2, b2], by rw [a3, b3], by rw [a1, b1]⟩
  · obtain ⟨a1, a2, a3⟩ := a.bad h
    obtain ⟨b1, b2, b3⟩ := b.bad h
    exact ⟨by rw [a2, b2], by rw [a3, b3], by rw [a1, b1]⟩
theorem er_all {s : List Sg} {keep : Int} {t u : Tim} (h : er s t keep = 0) (hu : VT u) : er s u keep = 0 := by
  unfold er at h ⊢
  by_cases q : VT t ∧ ∀ x ∈ s, SO x
  · rw [if_pos q] at h
    rw [if_pos ⟨hu, q.2⟩]
    exact h
  · rw [if_neg q] at h; omega
theorem er_cond {s : List Sg} {keep : Int} {t : Tim} (he : er s t keep = 0) : (VT t ∧ ∀ x ∈ s, SO x) ∧ (1 ≤ keep ∧ keep ≤ 60) := by
  unfold er at he
  by_cases q : VT t ∧ ∀ x ∈ s, SO x
  · rw [if_pos q] at he
    by_cases q2 : 1 ≤ keep ∧ keep ≤ 60
    · exact ⟨q, q2⟩
    · rw [if_neg q2] at he; omega
  · rw [if_neg q] at he; omega
theorem tok_bad {ts : List Tim} {i : Nat} {t : Tim} (h : ts[i]? = some t) (hb : ¬ VT t) : ¬ TOK ts := fun q => hb (q i t h).1
theorem tok_bad2 {ts : List Tim} {i : Nat} {t u : Tim} (h : ts[i]? = some t) (hi : 0 < i) (hu : ts[i - 1]? = some u) (hb : ¬ u.1 * t.2 < t.1 * u.2) : ¬ TOK ts := fun q => hb ((q i t h).2 u hi hu)
theorem c_Follow {h : Hp} {oa ta : Option Addr} {c d : Nat} {s : List Sg} {ts : List Tim} {keep : Int} (ha : Rd h 7 oa s.length (s.flatMap segC)) (ht : Rd h 2 ta ts.length (ts.flatMap timC)) (hn : s.length ≤ 1000000) (hm : ts.length ≤ 1000000) (hnum : ∀ x ∈ s, 1 ≤ x.1 ∧ x.1 ≤ 1000000) :
    ACalls Try.prog 15 [.slice oa s.length c, .slice ta ts.length d, .int .i64 keep] h fun v h' => Fm No h h' ∧ ∃ o1 c1 o2 c2 L1 L2 e, v = .tuple #[.slice o1 L1.length c1, .slice o2 L2.length c2, .int .i64 e] ∧ Rd h' 1 o1 L1.length (iV L1) ∧ Rd h' 1 o2 L2.length (iV L2) ∧ FolP s keep ts L1 L2 e := by
  refine stream_Follow_ok.snd Af.hm rfl fun w => ?_
  rw [WF_eq, stream_Follow]
  simp +contextual (disch := omega) only [↓AM, ↓AV, AP, CQ]
  have bad : ∀ g : Hp, Fm No h g → ¬ TOK ts → Fm No h g ∧ ∃ o1 c1 o2 c2 L1 L2 e, Value.tuple #[.slice none 0 0, .slice none 0 0, .int .i64 4] = .tuple #[.slice o1 L1.length c1, .slice o2 L2.length c2, .int .i64 e] ∧ Rd g 1 o1 L1.length (iV L1) ∧ Rd g 1 o2 L2.length (iV L2) ∧ FolP s keep ts L1 L2 e :=
    fun g fg hb => ⟨fg, none, 0, none, 0, [], [], 4, rfl, Rd.mk0, Rd.mk0, fun _ => ⟨rfl, rfl, rfl⟩, fun q => absurd q hb, fun q => absurd q hb⟩
  refine WL.mk (fun k u h' => ∃ i : Nat, Wf h' ∧ Fm No h h' ∧ i ≤ ts.length ∧ k = ts.length - i ∧ (∀ (j : Nat) (t : Tim), j < i → ts[j]? = some t → VT t ∧ ∀ u, 0 < j → ts[j - 1]? = some u → u.1 * t.2 < t.1 * u.2) ∧
      u = [(0, some (.slice oa s.length c)), (1, some (.slice ta ts.length d)), (2, some (.int .i64 keep)), (23, some (.slice ta ts.length d)), (24, some (.int .i64 (ts.length : Int))), (25, some (.int .i64 (i : Int)))]) ⟨ts.length, 0, w, Fm.refl, by omega, rfl, fun j t hj => by omega, rfl⟩ ?_
  rintro k u h2 ⟨i, w2, f2, hi, rfl, hall, rfl⟩
  by_cases hin : i < ts.length
  · obtain ⟨b1, o1, s1, t, rfl, g1, hx, r1, -⟩ := (ht.keepW w f2 nNo).elem timC_len rfl hin
    obtain ⟨hA, eA⟩ : ∃ g, h2.new ⟨timC t, .own⟩ = g := ⟨_, rfl⟩
    have wA : Wf hA := eA ▸ w2.new
    have fA : Fm No h2 hA := eA ▸ Fm.new Fm.refl
    have f2A := f2.trans fA fun _ _ f => f
    have gA : hA.get h2.size = some ⟨[.int .i64 t.1, .int .i64 t.2], .own⟩ := eA ▸ gnew
    have rds : ∀ g : Hp, Fm No hA g → g.rdN h2.size 0 2 = some [.int .i64 t.1, .int .i64 t.2] := fun g fg => rdN_mk (fg.keep wA gA (fun f => f)) (by simp)
    have nA := rds hA Fm.refl
    simp only [timC] at r1 eA
    simp +contextual (disch := omega) only [↓AM, ↓AV, AP, CQ, hin, g1, r1, eA, nA]
    refine (c_Valid (x := t)).use ?_
    rintro _ h3 w3 ⟨rfl, f3⟩
    have f23 := f2A.trans f3 fun _ _ f => f
    by_cases hv : VT t
    case neg =>
      simp +contextual (disch := omega) only [↓AM, ↓AV, AP, CQ, eA, hv]
      exact bad h3 f23 (tok_bad hx hv)
    have n3 := rds h3 f3
    cases i with
    | zero =>
      have e6 : ((0 : Int) < ((0 : Nat) : Int)) = False := by simp
      simp +contextual (disch := omega) only [↓AM, ↓AV, AP, CQ, eA, hv, e6, i64]
      refine ⟨ts.length - 1, by omega, 1, w3, f23, by omega, rfl, fun j t' hj ht' => ?_, rfl⟩
      have : j = 0 := by omega
      subst this
      rw [hx] at ht'
      cases ht'
      exact ⟨hv, fun u h0 => by omega⟩
    | succ i =>
      have e6 : ((0 : Int) < (((i + 1 : Nat)) : Int)) = True := eq_true (by omega)
      obtain ⟨b2, o2, s2, y, e, g2, hy, q1, -⟩ := (ht.keepW w f23 nNo).elem timC_len rfl (show i < ts.length by omega)
      cases e
      have hin2 : i < ts.length := by omega
      have hvy := (hall i y (by omega) hy).1
      simp only [timC] at q1
      simp +contextual (disch := omega) only [↓AM, ↓AV, AP, CQ, eA, hv, e6, i64, hin2, g1, q1, n3]
      refine (c_CmpT (x := y) (y := t)).use ?_
      rintro _ h4 w4 ⟨rfl, f4⟩
      rw [if_pos ⟨hvy, hv⟩, if_pos ⟨hvy, hv⟩]
      have f24 := f23.trans f4 fun _ _ f => f
      by_cases hge : t.1 * y.2 ≤ y.1 * t.2
      · simp +contextual (disch := omega) only [↓AM, ↓AV, AP, CQ, eA, cmpZ_ge, hge]
        exact bad h4 f24 (tok_bad2 hx (by omega) (by simpa using hy) (by omega))
      · simp +contextual (disch := omega) only [↓AM, ↓AV, AP, CQ, eA, cmpZ_ge, hge, i64]
        refine ⟨ts.length - (i + 1 + 1), by omega, i + 1 + 1, w4, f24, by omega, rfl, fun j t' hj ht' => ?_, rfl⟩
        rcases Nat.lt_or_ge j (i + 1) with hlt | hge'
        · exact hall j t' hlt ht'
        · have : j = i + 1 := by omega
          subst this
          rw [hx] at ht'
          cases ht'
          refine ⟨hv, fun u h0 hu => ?_⟩
          rw [show i + 1 - 1 = i by omega, hy] at hu
          cases hu
          omega
  have htok : TOK ts := fun j t hj => hall j t (by have := (List.getElem?_eq_some_iff.1 hj).1; omega) hj
  simp +contextual (disch := omega) only [↓AM, ↓AV, AP, CQ, hin]
  refine (c_there (t := (0, 1)) (keep := keep) (ha.keepW w f2 nNo) hn).use ?_
  rintro _ h3 w3 ⟨f3, a', c', rfl, -⟩
  have f23 := f2.trans f3 fun _ _ f => f
  by_cases he : er s (0, 1) keep = 0
  case neg =>
    have e1 : EqI (er s (0, 1) keep) 0 = False := eq_false he
    simp +contextual (disch := omega) only [↓AM, ↓AV, AP, CQ, e1]
    exact ⟨f23, none, 0, none, 0, [], [], _, rfl, Rd.mk0, Rd.mk0, fun q => absurd htok q, fun _ _ => ⟨rfl, rfl, rfl⟩, fun _ q => absurd q he⟩
  have e1 : EqI (er s (0, 1) keep) 0 = True := eq_true he
  simp +contextual (disch := omega) only [↓AM, ↓AV, AP, CQ, e1]
  refine WL.mk (fun k u h' => ∃ (i : Nat) (p1 : Option Addr) (q1 : Nat) (p2 : Option Addr) (q2 : Nat), Wf h' ∧ Fm No h h' ∧ i ≤ ts.length ∧ k = ts.length - i ∧ Gr h h' p1 q1 (fol s keep (ts.take i)).1 p2 q2 (fol s keep (ts.take i)).2.1 ∧
      u = [(0, some (.slice oa s.length c)), (2, some (.int .i64 keep)), (15, some (.slice p1 (fol s keep (ts.take i)).1.length q1)), (16, some (.slice p2 (fol s keep (ts.take i)).2.1.length q2)), (17, some (.int .i64 (fol s keep (ts.take i)).2.2)), (58, some (.slice ta ts.length d)), (59, some (.int .i64 (ts.length : Int))), (60, some (.int .i64 (i : Int)))])
    ⟨ts.length, 0, none, 0, none, 0, w3, f23, by omega, rfl, by simp [fol]; exact Gr.mk0, by simp [fol]⟩ ?_
  rintro k u h4 ⟨i, p1, q1, p2, q2, w4, f4, hi, rfl, gr, rfl⟩
  have fok := fol_ok (keep := keep) hnum ts i
  by_cases hin : i < ts.length
  case neg =>
    have hie : i = ts.length := by omega
    have ets : ts.take i = ts := List.take_of_length_le (by omega)
    rw [ets] at gr ⊢
    simp +contextual (disch := omega) only [↓AM, ↓AV, AP, CQ, hin]
    exact ⟨f4, p1, q1, p2, q2, _, _, 0, rfl, gr.w1.rd, gr.w2.rd, fun q => absurd htok q, fun _ q => absurd he q, fun _ _ => ⟨rfl, rfl, rfl⟩⟩
  obtain ⟨b1, o1, s1, t, rfl, g1, hx, r1, -⟩ := (ht.keepW w f4 nNo).elem timC_len rfl hin
  have hv := (htok i t hx).1
  have het := er_all he hv
  have efs : fol s keep (ts.take (i + 1)) = fstep s keep (fol s keep (ts.take i)) t := by rw [List.take_add_one, hx, Option.toList_some, fol_snoc]
  have fok1 := fol_ok (keep := keep) hnum ts (i + 1)
  rw [efs] at fok1
  generalize hz : fol s keep (ts.take i) = z at *
  obtain ⟨L1, L2, last⟩ := z
  simp only at gr fok efs fok1 ⊢
  have hl0 : 0 ≤ last ∧ last ≤ 1000000 := fok.nn
  have hL1 : L1.length ≤ i := fok.l1
  have hL2 : L2.length ≤ i := fok.l2
  obtain ⟨hA, eA⟩ : ∃ g, h4.new ⟨timC t, .own⟩ = g := ⟨_, rfl⟩
  have wA : Wf hA := eA ▸ w4.new
  have fA : Fm No h4 hA := eA ▸ Fm.new Fm.refl
  have f4A := f4.trans fA fun _ _ f => f
  have nA : hA.rdN h4.size 0 2 = some [.int .i64 t.1, .int .i64 t.2] := by rw [← eA]; exact rd_n2
  simp only [timC] at r1 eA
  simp +contextual (disch := omega) only [↓AM, ↓AV, AP, CQ, hin, g1, r1, eA, nA]
  refine (c_Next (t := t) (keep := keep) (last := last) (ha.keepW w f4A nNo) hn hnum).use ?_
  rintro _ h5 w5 ⟨rfl, f5⟩
  have f45 := f4A.trans f5 fun _ _ f => f
  have gr5 := (gr.keep w4 fA).keep wA f5
  have hres : nxR (er s t keep) (win s t keep) last = .tuple #[.int .i64 (nxt (win s t keep) last).1, .int .i64 (nxt (win s t keep) last).2, .int .i64 0] := by
    unfold nxR; rw [if_pos het, if_neg (by omega)]
  rw [hres]
  have hfs : fstep s keep (L1, L2, last) t = if (nxt (win s t keep) last).2 = 1 then (L1, L2, last) else (L1 ++ [(nxt (win s t keep) last).1], (if (nxt (win s t keep) last).2 = 2 then L2 ++ [(L1.length : Int)] else L2), (nxt (win s t keep) last).1) := rfl
  rw [hfs] at efs
  generalize (nxt (win s t keep) last).1 = n at *
  generalize (nxt (win s t keep) last).2 = kk at *
  by_cases hk1 : kk = 1
  · have e2 : EqI kk 1 = True := eq_true hk1
    rw [if_pos hk1] at efs
    simp +contextual (disch := omega) only [↓AM, ↓AV, AP, CQ, eA, e2, i64]
    refine ⟨ts.length - (i + 1), by omega, i + 1, p1, q1, p2, q2, w5, f45, by omega, rfl, ?_, ?_⟩
    · rw [efs]; exact gr5
    · rw [efs]
  have e2 : EqI kk 1 = False := eq_false hk1
  rw [if_neg hk1] at efs
  by_cases hk2 : kk = 2
  · have e3 : EqI kk 2 = True := eq_true hk2
    rw [if_pos hk2] at efs
    simp +contextual (disch := omega) only [↓AM, ↓AV, AP, CQ, eA, e2, e3, i64]
    refine gr5.w2.push (m := 1) w5 rfl ?_ fun oa' cap' h6 o6 w6 f6 n6 => ?_
    · omega
    obtain ⟨gr6, f46⟩ := gr5.push2 (d := (L1.length : Int)) w5 f45 o6 f6 n6
    simp +contextual (disch := omega) only [↓AM, ↓AV, AP, CQ, eA, e2, e3, i64]
    refine gr6.w1.push (m := 1) w6 rfl ?_ fun ob' cbp h7 o7 w7 f7 n7 => ?_
    · omega
    obtain ⟨gr7, f47⟩ := gr6.push1 (d := n) w6 f46 o7 f7 n7
    simp +contextual (disch := omega) only [↓AM, ↓AV, AP, CQ, eA, e2, e3, i64]
    refine ⟨ts.length - (i + 1), by omega, i + 1, ob', cbp, oa', cap', w7, f47, by omega, rfl, ?_, ?_⟩
    · rw [efs]; exact gr7
    · rw [efs]; simp
  · have e3 : EqI kk 2 = False := eq_false hk2
    rw [if_neg hk2] at efs
    simp +contextual (disch := omega) only [↓AM, ↓AV, AP, CQ, eA, e2, e3, i64]
    refine gr5.w1.push (m := 1) w5 rfl ?_ fun ob' cbp h7 o7 w7 f7 n7 => ?_
    · omega
    obtain ⟨gr7, f47⟩ := gr5.push1 (d := n) w5 f45 o7 f7 n7
    simp +contextual (disch := omega) only [↓AM, ↓AV, AP, CQ, eA, e2, e3, i64]
    refine ⟨ts.length - (i + 1), by omega, i + 1, ob', cbp, p2, q2, w7, f47, by omega, rfl, ?_, ?_⟩
    · rw [efs]; exact gr7
    · rw [efs]; simp
end Go.Proofs.Ytikbdeobghoglaa.St

/- What the document's client takes. Plain theorems over the abstract machine.
   Conditions: none. -/
namespace Go.Proofs.Ytikbdeobghoglaa.St
open Go Go.RowKit Go.Proofs.Ytikbdeobghoglaa.Am Go.Proofs.Ytikbdeobghoglaa.Af Go.Proofs.Ytikbdeobghoglaa.Md Go.Proofs.Ytikbdeobghoglaa.Nu
set_option linter.unusedVariables false
set_option linter.unusedSimpArgs false
set_option linter.defProp false
set_option maxRecDepth 20000
set_option maxHeartbeats 1000000

theorem c_rFollow {h : Hp} {oa ta : Option Addr} {c d : Nat} {s : List Sg} {ts : List Tim} {keep : Int} (ha : Rd h 7 oa s.length (s.flatMap segC)) (ht : Rd h 2 ta ts.length (ts.flatMap timC)) (hn : s.length ≤ 1000000) (hm : ts.length ≤ 1000000) (hnum : ∀ x ∈ s, 1 ≤ x.1 ∧ x.1 ≤ 1000000) (rise : Rise s) :
    ACalls Try.prog 16 [.slice oa s.length c, .slice ta ts.length d, .int .i64 keep] h fun v h' => Fm No h h' ∧ ∃ o1 c1 o2 c2 L1 L2 e, v = .tuple #[.slice o1 L1.length c1, .slice o2 L2.length c2, .int .i64 e] ∧ Rd h' 1 o1 L1.length (iV L1) ∧ Rd h' 1 o2 L2.length (iV L2) ∧ FolP s keep ts L1 L2 e := by
  refine dioramaref27_Follow_ok.snd Af.hm rfl fun w => ?_
  rw [WF_eq, dioramaref27_Follow]
  simp +contextual (disch := omega) only [↓AM, ↓AV, AP, CQ]
  have bad : ∀ g : Hp, Fm No h g → ¬ TOK ts → Fm No h g ∧ ∃ o1 c1 o2 c2 L1 L2 e, Value.tuple #[.slice none 0 0, .slice none 0 0, .int .i64 4] = .tuple #[.slice o1 L1.length c1, .slice o2 L2.length c2, .int .i64 e] ∧ Rd g 1 o1 L1.length (iV L1) ∧ Rd g 1 o2 L2.length (iV L2) ∧ FolP s keep ts L1 L2 e :=
    fun g fg hb => ⟨fg, none, 0, none, 0, [], [], 4, rfl, Rd.mk0, Rd.mk0, fun _ => ⟨rfl, rfl, rfl⟩, fun q => absurd q hb, fun q => absurd q hb⟩
  refine WL.mk (fun k u h' => ∃ i : Nat, Wf h' ∧ Fm No h h' ∧ i ≤ ts.length ∧ k = ts.length - i ∧ (∀ (j : Nat) (t : Tim), j < i → ts[j]? = some t → VT t ∧ ∀ u, 0 < j → ts[j - 1]? = some u → u.1 * t.2 < t.1 * u.2) ∧
      u = [(0, some (.slice oa s.length c)), (1, some (.slice ta ts.length d)), (2, some (.int .i64 keep)), (9, some (.int .i64 (i : Int)))]) ⟨ts.length, 0, w, Fm.refl, by omega, rfl, fun j t hj => by omega, rfl⟩ ?_
  rintro k u h2 ⟨i, w2, f2, hi, rfl, hall, rfl⟩
  by_cases hin : i < ts.length
  · obtain ⟨b1, o1, s1, t, rfl, g1, hx, r1, -⟩ := (ht.keepW w f2 nNo).elem timC_len rfl hin
    simp only [timC] at r1
    simp +contextual (disch := omega) only [↓AM, ↓AV, AP, CQ, hin, g1, r1]
    refine (c_VTime (x := t)).use ?_
    rintro _ h3 w3 ⟨rfl, f3⟩
    have f23 := f2.trans f3 fun _ _ f => f
    have r13 := (rdN_keep (f3.get _ (rdN_wf w2 r1) (fun f => f)) (off := o1 + i * 2) (m := 2)).trans r1
    by_cases hv : VT t
    case neg =>
      simp +contextual (disch := omega) only [↓AM, ↓AV, AP, CQ, hin, g1, r13, hv]
      exact bad h3 f23 (tok_bad hx hv)
    cases i with
    | zero =>
      have e6 : ((0 : Int) < ((0 : Nat) : Int)) = False := by simp
      simp +contextual (disch := omega) only [↓AM, ↓AV, AP, CQ, hin, g1, r13, hv, e6, i64]
      refine ⟨ts.length - 1, by omega, 1, w3, f23, by omega, rfl, fun j t' hj ht' => ?_, rfl⟩
      have : j = 0 := by omega
      subst this
      rw [hx] at ht'
      cases ht'
      exact ⟨hv, fun u h0 => by omega⟩
    | succ i =>
      have e6 : ((0 : Int) < (((i + 1 : Nat)) : Int)) = True := eq_true (by omega)
      obtain ⟨b2, o2, s2, y, e, g2, hy, q1, -⟩ := (ht.keepW w f23 nNo).elem timC_len rfl (show i < ts.length by omega)
      cases e
      have hin2 : i < ts.length := by omega
      have hvy := (hall i y (by omega) hy).1
      simp only [timC] at q1
      simp +contextual (disch := omega) only [↓AM, ↓AV, AP, CQ, hv, e6, i64, hin, hin2, g1, q1, r13]
      refine (c_OfT (x := y) hvy).use ?_
      rintro v1 h4 w4 ⟨l4, f4⟩
      have r14 := (rdN_keep (f4.get _ (rdN_wf w3 r13) (fun f => f)) (off := o1 + (i + 1) * 2) (m := 2)).trans r13
      have q14 := (rdN_keep (f4.get _ (rdN_wf w3 q1) (fun f => f)) (off := o1 + i * 2) (m := 2)).trans q1
      simp +contextual (disch := omega) only [↓AM, ↓AV, AP, CQ, r14, q14]
      refine ⟨⟨_, rfl, rfl⟩, ?_⟩
      refine (c_OfT (x := t) hv).use ?_
      rintro v2 h5 w5 ⟨l5, f5⟩
      simp +contextual (disch := omega) only [↓AM, ↓AV, AP, CQ]
      refine (c_CmpFT (x := y) (y := t) hvy hv (l4.kp (Kp.fm w4 f5)) l5).use ?_
      rintro _ h6 w6 ⟨rfl, f6⟩
      have f26 := ((f23.trans f4 fun _ _ f => f).trans f5 fun _ _ f => f).trans f6 fun _ _ f => f
      by_cases hge : t.1 * y.2 ≤ y.1 * t.2
      · simp +contextual (disch := omega) only [↓AM, ↓AV, AP, CQ, cmpZ_ge, hge]
        exact bad h6 f26 (tok_bad2 hx (by omega) (by simpa using hy) (by omega))
      · simp +contextual (disch := omega) only [↓AM, ↓AV, AP, CQ, cmpZ_ge, hge, i64]
        refine ⟨ts.length - (i + 1 + 1), by omega, i + 1 + 1, w6, f26, by omega, rfl, fun j t' hj ht' => ?_, rfl⟩
        rcases Nat.lt_or_ge j (i + 1) with hlt | hge'
        · exact hall j t' hlt ht'
        · have : j = i + 1 := by omega
          subst this
          rw [hx] at ht'
          cases ht'
          refine ⟨hv, fun u h0 hu => ?_⟩
          rw [show i + 1 - 1 = i by omega, hy] at hu
          cases hu
          omega
  have htok : TOK ts := fun j t hj => hall j t (by have := (List.getElem?_eq_some_iff.1 hj).1; omega) hj
  simp +contextual (disch := omega) only [↓AM, ↓AV, AP, CQ, hin]
  refine (c_rlive (t := (0, 1)) (keep := keep) (ha.keepW w f2 nNo) hn).use ?_
  rintro _ h3 w3 ⟨rfl, f3⟩
  have f23 := f2.trans f3 fun _ _ f => f
  by_cases he : er s (0, 1) keep = 0
  case neg =>
    have e1 : EqI (er s (0, 1) keep) 0 = False := eq_false he
    simp +contextual (disch := omega) only [↓AM, ↓AV, AP, CQ, e1]
    exact ⟨f23, none, 0, none, 0, [], [], _, rfl, Rd.mk0, Rd.mk0, fun q => absurd htok q, fun _ _ => ⟨rfl, rfl, rfl⟩, fun _ q => absurd q he⟩
  have e1 : EqI (er s (0, 1) keep) 0 = True := eq_true he
  have hcond := er_cond he
  simp +contextual (disch := omega) only [↓AM, ↓AV, AP, CQ, e1]
  refine WL.mk (fun k u h' => ∃ (i : Nat) (p1 : Option Addr) (q1 : Nat) (p2 : Option Addr) (q2 : Nat), Wf h' ∧ Fm No h h' ∧ i ≤ ts.length ∧ k = ts.length - i ∧ Gr h h' p1 q1 (fol s keep (ts.take i)).1 p2 q2 (fol s keep (ts.take i)).2.1 ∧
      u = [(0, some (.slice oa s.length c)), (1, some (.slice ta ts.length d)), (2, some (.int .i64 keep)), (11, some (.slice p1 (fol s keep (ts.take i)).1.length q1)), (12, some (.slice p2 (fol s keep (ts.take i)).2.1.length q2)), (13, some (.int .i64 (fol s keep (ts.take i)).2.2)), (14, some (.int .i64 (i : Int)))])
    ⟨ts.length, 0, none, 0, none, 0, w3, f23, by omega, rfl, by simp [fol]; exact Gr.mk0, by simp [fol]⟩ ?_
  rintro k u h4 ⟨i, p1, q1, p2, q2, w4, f4, hi, rfl, gr, rfl⟩
  have fok := fol_ok (keep := keep) hnum ts i
  by_cases hin : i < ts.length
  case neg =>
    have hie : i = ts.length := by omega
    have ets : ts.take i = ts := List.take_of_length_le (by omega)
    rw [ets] at gr ⊢
    simp +contextual (disch := omega) only [↓AM, ↓AV, AP, CQ, hin]
    exact ⟨f4, p1, q1, p2, q2, _, _, 0, rfl, gr.w1.rd, gr.w2.rd, fun q => absurd htok q, fun _ q => absurd he q, fun _ _ => ⟨rfl, rfl, rfl⟩⟩
  obtain ⟨b1, o1, s1, t, rfl, g1, hx, r1, -⟩ := (ht.keepW w f4 nNo).elem timC_len rfl hin
  have hv := (htok i t hx).1
  have het := er_all he hv
  have efs : fol s keep (ts.take (i + 1)) = fstep s keep (fol s keep (ts.take i)) t := by rw [List.take_add_one, hx, Option.toList_some, fol_snoc]
  have fok1 := fol_ok (keep := keep) hnum ts (i + 1)
  rw [efs] at fok1
  generalize hz : fol s keep (ts.take i) = z at *
  obtain ⟨L1, L2, last⟩ := z
  simp only at gr fok efs fok1 ⊢
  have hl0 : 0 ≤ last ∧ last ≤ 1000000 := fok.nn
  have hL1 : L1.length ≤ i := fok.l1
  have hL2 : L2.length ≤ i := fok.l2
  simp only [timC] at r1
  simp +contextual (disch := omega) only [↓AM, ↓AV, AP, CQ, hin, g1, r1]
  refine (c_rthere (t := t) (keep := keep) (ha.keepW w f4 nNo) hn hv hcond.1.2 hcond.2).use ?_
  rintro _ h5 w5 ⟨f5, a', c', rfl, hr⟩
  have f45 := f4.trans f5 fun _ _ f => f
  have gr5 := gr.keep w4 f5
  have hwl := win_len s t keep
  have hmem : ∀ x ∈ win s t keep, 1 ≤ x.1 ∧ x.1 ≤ 1000000 := fun x hx => hnum x (win_mem hx).1
  have riseR : Rise (win s t keep) := by
    unfold Rise win thr
    exact (rise.sublist List.filter_sublist).sublist (List.drop_sublist _ _)
  simp +contextual (disch := omega) only [↓AM, ↓AV, AP, CQ]
  refine (c_rnext (last := last) hr (by omega) hmem riseR (by omega)).use ?_
  rintro _ h6 w6 ⟨rfl, rfl⟩
  have hfs : fstep s keep (L1, L2, last) t = if (nxt (win s t keep) last).2 = 1 then (L1, L2, last) else (L1 ++ [(nxt (win s t keep) last).1], (if (nxt (win s t keep) last).2 = 2 then L2 ++ [(L1.length : Int)] else L2), (nxt (win s t keep) last).1) := rfl
  rw [hfs] at efs
  generalize (nxt (win s t keep) last).1 = n at *
  generalize (nxt (win s t keep) last).2 = kk at *
  by_cases hk1 : kk = 1
  · have e2 : EqI kk 1 = True := eq_true hk1
    rw [if_pos hk1] at efs
    simp +contextual (disch := omega) only [↓AM, ↓AV, AP, CQ, e2, i64]
    refine ⟨ts.length - (i + 1), by omega, i + 1, p1, q1, p2, q2, w5, f45, by omega, rfl, ?_, ?_⟩
    · rw [efs]; exact gr5
    · rw [efs]
  have e2 : EqI kk 1 = False := eq_false hk1
  rw [if_neg hk1] at efs
  by_cases hk2 : kk = 2
  · have e3 : EqI kk 2 = True := eq_true hk2
    rw [if_pos hk2] at efs
    simp +contextual (disch := omega) only [↓AM, ↓AV, AP, CQ, e2, e3, i64]
    refine gr5.w2.push (m := 1) w5 rfl ?_ fun oa' cap' h6 o6 w6 f6 n6 => ?_
    · omega
    obtain ⟨gr6, f46⟩ := gr5.push2 (d := (L1.length : Int)) w5 f45 o6 f6 n6
    simp +contextual (disch := omega) only [↓AM, ↓AV, AP, CQ, e2, e3, i64]
    refine gr6.w1.push (m := 1) w6 rfl ?_ fun ob' cbp h7 o7 w7 f7 n7 => ?_
    · omega
    obtain ⟨gr7, f47⟩ := gr6.push1 (d := n) w6 f46 o7 f7 n7
    simp +contextual (disch := omega) only [↓AM, ↓AV, AP, CQ, e2, e3, i64]
    refine ⟨ts.length - (i + 1), by omega, i + 1, ob', cbp, oa', cap', w7, f47, by omega, rfl, ?_, ?_⟩
    · rw [efs]; exact gr7
    · rw [efs]; simp
  · have e3 : EqI kk 2 = False := eq_false hk2
    rw [if_neg hk2] at efs
    simp +contextual (disch := omega) only [↓AM, ↓AV, AP, CQ, e2, e3, i64]
    refine gr5.w1.push (m := 1) w5 rfl ?_ fun ob' cbp h7 o7 w7 f7 n7 => ?_
    · omega
    obtain ⟨gr7, f47⟩ := gr5.push1 (d := n) w5 f45 o7 f7 n7
    simp +contextual (disch := omega) only [↓AM, ↓AV, AP, CQ, e2, e3, i64]
    refine ⟨ts.length - (i + 1), by omega, i + 1, ob', cbp, p2, q2, w7, f47, by omega, rfl, ?_, ?_⟩
    · rw [efs]; exact gr7
    · rw [efs]; simp
end Go.Proofs.Ytikbdeobghoglaa.St

/- The law StreamFollows: the segments that a client takes at any times. The walk over the abstract machine.
   Conditions: none. -/
namespace Go.Proofs.Ytikbdeobghoglaa.LStreamFollows
open Go Go.RowKit Go.Proofs.Ytikbdeobghoglaa.Am Go.Proofs.Ytikbdeobghoglaa.Af Go.Proofs.Ytikbdeobghoglaa.Md Go.Proofs.Ytikbdeobghoglaa.Nu Go.Proofs.Ytikbdeobghoglaa.St
set_option linter.unusedVariables false
set_option linter.unusedSimpArgs false
set_option maxRecDepth 20000
set_option maxHeartbeats 2000000

theorem tim_open {h : Hp} (x : Int × Int) (cs : List Value) (a : (AKd.pair (AKd.int .i64) (AKd.int .i64)).A h x cs) : cs = timC x := by
  obtain ⟨c1, c2, rfl, a1, a2⟩ := a
  have a1 : c1 = [.int .i64 x.1] := a1
  have a2 : c2 = [.int .i64 x.2] := a2
  rw [a1, a2]; rfl
theorem _root_.Go.Proofs.Ytikbdeobghoglaa.St.FolP.up {s : List Sg} {keep : Int} {ts : List Tim} {L1 L2 : List Int} {e : Int} (f : FolP s keep ts L1 L2 e) (hnum : ∀ x ∈ s, 1 ≤ x.1 ∧ x.1 ≤ 1000000) : (L1.Pairwise fun x y => x < y) ∧ L1.length ≤ ts.length ∧ L2.length ≤ ts.length := by
  have ok := fol_ok (keep := keep) hnum ts ts.length
  rw [List.take_of_length_le (Nat.le_refl _)] at ok
  rcases Classical.em (TOK ts) with h | h
  · rcases Classical.em (er s (0, 1) keep = 0) with h2 | h2
    · obtain ⟨a1, a2, a3⟩ := f.ok h h2
      rw [a2, a3]
      exact ⟨ok.up, ok.l1, ok.l2⟩
    · obtain ⟨a1, a2, a3⟩ := f.err h h2
      rw [a2, a3]
      exact ⟨by simp, by simp, by simp⟩
  · obtain ⟨a1, a2, a3⟩ := f.bad h
    rw [a2, a3]
    exact ⟨by simp, by simp, by simp⟩
theorem walk {h : Hp} (x0 : (List (Int × ((Int × Int) × (Int × Int)) × (List Int) × Bool))) (u0 : Value) (x1 : (List (Int × Int))) (u1 : Value) (x2 : Int) (A0 : (AKd.slice (AKd.pair (AKd.int .i64) (AKd.pair (AKd.pair (AKd.pair (AKd.int .i64) (AKd.int .i64)) (AKd.pair (AKd.int .i64) (AKd.int .i64))) (AKd.pair (AKd.slice (AKd.int .u8)) AKd.bool)))).A h x0 [u0]) (w0 : x0.length * Try.prog.bytesOf 70 ≤ 140737488351232 ∧ ∀ x ∈ x0, ((Lit.int .i64 x.1).wf = true) ∧ ((((Lit.int .i64 x.2.1.1.1).wf = true) ∧ ((Lit.int .i64 x.2.1.1.2).wf = true)) ∧ (((Lit.int .i64 x.2.1.2.1).wf = true) ∧ ((Lit.int .i64 x.2.1.2.2).wf = true))) ∧ (x.2.2.1.length * Try.prog.bytesOf 5 ≤ 140737488351232 ∧ ∀ y ∈ x.2.2.1, (Lit.int .u8 y).wf = true) ∧ (True)) (A1 : (AKd.slice (AKd.pair (AKd.int .i64) (AKd.int .i64))).A h x1 [u1]) (w1 : x1.length * Try.prog.bytesOf 24 ≤ 140737488351232 ∧ ∀ x ∈ x1, ((Lit.int .i64 x.1).wf = true) ∧ ((Lit.int .i64 x.2).wf = true)) (w2 : (Lit.int .i64 x2).wf = true) : ACalls Try.prog 4 [u0, u1, .int .i64 x2] h fun v h' => v = .bool true := by
  obtain ⟨oa, c, r, e0, rd, row, hc⟩ := A0
  have e0 : u0 = .slice oa x0.length c := by injection e0
  subst e0
  obtain ⟨ta, d, r2, e1, rt, row2, hd⟩ := A1
  have e1 : u1 = .slice ta x1.length d := by injection e1
  subst e1
  obtain ⟨s, rfl, hs⟩ := segs_open row
  have er2 := row_flat tim_open row2
  subst er2
  have hb : Nat.ble 1 (Try.prog.bytesOf 70) = true := by kernel_rfl
  have hb := Nat.le_of_ble_eq_true hb
  have hn0 : x0.length ≤ 140737488351232 := Nat.le_trans (Nat.le_mul_of_pos_right _ hb) w0.1
  clear w0 w1
  have rd : Rd h 7 oa x0.length (s.flatMap segC) := rd
  have rt : Rd h 2 ta x1.length (x1.flatMap timC) := rt
  rw [← hs] at rd hn0 ⊢
  generalize x1 = ts at *
  refine dioramalaw27_StreamFollows_ok.snd hm rfl fun w => ?_
  show WF _ dioramalaw27_StreamFollows [.slice oa s.length c, .slice ta ts.length d, .int .i64 x2] h _
  rw [WF_eq, dioramalaw27_StreamFollows]
  simp +contextual (disch := omega) only [↓AM, ↓AV, AP, CQ]
  refine (c_live rd (by omega)).use ?_
  rintro _ h1 w1 ⟨f1, b, rfl, hbb⟩
  have aw : ∀ g : Hp, True := fun _ => trivial
  cases b with
  | false =>
    simp +contextual (disch := omega) only [↓AM, ↓AV, AP, CQ]
    refine c_awake.use ?_
    rintro _ _ w8 ⟨rfl, rfl⟩
    simp +contextual (disch := omega) only [↓AM, ↓AV, AP, CQ]
  | true =>
    obtain ⟨hn, hnums, hval⟩ := hbb rfl
    have hn : s.length ≤ 1000000 := by omega
    have hnum := hnums.bound hn
    by_cases hm : (100 : Int) < (ts.length : Int)
    · simp +contextual (disch := omega) only [↓AM, ↓AV, AP, CQ, hm]
      refine c_awake.use ?_
      rintro _ _ w8 ⟨rfl, rfl⟩
      simp +contextual (disch := omega) only [↓AM, ↓AV, AP, CQ]
    simp +contextual (disch := omega) only [↓AM, ↓AV, AP, CQ, hm]
    refine (c_Follow (keep := x2) (rd.keepW w f1 nNo) (rt.keepW w f1 nNo) hn (by omega) hnum).use ?_
    rintro _ h2 w2 ⟨f2, o1, c1, o2, c2, L1, L2, e, rfl, q1, q2, fp⟩
    have f12 := f1.trans f2 fun _ _ f => f
    simp +contextual (disch := omega) only [↓AM, ↓AV, AP, CQ]
    refine (c_rFollow (keep := x2) (rd.keepW w f12 nNo) (rt.keepW w f12 nNo) hn (by omega) hnum hnums.rise).use ?_
    rintro _ h3 w3 ⟨f3, o3, c3, o4, c4, M1, M2, e', rfl, q3, q4, fp'⟩
    obtain ⟨rfl, rfl, rfl⟩ := fp.same fp'
    obtain ⟨up, l1, l2⟩ := fp.up hnum
    have q1 := q1.keepW w2 f3 nNo
    have q2 := q2.keepW w2 f3 nNo
    simp +contextual (disch := omega) only [↓AM, ↓AV, AP, CQ, eqI_self]
    refine (c_EqInts q1 q3 (by omega)).use ?_
    rintro _ _ w4 ⟨rfl, rfl⟩
    simp +contextual (disch := omega) only [↓AM, ↓AV, AP, CQ, eqI_self]
    refine (c_EqInts q2 q4 (by omega)).use ?_
    rintro _ g w5 ⟨rfl, rfl⟩
    simp +contextual (disch := omega) only [↓AM, ↓AV, AP, CQ, eqI_self]
    refine WL.mk (fun k u h' => ∃ i : Nat, h' = g ∧ k = L1.length - i ∧ 1 ≤ i ∧ u = [(7, some (.slice o1 L1.length c1)), (13, some (.int .i64 (i : Int)))]) ⟨L1.length - 1, 1, rfl, rfl, Nat.le_refl _, rfl⟩ ?_
    rintro k u _ ⟨i, rfl, rfl, hi, rfl⟩
    by_cases hin : i < L1.length
    · obtain ⟨j, rfl⟩ : ∃ j, i = j + 1 := ⟨i - 1, by omega⟩
      obtain ⟨b1, p1, s1, rfl, g1, x, hx, r1⟩ := Rd.int q1 hin
      obtain ⟨b2, p2, s2, ee, g2, y, hy, r2⟩ := Rd.int q1 (show j < L1.length by omega)
      cases ee
      have hj : j < L1.length := by omega
      have hlt : ¬ x ≤ y := by
        have := List.pairwise_iff_getElem.1 up j (j + 1) hj hin (by omega)
        rw [List.getElem?_eq_getElem hj] at hy
        rw [List.getElem?_eq_getElem hin] at hx
        rw [← Option.some.inj hx, ← Option.some.inj hy]
        omega
      simp +contextual (disch := omega) only [↓AM, ↓AV, AP, CQ, hin, hj, g1, r1, r2, i64, hlt]
      exact ⟨L1.length - (j + 1 + 1), by omega, j + 1 + 1, rfl, by omega, rfl⟩
    · simp +contextual (disch := omega) only [↓AM, ↓AV, AP, CQ, hin]
      refine c_awake.use ?_
      rintro _ _ w8 ⟨rfl, rfl⟩
      simp +contextual (disch := omega) only [↓AM, ↓AV, AP, CQ]
end Go.Proofs.Ytikbdeobghoglaa.LStreamFollows
