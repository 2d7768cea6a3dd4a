/- The document's networks: when a request is complete, or the error. Plain theorems over the abstract machine.
   Conditions: none. -/
import Derived.Test.YtikbdeobghoglaaBun6
import Derived.Test.YtikbdeobghoglaaBun4
import Derived.Test.YtikbdeobghoglaaAmZb
import Derived.DataShut
namespace Go.Proofs.Ytikbdeobghoglaa.St
open Go Go.RowKit Go.Proofs.Ytikbdeobghoglaa.Am Go.Proofs.Ytikbdeobghoglaa.Af Go.Proofs.Ytikbdeobghoglaa.Md Go.Proofs.Ytikbdeobghoglaa.Nu
set_option linter.unusedVariables false
set_option linter.unusedSimpArgs false
set_option linter.defProp false
set_option maxRecDepth 20000
set_option maxHeartbeats 1000000

theorem neT_4 {net : List Nt} {t : Tim} {size : Int} (h : ¬ (VT t ∧ (∀ x ∈ net, NV x))) : neT net t size = 4 := by unfold neT; rw [if_neg h]
theorem neT_1 {net : List Nt} {t : Tim} {size : Int} (hv : VT t) (ha : ∀ x ∈ net, NV x) (h : ¬ (((0 ≤ size ∧ size ≤ 1048576) ∧ net.length ≤ 100 ∧ GE t 0) ∧ (∀ x ∈ net, NR x))) : neT net t size = 1 := by unfold neT; rw [if_pos ⟨hv, ha⟩, if_neg h]
theorem neT_z {net : List Nt} {t : Tim} {size : Int} (hv : VT t) (ha : ∀ x ∈ net, NV x) (h : ((0 ≤ size ∧ size ≤ 1048576) ∧ net.length ≤ 100 ∧ GE t 0) ∧ (∀ x ∈ net, NR x)) : neT net t size = 0 := by unfold neT; rw [if_pos ⟨hv, ha⟩, if_pos h]
theorem tf_err {net : List Nt} {t : Tim} {size e : Int} (h : neT net t size = e) (he : e ≠ 0) : tfN net t size = 0 ∧ tfD net t size = 0 ∧ tfE net t size = e := by
  unfold tfN tfD tfE
  rw [h, if_neg he, if_neg he, if_neg he]
  exact ⟨rfl, rfl, rfl⟩
theorem c_rTransfer {h : Hp} {oa : Option Addr} {c : Nat} {net : List Nt} {t : Tim} {size : Int} (ha : Rd h 5 oa net.length (net.flatMap ntC)) (hn : net.length ≤ 120) :
    ACalls Try.prog 19 [.slice oa net.length c, .agg #[.int .i64 t.1, .int .i64 t.2], .int .i64 size] h fun r h' => r = .tuple #[.agg #[.int .i64 (tfN net t size), .int .i64 (tfD net t size)], .int .i64 (tfE net t size)] ∧ Fm No h h' := by
  refine dioramaref27_Transfer_ok.snd Af.hm rfl fun w => ?_
  rw [WF_eq, dioramaref27_Transfer]
  obtain ⟨h0, e0⟩ : ∃ g, h.new ⟨[.int .i64 t.1, .int .i64 t.2], .own⟩ = g := ⟨_, rfl⟩
  have w0 : Wf h0 := e0 ▸ w.new
  have f0 : Fm No h h0 := e0 ▸ Fm.new Fm.refl
  have g0 : h0.get h.size = some ⟨[.int .i64 t.1, .int .i64 t.2], .own⟩ := e0 ▸ gnew
  have s0 : h0.size = h.size + 1 := by rw [← e0]; rfl
  obtain ⟨h1, e1⟩ : ∃ g, h0.new ⟨[.int .i64 0, .int .i64 0], .own⟩ = g := ⟨_, rfl⟩
  have w1 : Wf h1 := e1 ▸ w0.new
  have f1 : Fm No h0 h1 := e1 ▸ Fm.new Fm.refl
  have g1 : h1.get h0.size = some ⟨[.int .i64 0, .int .i64 0], .own⟩ := e1 ▸ gnew
  have g0 := f1.keep w0 g0 (fun f => f)
  have f01 : Fm No h h1 := f0.trans f1 fun _ _ f => f
  have rds : ∀ g : Hp, Fm No h1 g → g.rdN h.size 0 2 = some [.int .i64 t.1, .int .i64 t.2] ∧ g.get h0.size = some ⟨[.int .i64 0, .int .i64 0], .own⟩ ∧ g.rd h.size 0 = some (.int .i64 t.1) := fun g fg => ⟨rdN_mk (fg.keep w1 g0 (fun f => f)) (by simp), fg.keep w1 g1 (fun f => f), rd_mk (fg.keep w1 g0 (fun f => f))⟩
  have put : ∀ (g3 : Hp), Wf g3 → Fm No h1 g3 → ∀ cs : List Value, ∃ g, g3.put h0.size ⟨cs, .own⟩ = g ∧ g.get h0.size = some ⟨cs, .own⟩ ∧ Fm No h g := fun g3 wg fg cs =>
    ⟨_, rfl, gput, ((f01.trans fg fun _ _ f => f).trans (Fm.put (Fm.refl (F := fun x => x = h0.size)) fun _ => rfl) fun x hx e => absurd e (by omega))⟩
  obtain ⟨n1, n2, n3⟩ := rds h1 Fm.refl
  simp +contextual (disch := omega) only [↓AM, ↓AV, AP, CQ, CN, i64, e0, e1, n1, n2, n3]
  refine (c_VTime (x := t)).use ?_
  rintro _ h2 w2 ⟨rfl, f2⟩
  obtain ⟨n1, n2, n3⟩ := rds h2 f2
  by_cases hv : VT t
  case neg =>
    obtain ⟨t1, t2, t3⟩ := tf_err (neT_4 (size := size) (fun q : VT t ∧ (∀ x ∈ net, NV x) => hv q.1)) (by decide)
    obtain ⟨g, eg, gg, fg⟩ := put h2 w2 f2 [.int .i64 0, .int .i64 0]
    have rg : g.rdN h0.size 0 2 = some [.int .i64 0, .int .i64 0] := rdN_mk gg (by simp)
    rw [t1, t2, t3]
    simp +contextual (disch := omega) only [↓AM, ↓AV, AP, CQ, CN, i64, e0, e1, n1, n2, n3, hv, eg, rg]
    exact fg
  simp +contextual (disch := omega) only [↓AM, ↓AV, AP, CQ, CN, i64, e0, e1, n1, n2, n3, hv]
  have fh2 := f01.trans f2 fun _ _ f => f
  refine (c_network (ha.keepW w fh2 nNo) hn).use ?_
  rintro _ h3 w3 ⟨rfl, f3⟩
  have f13 := f2.trans f3 fun _ _ f => f
  have fh3 := f01.trans f13 fun _ _ f => f
  obtain ⟨n1, n2, n3⟩ := rds h3 f13
  by_cases hall : ∀ x ∈ net, NV x
  case neg =>
    have en : nwE net = 4 := by unfold nwE; rw [if_neg hall]
    obtain ⟨t1, t2, t3⟩ := tf_err (neT_4 (size := size) (fun q : VT t ∧ (∀ x ∈ net, NV x) => hall q.2)) (by decide)
    obtain ⟨g, eg, gg, fg⟩ := put h3 w3 f13 [.int .i64 0, .int .i64 0]
    have rg : g.rdN h0.size 0 2 = some [.int .i64 0, .int .i64 0] := rdN_mk gg (by simp)
    rw [t1, t2, t3, en]
    simp +contextual (disch := omega) only [↓AM, ↓AV, AP, CQ, CN, i64, e0, e1, n1, n2, n3, eg, rg]
    exact fg
  have en : nwE net = if net.length ≤ 100 ∧ (∀ x ∈ net, NR x) then 0 else 1 := by unfold nwE; rw [if_pos hall]
  have en4 : EqI (nwE net) 4 = False := by rw [en]; unfold EqI; refine eq_false ?_; split <;> omega
  simp +contextual (disch := omega) only [↓AM, ↓AV, AP, CQ, CN, i64, e0, e1, n1, n2, n3, en4]
  refine c_in.use ?_
  rintro _ h3 _ ⟨rfl, rfl⟩
  by_cases hgood : ((0 ≤ size ∧ size ≤ 1048576) ∧ net.length ≤ 100 ∧ GE t 0) ∧ (∀ x ∈ net, NR x)
  case neg =>
    obtain ⟨t1, t2, t3⟩ := tf_err (neT_1 hv hall hgood) (by decide)
    rw [t1, t2, t3]
    by_cases hs : 0 ≤ size ∧ size ≤ 1048576
    case neg =>
      obtain ⟨g, eg, gg, fg⟩ := put h3 w3 f13 [.int .i64 0, .int .i64 0]
      have rg : g.rdN h0.size 0 2 = some [.int .i64 0, .int .i64 0] := rdN_mk gg (by simp)
      simp +contextual (disch := omega) only [↓AM, ↓AV, AP, CQ, CN, i64, e0, e1, n1, n2, n3, hs, eg, rg]
      exact fg
    by_cases hneg : t.1 < 0
    · obtain ⟨g, eg, gg, fg⟩ := put h3 w3 f13 [.int .i64 0, .int .i64 0]
      have rg : g.rdN h0.size 0 2 = some [.int .i64 0, .int .i64 0] := rdN_mk gg (by simp)
      simp +contextual (disch := omega) only [↓AM, ↓AV, AP, CQ, CN, i64, e0, e1, n1, n2, n3, hs, hneg, eg, rg]
      exact fg
    simp +contextual (disch := omega) only [↓AM, ↓AV, AP, CQ, CN, i64, e0, e1, n1, n2, n3, hs, hneg]
    refine (c_wholeT hv).use ?_
    rintro _ h4 w4 ⟨rfl, f4⟩
    have f14 := f13.trans f4 fun _ _ f => f
    obtain ⟨n1, n2, n3⟩ := rds h4 f14
    obtain ⟨g, eg, gg, fg⟩ := put h4 w4 f14 [.int .i64 0, .int .i64 0]
    have rg : g.rdN h0.size 0 2 = some [.int .i64 0, .int .i64 0] := rdN_mk gg (by simp)
    by_cases hw : WH t
    · have en1 : nwE net = 1 := by rw [en, if_neg (fun q => hgood ⟨⟨hs, q.1, hw, by omega⟩, q.2⟩)]
      rw [en1]
      simp +contextual (disch := omega) only [↓AM, ↓AV, AP, CQ, CN, i64, e0, e1, n1, n2, n3, hw, eg, rg]
      exact fg
    · simp +contextual (disch := omega) only [↓AM, ↓AV, AP, CQ, CN, i64, e0, e1, n1, n2, n3, hw, eg, rg]
      exact fg
  have hE := neT_z hv hall hgood
  obtain ⟨⟨k3, k4, k5⟩, k6⟩ := hgood
  have en0 : nwE net = 0 := by rw [en, if_pos ⟨k4, k6⟩]
  have eN : tfN net t size = (match trn net (mi t) size with | none => 0 | some z => mtN z) := by unfold tfN; rw [if_pos hE]; rfl
  have eD : tfD net t size = (match trn net (mi t) size with | none => 0 | some z => mtD z) := by unfold tfD; rw [if_pos hE]; rfl
  have eE : tfE net t size = (match trn net (mi t) size with | none => 271 | some z => mtE z) := by unfold tfE; rw [if_pos hE]; rfl
  have hneg : ¬ t.1 < 0 := by have := k5.2; omega
  simp +contextual (disch := omega) only [↓AM, ↓AV, AP, CQ, CN, i64, e0, e1, n1, n2, n3, k3, hneg]
  refine (c_wholeT hv).use ?_
  rintro _ h4 w4 ⟨rfl, f4⟩
  have f14 := f13.trans f4 fun _ _ f => f
  obtain ⟨n1, n2, n3⟩ := rds h4 f14
  have hw := k5.1
  simp +contextual (disch := omega) only [↓AM, ↓AV, AP, CQ, CN, i64, e0, e1, n1, n2, n3, hw, en0]
  refine (c_OfM hv hw).use ?_
  rintro v h5 w5 ⟨lv, f5⟩
  have f15 := f14.trans f5 fun _ _ f => f
  have fh5 := f01.trans f15 fun _ _ f => f
  have bm1 := mi_bd hv
  have bm2 := mi_nn hv k5.2
  simp +contextual (disch := omega) only [↓AM, ↓AV, AP, CQ, CN, i64, e0, e1]
  refine (c_rtransfer (ha.keepW w fh5 nNo) k4 hall k6 lv (by omega) k3).use ?_
  rintro _ h6 w6 ⟨hor, f6⟩
  have f16 := f15.trans f6 fun _ _ f => f
  rcases hor with ⟨htr, v6, rfl, l6⟩ | ⟨z, v6, htr, rfl, l6⟩
  · have l6m := fv_0 l6
    obtain ⟨p, a, n, cc, q, m, d, rfl⟩ := mv_e l6m
    obtain ⟨h7, b9, e7, u7, F7, k7, -, -, -⟩ := (Fr.mk0 w6).new _ (st4 (b := false) (oa := none) (n := 0) (c := 0) (b' := false) (oa' := none) (n' := 0) (c' := 0))
    obtain ⟨⟨g9, -, -⟩, -⟩ := F7.facts
    obtain ⟨h8, e8, F8, k8, -⟩ := F7.put0 [.bool p, .slice a n cc, .bool false, .slice q m d] st4 rfl
    have f18 := f16.trans F8.fm fun _ _ f => f
    obtain ⟨n1, n2, n3⟩ := rds h8 f18
    obtain ⟨g, eg, gg, fg⟩ := put h8 F8.wf f18 [.int .i64 0, .int .i64 0]
    have rg : g.rdN h0.size 0 2 = some [.int .i64 0, .int .i64 0] := rdN_mk gg (by simp)
    rw [htr] at eN eD eE
    simp only at eN eD eE
    rw [eN, eD, eE]
    simp +contextual (disch := omega) only [↓AM, ↓AV, AP, CQ, CN, i64, e0, e1, e7, u7, g9, e8, n1, n2, n3, eg, rg]
    exact fg
  · obtain ⟨p, a, n, cc, q, m, d, rfl⟩ := mv_e l6
    obtain ⟨h7, b9, e7, u7, F7, k7, -, -, -⟩ := (Fr.mk0 w6).new _ (st4 (b := false) (oa := none) (n := 0) (c := 0) (b' := false) (oa' := none) (n' := 0) (c' := 0))
    obtain ⟨⟨g9, -, -⟩, -⟩ := F7.facts
    obtain ⟨h8, e8, F8, k8, -⟩ := F7.put0 [.bool p, .slice a n cc, .bool false, .slice q m d] st4 rfl
    obtain ⟨⟨-, -, r9, -, -⟩, -⟩ := F8.facts
    have f18 := f16.trans F8.fm fun _ _ f => f
    have zb := trn_bd hall k6 k4 (by omega) k3 htr
    rw [htr] at eN eD eE
    simp only at eN eD eE
    simp +contextual (disch := omega) only [↓AM, ↓AV, AP, CQ, CN, i64, e0, e1, e7, u7, g9, e8, r9]
    refine (c_ToTime ((l6.kp k7).kp k8) (Nat.le_trans (mlen (Sml.of (by omega))) (by decide)) (Nat.le_trans (dlen z) (by decide))).use ?_
    rintro _ h9 w9 ⟨rfl, f9⟩
    have f19 := f18.trans f9 fun _ _ f => f
    obtain ⟨n1, n2, n3⟩ := rds h9 f19
    have e10z : ∀ x y : Value, (h9.new ⟨[.int .i64 0, .int .i64 0], .own⟩).put h9.size ⟨[x, y], .own⟩ = h9.new ⟨[x, y], .own⟩ := fun x y => new_put
    by_cases hf : fitT (lowN z 1000000) (lowD z 1000000)
    · have m1 : mtN z = lowN z 1000000 := by unfold mtN; rw [if_pos hf]
      have m2 : mtD z = lowD z 1000000 := by unfold mtD; rw [if_pos hf]
      have m3 : mtE z = 0 := by unfold mtE; rw [if_pos hf]
      rw [eN, eD, eE, m1, m2, m3]
      obtain ⟨h10, e10⟩ : ∃ g, h9.new ⟨[.int .i64 (lowN z 1000000), .int .i64 ((lowD z 1000000 : Nat) : Int)], .own⟩ = g := ⟨_, rfl⟩
      have w10 : Wf h10 := e10 ▸ w9.new
      have f10 : Fm No h9 h10 := e10 ▸ Fm.new Fm.refl
      have g10 : h10.get h9.size = some ⟨[.int .i64 (lowN z 1000000), .int .i64 ((lowD z 1000000 : Nat) : Int)], .own⟩ := e10 ▸ gnew
      have r10 : h10.rdN h9.size 0 2 = some [.int .i64 (lowN z 1000000), .int .i64 ((lowD z 1000000 : Nat) : Int)] := rdN_mk g10 (by simp)
      have f110 := f19.trans f10 fun _ _ f => f
      obtain ⟨n1, n2, n3⟩ := rds h10 f110
      obtain ⟨g, eg, gg, fg⟩ := put h10 w10 f110 [.int .i64 (lowN z 1000000), .int .i64 ((lowD z 1000000 : Nat) : Int)]
      have rg : g.rdN h0.size 0 2 = some [.int .i64 (lowN z 1000000), .int .i64 ((lowD z 1000000 : Nat) : Int)] := rdN_mk gg (by simp)
      simp +contextual (disch := omega) only [↓AM, ↓AV, AP, CQ, CN, i64, e0, e1, hf, if_true, decide_true, e10z, e10, r10, n1, n2, n3, eg, rg]
      exact fg
    · have m1 : mtN z = 0 := by unfold mtN; rw [if_neg hf]
      have m2 : mtD z = 0 := by unfold mtD; rw [if_neg hf]
      have m3 : mtE z = 2 := by unfold mtE; rw [if_neg hf]
      rw [eN, eD, eE, m1, m2, m3]
      obtain ⟨h10, e10⟩ : ∃ g, h9.new ⟨[.int .i64 0, .int .i64 0], .own⟩ = g := ⟨_, rfl⟩
      have w10 : Wf h10 := e10 ▸ w9.new
      have f10 : Fm No h9 h10 := e10 ▸ Fm.new Fm.refl
      have f110 := f19.trans f10 fun _ _ f => f
      obtain ⟨n1, n2, n3⟩ := rds h10 f110
      obtain ⟨g, eg, gg, fg⟩ := put h10 w10 f110 [.int .i64 0, .int .i64 0]
      have rg : g.rdN h0.size 0 2 = some [.int .i64 0, .int .i64 0] := rdN_mk gg (by simp)
      simp +contextual (disch := omega) only [↓AM, ↓AV, AP, CQ, CN, i64, e0, e1, hf, if_false, decide_false, e10z, e10, n1, n2, n3, eg, rg]
      exact fg
end Go.Proofs.Ytikbdeobghoglaa.St

/- Networks of a law's argument. Plain theorems over the abstract machine.
   Conditions: none. -/
namespace Go.Proofs.Ytikbdeobghoglaa.St
open Go Go.RowKit Go.Proofs.Ytikbdeobghoglaa.Am Go.Proofs.Ytikbdeobghoglaa.Af Go.Proofs.Ytikbdeobghoglaa.Md Go.Proofs.Ytikbdeobghoglaa.Nu
set_option linter.unusedVariables false
set_option linter.unusedSimpArgs false
set_option maxRecDepth 20000

def ntK := AKd.pair (AKd.int .i64) (AKd.pair (AKd.pair (AKd.int .i64) (AKd.int .i64)) (AKd.pair (AKd.int .i64) (AKd.int .i64)))
theorem nt_open {h : Hp} {x : Nt} {cs : List Value} (a : ntK.A h x cs) : cs = ntC x := by
  obtain ⟨m, ⟨f1, f2⟩, t1, t2⟩ := x
  obtain ⟨c1, c2, rfl, a1, c3, c4, rfl, ⟨c5, c6, rfl, a2, a3⟩, c7, c8, rfl, a4, a5⟩ := a
  have a1 : c1 = [.int .i64 m] := a1
  have a2 : c5 = [.int .i64 f1] := a2
  have a3 : c6 = [.int .i64 f2] := a3
  have a4 : c7 = [.int .i64 t1] := a4
  have a5 : c8 = [.int .i64 t2] := a5
  subst a1 a2 a3 a4 a5
  rfl
theorem nets_open {h : Hp} : ∀ {xs : List Nt} {r : List Value}, AKd.Row (ntK.A h) xs r → r = xs.flatMap ntC
  | [], r, e => e
  | x :: xs, r, ⟨c, r', e, h1, h2⟩ => by
    rw [e, nt_open h1, nets_open h2]
    rfl
end Go.Proofs.Ytikbdeobghoglaa.St

/- The law StreamTransfers: when a request is complete, or the error. The walk over the abstract machine.
   Conditions: none. -/
namespace Go.Proofs.Ytikbdeobghoglaa.LStreamTransfers
open Go Go.RowKit Go.Proofs.Ytikbdeobghoglaa.Am Go.Proofs.Ytikbdeobghoglaa.Af Go.Proofs.Ytikbdeobghoglaa.Md Go.Proofs.Ytikbdeobghoglaa.Nu Go.Proofs.Ytikbdeobghoglaa.St
set_option linter.unusedVariables false
set_option linter.unusedSimpArgs false
set_option maxRecDepth 20000
set_option maxHeartbeats 2000000

theorem walk {h : Hp} (x0 : (List (Int × (Int × Int) × (Int × Int)))) (u0 : Value) (x1 : (Int × Int)) (cs1 : List Value) (x2 : Int) (A0 : (AKd.slice (AKd.pair (AKd.int .i64) (AKd.pair (AKd.pair (AKd.int .i64) (AKd.int .i64)) (AKd.pair (AKd.int .i64) (AKd.int .i64))))).A h x0 [u0]) (w0 : x0.length * Try.prog.bytesOf 48 ≤ 140737488351232 ∧ ∀ x ∈ x0, ((Lit.int .i64 x.1).wf = true) ∧ (((Lit.int .i64 x.2.1.1).wf = true) ∧ ((Lit.int .i64 x.2.1.2).wf = true)) ∧ (((Lit.int .i64 x.2.2.1).wf = true) ∧ ((Lit.int .i64 x.2.2.2).wf = true))) (A1 : (AKd.pair (AKd.int .i64) (AKd.int .i64)).A h x1 cs1) (w1 : ((Lit.int .i64 x1.1).wf = true) ∧ ((Lit.int .i64 x1.2).wf = true)) (w2 : (Lit.int .i64 x2).wf = true) : ACalls Try.prog 5 [u0, .agg cs1.toArray, .int .i64 x2] h fun v h' => v = .bool true := by
  obtain ⟨t1, t2⟩ := x1
  obtain ⟨c7, c8, rfl, a5, a6⟩ := A1
  have a5 : c7 = [.int .i64 t1] := a5
  have a6 : c8 = [.int .i64 t2] := a6
  subst a5 a6
  obtain ⟨oa, c, r, e0, rd, row, hc⟩ := A0
  cases e0
  have er := nets_open row
  subst er
  have hb : Nat.ble 1 (Try.prog.bytesOf 48) = true := by kernel_rfl
  have hb := Nat.le_of_ble_eq_true hb
  have hn0 : x0.length ≤ 140737488351232 := Nat.le_trans (Nat.le_mul_of_pos_right _ hb) w0.1
  clear w0 w1 w2
  have rd : Rd h 5 oa x0.length (x0.flatMap ntC) := rd
  refine dioramalaw27_StreamTransfers_ok.snd hm rfl fun w => ?_
  show WF _ dioramalaw27_StreamTransfers [.slice oa x0.length c, .agg #[.int .i64 t1, .int .i64 t2], .int .i64 x2] h _
  rw [WF_eq, dioramalaw27_StreamTransfers]
  obtain ⟨hA, eA⟩ : ∃ g, h.new ⟨[.int .i64 t1, .int .i64 t2], .own⟩ = g := ⟨_, rfl⟩
  have wA : Wf hA := eA ▸ w.new
  have fA : Fm No h hA := eA ▸ Fm.new Fm.refl
  have gA : hA.get h.size = some ⟨[.int .i64 t1, .int .i64 t2], .own⟩ := eA ▸ gnew
  have rds : ∀ g : Hp, Fm No hA g → g.rdN h.size 0 2 = some [.int .i64 t1, .int .i64 t2] := fun g fg => rdN_mk (fg.keep wA gA (fun f => f)) (by simp)
  have n0 := rds hA Fm.refl
  by_cases hbig : (120 : Int) < (x0.length : Int)
  · simp +contextual (disch := omega) only [↓AM, ↓AV, AP, CQ, CN, i64, eA, hbig]
  simp +contextual (disch := omega) only [↓AM, ↓AV, AP, CQ, CN, i64, eA, hbig, n0]
  refine (c_Transfer (t := (t1, t2)) (rd.keepW w fA nNo) (by omega)).use ?_
  rintro _ hB wB ⟨rfl, fB⟩
  have nz : ∀ (g : Hp) (x y : Value), (g.new ⟨[.int .i64 0, .int .i64 0], .own⟩).put g.size ⟨[x, y], .own⟩ = g.new ⟨[x, y], .own⟩ := fun g x y => new_put
  obtain ⟨hC, eC⟩ : ∃ g, hB.new ⟨[.int .i64 (tfN x0 (t1, t2) x2), .int .i64 (tfD x0 (t1, t2) x2)], .own⟩ = g := ⟨_, rfl⟩
  have wC : Wf hC := eC ▸ wB.new
  have fC : Fm No hB hC := eC ▸ Fm.new Fm.refl
  have gC : hC.get hB.size = some ⟨[.int .i64 (tfN x0 (t1, t2) x2), .int .i64 (tfD x0 (t1, t2) x2)], .own⟩ := eC ▸ gnew
  have fAC := fB.trans fC fun _ _ f => f
  have n1 := rds hC fAC
  simp +contextual (disch := omega) only [↓AM, ↓AV, AP, CQ, CN, i64, eA, nz, eC, n1]
  refine (c_rTransfer (t := (t1, t2)) (rd.keepW w (fA.trans fAC fun _ _ f => f) nNo) (by omega)).use ?_
  rintro _ hD wD ⟨rfl, fD⟩
  obtain ⟨hE, eE⟩ : ∃ g, hD.new ⟨[.int .i64 (tfN x0 (t1, t2) x2), .int .i64 (tfD x0 (t1, t2) x2)], .own⟩ = g := ⟨_, rfl⟩
  have wE : Wf hE := eE ▸ wD.new
  have fE : Fm No hD hE := eE ▸ Fm.new Fm.refl
  have gE : hE.get hD.size = some ⟨[.int .i64 (tfN x0 (t1, t2) x2), .int .i64 (tfD x0 (t1, t2) x2)], .own⟩ := eE ▸ gnew
  have gCE := fE.keep wD (fD.keep wC gC (fun f => f)) (fun f => f)
  have r1 : hE.rdN hB.size 0 2 = some [.int .i64 (tfN x0 (t1, t2) x2), .int .i64 (tfD x0 (t1, t2) x2)] := rdN_mk gCE (by simp)
  have r2 : hE.rdN hD.size 0 2 = some [.int .i64 (tfN x0 (t1, t2) x2), .int .i64 (tfD x0 (t1, t2) x2)] := rdN_mk gE (by simp)
  have ec : eqCells [1, 1] [Value.int .i64 (tfN x0 (t1, t2) x2), Value.int .i64 (tfD x0 (t1, t2) x2)] [Value.int .i64 (tfN x0 (t1, t2) x2), Value.int .i64 (tfD x0 (t1, t2) x2)] = some true := by simp [eqCells, eqCell]
  simp +contextual (disch := omega) only [↓AM, ↓AV, AP, CQ, CN, i64, eA, nz, eC, eE, r1, r2, ec]
  refine c_awake.use ?_
  rintro _ _ _ ⟨rfl, rfl⟩
  simp +contextual (disch := omega) only [↓AM, ↓AV, AP, CQ, CN, i64]
end Go.Proofs.Ytikbdeobghoglaa.LStreamTransfers
