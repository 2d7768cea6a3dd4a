/- The document's Convert. Plain theorems over the abstract machine.
   Conditions: none. -/
import Derived.Test.YtnibipabfdalcaaNuZa
namespace Go.Proofs.Ytnibipabfdalcaa.Nu
open Go Go.RowKit Go.Proofs.Ytnibipabfdalcaa.Am Go.Proofs.Ytnibipabfdalcaa.Af Go.Proofs.Ytnibipabfdalcaa.Md
set_option linter.unusedVariables false
set_option linter.unusedSimpArgs false
set_option linter.defProp false
set_option maxRecDepth 20000
set_option maxHeartbeats 2000000

theorem c_rConvert {h : Hp} {F G H M S f : Int} {D E : Bool} :
    ACalls Try.prog 11 [rateV F D, rateV G E, codeV H M S f] h fun v h' => CvPost F D G E H M S f v ∧ Fm No h h' := by
  refine dioramaref20_Convert_ok.snd hm rfl fun w => ?_
  rw [WF_eq, dioramaref20_Convert, rateV, rateV, codeV]
  obtain ⟨hA, hhA⟩ : ∃ g, h.new ⟨[.int .i64 F, .bool D], .own⟩ = g := ⟨_, rfl⟩
  obtain ⟨hB, hhB⟩ : ∃ g, hA.new ⟨[.int .i64 G, .bool E], .own⟩ = g := ⟨_, rfl⟩
  obtain ⟨hC, hhC⟩ : ∃ g, hB.new ⟨[.int .i64 H, .int .i64 M, .int .i64 S, .int .i64 f], .own⟩ = g := ⟨_, rfl⟩
  obtain ⟨hD, hhD⟩ : ∃ g, hC.new ⟨[.int .i64 0, .int .i64 0, .int .i64 0, .int .i64 0], .own⟩ = g := ⟨_, rfl⟩
  have wA : Wf hA := hhA ▸ w.new
  have wB : Wf hB := hhB ▸ wA.new
  have wC : Wf hC := hhC ▸ wB.new
  have wD : Wf hD := hhD ▸ wC.new
  have sA : hA.size = h.size + 1 := by rw [← hhA]; rfl
  have sB : hB.size = h.size + 2 := by rw [← hhB, size_new, sA]
  have sC : hC.size = h.size + 3 := by rw [← hhC, size_new, sB]
  have sD : hD.size = h.size + 4 := by rw [← hhD, size_new, sC]
  have fmA : Fm No h hA := hhA ▸ Fm.new Fm.refl
  have fmB : Fm No hA hB := hhB ▸ Fm.new Fm.refl
  have fmC : Fm No hB hC := hhC ▸ Fm.new Fm.refl
  have fmD : Fm No hC hD := hhD ▸ Fm.new Fm.refl
  have g1 : hA.get h.size = some ⟨[.int .i64 F, .bool D], .own⟩ := hhA ▸ gnew
  have g2 : hB.get hA.size = some ⟨[.int .i64 G, .bool E], .own⟩ := hhB ▸ gnew
  have g3 : hC.get hB.size = some ⟨[.int .i64 H, .int .i64 M, .int .i64 S, .int .i64 f], .own⟩ := hhC ▸ gnew
  have g4 : hD.get hC.size = some ⟨[.int .i64 0, .int .i64 0, .int .i64 0, .int .i64 0], .own⟩ := hhD ▸ gnew
  have g1 := fmD.keep wC (fmC.keep wB (fmB.keep wA g1 (fun f => f)) (fun f => f)) (fun f => f)
  have g2 := fmD.keep wC (fmC.keep wB g2 (fun f => f)) (fun f => f)
  have g3 := fmD.keep wC g3 (fun f => f)
  have fm0 : Fm No h hD := ((fmA.trans fmB fun _ _ f => f).trans fmC fun _ _ f => f).trans fmD fun _ _ f => f
  obtain ⟨zA, hzA⟩ : ∃ z, hA.size = z := ⟨_, rfl⟩
  obtain ⟨zB, hzB⟩ : ∃ z, hB.size = z := ⟨_, rfl⟩
  obtain ⟨zC, hzC⟩ : ∃ z, hC.size = z := ⟨_, rfl⟩
  rw [hzA] at g2 sA
  rw [hzB] at g3 sB
  rw [hzC] at g4 sC
  have rds : ∀ g : Hp, Fm No hD g → (g.rdN h.size 0 2 = some [.int .i64 F, .bool D] ∧ g.rdN zA 0 2 = some [.int .i64 G, .bool E]) ∧ (g.rdN zB 0 4 = some [.int .i64 H, .int .i64 M, .int .i64 S, .int .i64 f] ∧ g.get zC = some ⟨[.int .i64 0, .int .i64 0, .int .i64 0, .int .i64 0], .own⟩) := fun g fg => by
    have k1 := fg.keep wD g1 (fun f => f)
    have k2 := fg.keep wD g2 (fun f => f)
    have k3 := fg.keep wD g3 (fun f => f)
    exact ⟨⟨rdN_mk k1 (Nat.le_refl 2), rdN_mk k2 (Nat.le_refl 2)⟩, rdN_mk k3 (Nat.le_refl 4), fg.keep wD g4 (fun f => f)⟩
  obtain ⟨⟨a1, a2⟩, a3, a4⟩ := rds hD Fm.refl
  simp +contextual (disch := omega) only [↓AM, ↓AV, AP, CQ, i64, hhA, hhB, hhC, hhD, hzA, hzB, hzC, a1]
  refine c_rchk.use ?_
  rintro _ h1 w1 ⟨rfl, fm1⟩
  obtain ⟨⟨a1, a2⟩, a3, a4⟩ := rds h1 fm1
  by_cases hF : okR F D
  case neg =>
    have e1 : chkR F D = 1 := if_neg hF
    simp +contextual (disch := omega) only [↓AM, ↓AV, AP, CQ, i64, hhA, hhB, hhC, hhD, hzA, hzB, hzC, e1, a4, rdp_n4]
    refine ⟨CvPost.no ?_ (by decide), (fm0.trans fm1 fun _ _ f => f).put fun hlt => absurd hlt (by omega)⟩
    rw [cvErr, if_neg (fun q => hF q.1)]
  have e1 : chkR F D = 0 := if_pos hF
  simp +contextual (disch := omega) only [↓AM, ↓AV, AP, CQ, i64, hhA, hhB, hhC, hhD, hzA, hzB, hzC, e1, a2]
  refine c_rchk.use ?_
  rintro _ h2 w2 ⟨rfl, fm2⟩
  have f2 := fm1.trans fm2 fun _ _ f => f
  obtain ⟨⟨a1, a2⟩, a3, a4⟩ := rds h2 f2
  by_cases hG : okR G E
  case neg =>
    have e1 : chkR G E = 1 := if_neg hG
    simp +contextual (disch := omega) only [↓AM, ↓AV, AP, CQ, i64, hhA, hhB, hhC, hhD, hzA, hzB, hzC, e1, a4, rdp_n4]
    refine ⟨CvPost.no ?_ (by decide), (fm0.trans f2 fun _ _ f => f).put fun hlt => absurd hlt (by omega)⟩
    rw [cvErr, if_neg (fun q => hG q.2)]
  have e1 : chkR G E = 0 := if_pos hG
  have hcv : cvErr F D G E H M S f = cErr F D H M S f := if_pos ⟨hF, hG⟩
  simp +contextual (disch := omega) only [↓AM, ↓AV, AP, CQ, i64, hhA, hhB, hhC, hhD, hzA, hzB, hzC, e1, a1, a3]
  refine c_rCount.use ?_
  rintro _ h3 w3 ⟨rfl, fm3⟩
  have f3 := f2.trans fm3 fun _ _ f => f
  obtain ⟨⟨a1, a2⟩, a3, a4⟩ := rds h3 f3
  by_cases he : cErr F D H M S f = 0
  case neg =>
    have e1 : EqI (cErr F D H M S f) 0 = False := eq_false he
    simp +contextual (disch := omega) only [↓AM, ↓AV, AP, CQ, i64, hhA, hhB, hhC, hhD, hzA, hzB, hzC, e1, a4, rdp_n4]
    exact ⟨CvPost.no hcv.symm he, (fm0.trans f3 fun _ _ f => f).put fun hlt => absurd hlt (by omega)⟩
  have hok : okC F H M S f := Classical.byContradiction fun hn => by rw [cErr, if_pos hF, rErr, if_neg hn] at he; exact absurd he (by decide)
  obtain ⟨n0, n1⟩ := cntZ_b (D := D) hF.1 hok
  obtain ⟨n, hn⟩ : ∃ n : Nat, cntZ F D H M S f = (n : Int) := ⟨_, (Int.toNat_of_nonneg n0).symm⟩
  rw [hn] at n0 n1
  rw [if_pos he, hn]
  obtain ⟨Fn, hFe⟩ : ∃ z : Nat, F = (z : Int) := ⟨F.toNat, by have := hF.1; omega⟩
  obtain ⟨Gn, hGe⟩ : ∃ z : Nat, G = (z : Int) := ⟨G.toNat, by have := hG.1; omega⟩
  subst hFe hGe
  have hFn : 1 ≤ Fn ∧ Fn ≤ 60 := by have := hF.1; omega
  have hGn : 1 ≤ Gn ∧ Gn ≤ 60 := by have := hG.1; omega
  simp +contextual (disch := omega) only [↓AM, ↓AV, AP, CQ, i64, hhA, hhB, hhC, hhD, hzA, hzB, hzC, he, a2]
  refine c_rDay.use ?_
  rintro _ h4 w4 ⟨rfl, fm4⟩
  have f4 := f3.trans fm4 fun _ _ f => f
  obtain ⟨⟨a1, a2⟩, a3, a4⟩ := rds h4 f4
  rw [if_pos hG]
  simp +contextual (disch := omega) only [↓AM, ↓AV, AP, CQ, i64, hhA, hhB, hhC, hhD, hzA, hzB, hzC, a1, a2]
  refine (c_speed (D := D) hFn).use ?_
  rintro _ h5 w5 ⟨rv1, fm5⟩
  obtain ⟨_, _, rfl, ⟨ua, uc, rfl, lu⟩, ⟨va, vc, rfl, lv⟩⟩ := rv1
  have f5 := f4.trans fm5 fun _ _ f => f
  obtain ⟨⟨a1, a2⟩, a3, a4⟩ := rds h5 f5
  simp +contextual (disch := omega) only [↓AM, ↓AV, AP, CQ, i64, hhA, hhB, hhC, hhD, hzA, hzB, hzC, a1, a2]
  refine ⟨⟨_, rfl, rfl⟩, ?_⟩
  refine (c_speed (D := E) hGn).use ?_
  rintro _ h6 w6 ⟨⟨_, _, rfl, ⟨sa, sc, rfl, ls⟩, ⟨ta, tc, rfl, lt⟩⟩, fm6⟩
  have f6 := f5.trans fm6 fun _ _ f => f
  obtain ⟨⟨a1, a2⟩, a3, a4⟩ := rds h6 f6
  obtain ⟨hP, hhP⟩ : ∃ g, h6.new ⟨[.bool false, .slice none 0 0, .slice none 0 0], .own⟩ = g := ⟨_, rfl⟩
  obtain ⟨hQ, hhQ⟩ : ∃ g, hP.new ⟨[.bool false, .slice none 0 0, .slice none 0 0], .own⟩ = g := ⟨_, rfl⟩
  have wP : Wf hP := hhP ▸ w6.new
  have wQ : Wf hQ := hhQ ▸ wP.new
  have fP : Fm No h6 hP := hhP ▸ Fm.new Fm.refl
  have fQ : Fm No hP hQ := hhQ ▸ Fm.new Fm.refl
  have sP : hP.size = h6.size + 1 := by rw [← hhP]; rfl
  have sQ : hQ.size = h6.size + 2 := by rw [← hhQ, size_new, sP]
  have gP : hP.get h6.size = some ⟨[.bool false, .slice none 0 0, .slice none 0 0], .own⟩ := hhP ▸ gnew
  have gQ : hQ.get hP.size = some ⟨[.bool false, .slice none 0 0, .slice none 0 0], .own⟩ := hhQ ▸ gnew
  have gP := fQ.keep wP gP (fun f => f)
  have s6 := f6.size
  obtain ⟨z12, hz12⟩ : ∃ z, h6.size = z := ⟨_, rfl⟩
  obtain ⟨z13, hz13⟩ : ∃ z, hP.size = z := ⟨_, rfl⟩
  rw [hz12] at gP sP sQ s6
  rw [hz13] at gQ sP
  obtain ⟨hR, hhR⟩ : ∃ g, hQ.put z12 ⟨[.bool false, .slice ua (dc (upN Fn D)).length uc, .slice va (dc (dnN D)).length vc], .own⟩ = g := ⟨_, rfl⟩
  obtain ⟨hT, hhT⟩ : ∃ g, hR.put z13 ⟨[.bool false, .slice sa (dc (upN Gn E)).length sc, .slice ta (dc (dnN E)).length tc], .own⟩ = g := ⟨_, rfl⟩
  have wR : Wf hR := hhR ▸ wQ.put (wQ.lt gP)
  have gR13 : hR.get z13 = some ⟨[.bool false, .slice none 0 0, .slice none 0 0], .own⟩ := by rw [← hhR]; exact (get_put (by omega)).trans gQ
  have gR12 : hR.get z12 = some ⟨[.bool false, .slice ua (dc (upN Fn D)).length uc, .slice va (dc (dnN D)).length vc], .own⟩ := by rw [← hhR]; exact gput
  have wT : Wf hT := hhT ▸ wR.put (wR.lt gR13)
  have gT13 : hT.get z13 = some ⟨[.bool false, .slice sa (dc (upN Gn E)).length sc, .slice ta (dc (dnN E)).length tc], .own⟩ := by rw [← hhT]; exact gput
  have gT12 : hT.get z12 = some ⟨[.bool false, .slice ua (dc (upN Fn D)).length uc, .slice va (dc (dnN D)).length vc], .own⟩ := by rw [← hhT]; exact (get_put (by omega)).trans gR12
  have f6T : Fm No h6 hT := by
    rw [← hhT, ← hhR]
    exact ((fP.trans fQ fun _ _ f => f).put fun hlt => absurd hlt (by omega)).put fun hlt => absurd hlt (by omega)
  have fT := f6.trans f6T fun _ _ f => f
  have rts : ∀ g : Hp, Fm No hT g → (g.rd z12 1 = some (.slice ua (dc (upN Fn D)).length uc) ∧ g.rd z12 2 = some (.slice va (dc (dnN D)).length vc)) ∧ g.rdN z13 0 3 = some [.bool false, .slice sa (dc (upN Gn E)).length sc, .slice ta (dc (dnN E)).length tc] := fun g fg => by
    have k1 := fg.keep wT gT12 (fun f => f)
    have k2 := fg.keep wT gT13 (fun f => f)
    exact ⟨⟨rd_mk k1, rd_mk k1⟩, rdN_mk k2 (Nat.le_refl 3)⟩
  obtain ⟨⟨b1, b2⟩, b3⟩ := rts hT Fm.refl
  simp +contextual (disch := omega) only [↓AM, ↓AV, AP, CQ, i64, hhA, hhB, hhC, hhD, hzA, hzB, hzC, a1, a2]
  simp +contextual (disch := omega) only [↓AM, ↓AV, AP, CQ, i64, hhP, hhQ, hhR, hhT, hz12, hz13, gP, gR13, b1, b2]
  have f5T : Fm No h5 hT := fm6.trans f6T fun _ _ f => f
  have uF := up_pos (D := D) hFn
  have uG := up_pos (D := E) hGn
  have dD := dn_pos (D := D)
  have dE := dn_pos (D := E)
  have big : ∀ {z : Nat}, z < 1000000000000000000 → z < B9 ^ 40 := fun h => Nat.lt_of_lt_of_le h (by decide)
  refine (c_RatOf (p := n) (q := 1) (by omega) (by decide)).use ?_
  rintro v7 h7 w7 ⟨rv7, fm7⟩
  obtain ⟨⟨b1, b2⟩, b3⟩ := rts h7 fm7
  simp +contextual (disch := omega) only [↓AM, ↓AV, AP, CQ, i64, hhP, hhQ, hhR, hhT, hz12, hz13, b1, b2]
  have f57 := f5T.trans fm7 fun _ _ f => f
  have rvI : RatV h7 (.agg #[.bool false, .slice va (dc (dnN D)).length vc, .slice ua (dc (upN Fn D)).length uc]) (dnN D) (upN Fn D) :=
    ⟨_, _, rfl, ⟨_, _, rfl, ⟨lv.rd.keepW w5 f57 nNo, lv.le, lv.dl⟩⟩, ⟨_, _, rfl, ⟨lu.rd.keepW w5 f57 nNo, lu.le, lu.dl⟩⟩⟩
  refine (c_times rv7 rvI (big (by omega)) (big (by omega)) (big (by omega)) (big (by omega))).use ?_
  rintro _ h8 w8 ⟨rv8, fm8⟩
  rw [Nat.one_mul] at rv8
  have rv8' := rv8
  obtain ⟨_, _, rfl, ⟨pa, pc, rfl, -⟩, ⟨qa, qc, rfl, -⟩⟩ := rv8'
  have f78 := fm7.trans fm8 fun _ _ f => f
  obtain ⟨⟨b1, b2⟩, b3⟩ := rts h8 f78
  obtain ⟨hV, hhV⟩ : ∃ g, h8.new ⟨[.bool false, .slice pa (dc (n * dnN D)).length pc, .slice qa (dc (upN Fn D)).length qc], .own⟩ = g := ⟨_, rfl⟩
  have wV : Wf hV := hhV ▸ w8.new
  have fV : Fm No h8 hV := hhV ▸ Fm.new Fm.refl
  have gV : hV.get h8.size = some ⟨[.bool false, .slice pa (dc (n * dnN D)).length pc, .slice qa (dc (upN Fn D)).length qc], .own⟩ := hhV ▸ gnew
  have rV : hV.rdN h8.size 0 3 = some [.bool false, .slice pa (dc (n * dnN D)).length pc, .slice qa (dc (upN Fn D)).length qc] := rdN_mk gV (Nat.le_refl 3)
  obtain ⟨z14, hz14⟩ : ∃ z, h8.size = z := ⟨_, rfl⟩
  rw [hz14] at gV rV
  have f7V := f78.trans fV fun _ _ f => f
  have fDV := fT.trans f7V fun _ _ f => f
  obtain ⟨⟨b1, b2⟩, b3⟩ := rts hV f7V
  obtain ⟨⟨a1, a2⟩, a3, a4⟩ := rds hV fDV
  try simp +contextual (disch := omega) only [↓AM, ↓AV, AP, CQ, i64, hhP, hhQ, hhR, hhT, hz12, hz13, hhV]
  try simp +contextual (disch := omega) only [↓AM, ↓AV, AP, CQ, i64, hhP, hhQ, hhR, hhT, hz12, hz13, hz14, hhV, a2, b3, rV]
  have rv8V := rv8.keep w8 fV
  have f6V := f6T.trans f7V fun _ _ f => f
  have rvT : RatV hV (.agg #[.bool false, .slice sa (dc (upN Gn E)).length sc, .slice ta (dc (dnN E)).length tc]) (upN Gn E) (dnN E) :=
    ⟨_, _, rfl, ⟨_, _, rfl, ⟨ls.rd.keepW w6 f6V nNo, ls.le, ls.dl⟩⟩, ⟨_, _, rfl, ⟨lt.rd.keepW w6 f6V nNo, lt.le, lt.dl⟩⟩⟩
  have hnD : n * dnN D ≤ 6000000 * 1001 := Nat.mul_le_mul (by omega) dD.2
  refine (c_times rv8V rvT (big (by omega)) (big (by omega)) (big (by omega)) (big (by omega))).use ?_
  rintro _ h9 w9 ⟨rv9, fm9⟩
  have hN1 : n * dnN D * upN Gn E ≤ 6000000 * 1001 * 60000 := Nat.mul_le_mul hnD uG.2
  have hN2 : upN Fn D * dnN E ≤ 60000 * 1001 := Nat.mul_le_mul uF.2 dE.2
  have hN3 : 0 < upN Fn D * dnN E := Nat.mul_pos uF.1 dE.1
  have fD9 := fDV.trans fm9 fun _ _ f => f
  obtain ⟨⟨a1, a2⟩, a3, a4⟩ := rds h9 fD9
  have hdm := miss_b E hG.1
  obtain ⟨dn, hdn⟩ : ∃ dn : Nat, 144 * (600 * (Gn : Int) - 9 * missN (Gn : Int) E) = (dn : Int) := ⟨_, (Int.toNat_of_nonneg (by omega)).symm⟩
  simp +contextual (disch := omega) only [↓AM, ↓AV, AP, CQ, i64, a2, hdn]
  refine ⟨⟨_, rfl, rfl⟩, ?_⟩
  have big5 : ∀ {z : Nat}, z < 1000000000000000000 → z < B9 ^ 50 := fun h => Nat.lt_of_lt_of_le h (by decide)
  refine (c_floor (day := dn) rv9 (big5 (by omega)) (big5 (by omega)) hN3 (by omega) (by omega)).use ?_
  rintro _ h10 w10 ⟨rfl, fm10⟩
  have fD10 := fD9.trans fm10 fun _ _ f => f
  obtain ⟨⟨a1, a2⟩, a3, a4⟩ := rds h10 fD10
  have hNe : n * dnN D * upN Gn E / (upN Fn D * dnN E) = cvN n Fn D Gn E := by rw [cvN, Nat.one_mul]
  rw [hNe]
  have hNi : ((cvN n Fn D Gn E % dn : Nat) : Int) = ((cvN n Fn D Gn E : Nat) : Int) % (144 * (600 * (Gn : Int) - 9 * missN (Gn : Int) E)) := by rw [hdn]; rfl
  rw [hNi]
  simp +contextual (disch := omega) only [↓AM, ↓AV, AP, CQ, i64, a2]
  obtain ⟨T, y, t1, t2, t3, t4⟩ := nb_find (F := (Gn : Int)) (D := E) hG.1 (Int.emod_nonneg ((cvN n Fn D Gn E : Nat) : Int) (show 144 * (600 * (Gn : Int) - 9 * missN (Gn : Int) E) ≠ 0 by omega)) (Int.emod_lt_of_pos _ (by omega))
  refine ⟨⟨_, rfl, rfl⟩, ?_⟩
  refine (c_rCode (F := (Gn : Int)) (D := E) hG t1 t2 t3 t4).use ?_
  rintro _ h11 w11 ⟨rfl, fm11⟩
  have fD11 := fD10.trans fm11 fun _ _ f => f
  obtain ⟨⟨a1, a2⟩, a3, a4⟩ := rds h11 fD11
  simp +contextual (disch := omega) only [↓AM, ↓AV, AP, CQ, i64, a4, rdp_n4]
  refine ⟨⟨_, _, _, _, 0, rfl, by rw [hcv, he], fun h => absurd rfl h, fun _ => ⟨T, y, rfl, t1, t2, t3, ?_⟩⟩, (fm0.trans fD11 fun _ _ f => f).put fun hlt => absurd hlt (by omega)⟩
  rw [t4, hn]
  rfl
end Go.Proofs.Ytnibipabfdalcaa.Nu
