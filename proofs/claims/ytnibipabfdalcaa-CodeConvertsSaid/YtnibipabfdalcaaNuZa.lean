/- The program's Convert. Plain theorems over the abstract machine.
   Conditions: none. -/
import Derived.Test.YtnibipabfdalcaaNuZ
namespace Go.Proofs.Ytnibipabfdalcaa.Nu
open Go Go.RowKit Go.Proofs.Ytnibipabfdalcaa.Am Go.Proofs.Ytnibipabfdalcaa.Af Go.Proofs.Ytnibipabfdalcaa.Md
set_option linter.unusedVariables false
set_option linter.unusedSimpArgs false
set_option linter.defProp false
set_option maxRecDepth 20000
set_option maxHeartbeats 2000000

def cvErr (F : Int) (D : Bool) (G : Int) (E : Bool) (H M S f : Int) : Int := if okR F D ∧ okR G E then cErr F D H M S f else 1
/-- What Convert answers. -/
def CvPost (F : Int) (D : Bool) (G : Int) (E : Bool) (H M S f : Int) (v : Value) : Prop :=
  ∃ a b c d e, v = .tuple #[codeV a b c d, .int .i64 e] ∧ e = cvErr F D G E H M S f ∧ (e ≠ 0 → codeV a b c d = codeV 0 0 0 0) ∧
    (e = 0 → ∃ (T : Nat) (y : Int), codeV a b c d = codV G T y ∧ T < 1440 ∧ Ma.ms (missN G E) T ≤ y ∧ y < 60 * G ∧
      Ma.pre (60 * G) (missN G E) T + (y - Ma.ms (missN G E) T) = ((cvN (cntZ F D H M S f).toNat F.toNat D G.toNat E : Nat) : Int) % (144 * (600 * G - 9 * missN G E)))
theorem CvPost.no {F G H M S f e : Int} {D E : Bool} (he : e = cvErr F D G E H M S f) (hn : e ≠ 0) : CvPost F D G E H M S f (.tuple #[codeV 0 0 0 0, .int .i64 e]) :=
  ⟨0, 0, 0, 0, e, rfl, he, fun _ => rfl, fun h => absurd h hn⟩
theorem c_Convert {h : Hp} {F G H M S f : Int} {D E : Bool} :
    ACalls Try.prog 10 [rateV F D, rateV G E, codeV H M S f] h fun v h' => CvPost F D G E H M S f v ∧ Fm No h h' := by
  refine code_Convert_ok.snd hm rfl fun w => ?_
  rw [WF_eq, code_Convert, rateV, rateV, codeV]
  obtain ⟨hA, hhA⟩ : ∃ g, h.new ⟨[.int .i64 F, .bool D], .own⟩ = g := ⟨_, rfl⟩
  obtain ⟨hB, hhB⟩ : ∃ g, hA.new ⟨[.int .i64 G, .bool E], .own⟩ = g := ⟨_, rfl⟩
  obtain ⟨hC, hhC⟩ : ∃ g, hB.new ⟨[.int .i64 H, .int .i64 M, .int .i64 S, .int .i64 f], .own⟩ = g := ⟨_, rfl⟩
  obtain ⟨hD, hhD⟩ : ∃ g, hC.new ⟨[.int .i64 0, .int .i64 0, .int .i64 0, .int .i64 0], .own⟩ = g := ⟨_, rfl⟩
  obtain ⟨hS, hhS⟩ : ∃ g, hD.new ⟨[.int .i64 F, .bool D, .int .i64 G, .bool E], .own⟩ = g := ⟨_, rfl⟩
  have wA : Wf hA := hhA ▸ w.new
  have wB : Wf hB := hhB ▸ wA.new
  have wC : Wf hC := hhC ▸ wB.new
  have wD : Wf hD := hhD ▸ wC.new
  have wS : Wf hS := hhS ▸ wD.new
  have sA : hA.size = h.size + 1 := by rw [← hhA]; rfl
  have sB : hB.size = h.size + 2 := by rw [← hhB, size_new, sA]
  have sC : hC.size = h.size + 3 := by rw [← hhC, size_new, sB]
  have sD : hD.size = h.size + 4 := by rw [← hhD, size_new, sC]
  have sS : hS.size = h.size + 5 := by rw [← hhS, size_new, sD]
  have fmA : Fm No h hA := hhA ▸ Fm.new Fm.refl
  have fmB : Fm No hA hB := hhB ▸ Fm.new Fm.refl
  have fmC : Fm No hB hC := hhC ▸ Fm.new Fm.refl
  have fmD : Fm No hC hD := hhD ▸ Fm.new Fm.refl
  have fmS : Fm No hD hS := hhS ▸ Fm.new Fm.refl
  have g1 : hA.get h.size = some ⟨[.int .i64 F, .bool D], .own⟩ := hhA ▸ gnew
  have g2 : hB.get hA.size = some ⟨[.int .i64 G, .bool E], .own⟩ := hhB ▸ gnew
  have g3 : hC.get hB.size = some ⟨[.int .i64 H, .int .i64 M, .int .i64 S, .int .i64 f], .own⟩ := hhC ▸ gnew
  have g4 : hD.get hC.size = some ⟨[.int .i64 0, .int .i64 0, .int .i64 0, .int .i64 0], .own⟩ := hhD ▸ gnew
  have g5 : hS.get hD.size = some ⟨[.int .i64 F, .bool D, .int .i64 G, .bool E], .own⟩ := hhS ▸ gnew
  have g1 := fmS.keep wD (fmD.keep wC (fmC.keep wB (fmB.keep wA g1 (fun f => f)) (fun f => f)) (fun f => f)) (fun f => f)
  have g2 := fmS.keep wD (fmD.keep wC (fmC.keep wB g2 (fun f => f)) (fun f => f)) (fun f => f)
  have g3 := fmS.keep wD (fmD.keep wC g3 (fun f => f)) (fun f => f)
  have g4 := fmS.keep wD g4 (fun f => f)
  have fm0 : Fm No h hS := (((fmA.trans fmB fun _ _ f => f).trans fmC fun _ _ f => f).trans fmD fun _ _ f => f).trans fmS fun _ _ f => f
  obtain ⟨zA, hzA⟩ : ∃ z, hA.size = z := ⟨_, rfl⟩
  obtain ⟨zB, hzB⟩ : ∃ z, hB.size = z := ⟨_, rfl⟩
  obtain ⟨zC, hzC⟩ : ∃ z, hC.size = z := ⟨_, rfl⟩
  obtain ⟨zD, hzD⟩ : ∃ z, hD.size = z := ⟨_, rfl⟩
  rw [hzA] at g2 sA
  rw [hzB] at g3 sB
  rw [hzC] at g4 sC
  rw [hzD] at g5 sD
  have uD : hD.rdN h.size 0 2 = some [.int .i64 F, .bool D] := by
    rw [← hhD, ← hhC, ← hhB, ← hhA]
    rw [rdN_keep (get_new (by simp only [size_new]; omega)), rdN_keep (get_new (by simp only [size_new]; omega)), rdN_keep (get_new (by simp only [size_new]; omega))]
    exact rdN_new rfl
  have uE : hD.rdN zA 0 2 = some [.int .i64 G, .bool E] := by
    rw [← hzA, ← hhD, ← hhC, ← hhB]
    rw [rdN_keep (get_new (by simp only [size_new]; omega)), rdN_keep (get_new (by simp only [size_new]; omega))]
    exact rdN_new rfl
  have rds : ∀ g : Hp, Fm No hS g → (g.rdN h.size 0 2 = some [.int .i64 F, .bool D] ∧ g.rdN zA 0 2 = some [.int .i64 G, .bool E]) ∧ (g.rdN zB 0 4 = some [.int .i64 H, .int .i64 M, .int .i64 S, .int .i64 f] ∧ g.get zC = some ⟨[.int .i64 0, .int .i64 0, .int .i64 0, .int .i64 0], .own⟩) ∧
      (g.rdN zD 0 2 = some [.int .i64 F, .bool D] ∧ g.rdN zD 2 2 = some [.int .i64 G, .bool E]) := fun g fg => by
    have k1 := fg.keep wS g1 (fun f => f)
    have k2 := fg.keep wS g2 (fun f => f)
    have k3 := fg.keep wS g3 (fun f => f)
    have k5 := fg.keep wS g5 (fun f => f)
    exact ⟨⟨rdN_mk k1 (Nat.le_refl 2), rdN_mk k2 (Nat.le_refl 2)⟩, ⟨rdN_mk k3 (Nat.le_refl 4), fg.keep wS g4 (fun f => f)⟩, rdN_mk k5 (off := 0) (m := 2) (by show 0 + 2 ≤ 4; omega), rdN_mk k5 (off := 2) (m := 2) (by show 2 + 2 ≤ 4; omega)⟩
  simp +contextual (disch := omega) only [↓AM, ↓AV, AP, CQ, i64, hhA, hhB, hhC, hhD, hhS, hzA, hzB, hzC, hzD, uD, uE]
  have e2 : (2 : Int) = ((2 : Nat) : Int) := rfl
  refine WL.mk (fun k t h' => Wf h' ∧ Fm No hS h' ∧ ∃ i : Nat, i ≤ 2 ∧ k = 2 - i ∧ (0 < i → okR F D) ∧ (1 < i → okR G E) ∧
      t = [(3, some (.pointer (some ⟨h.size, 0, none⟩))), (4, some (.pointer (some ⟨zA, 0, none⟩))), (5, some (.pointer (some ⟨zB, 0, none⟩))), (6, some (.pointer (some ⟨zC, 0, none⟩))), (18, some (.slice (some ⟨zD, 0, none⟩) 2 2)), (19, some (.int .i64 ((2 : Nat) : Int))), (20, some (.int .i64 (i : Int)))])
    ⟨2, wS, Fm.refl, 0, by omega, rfl, by omega, by omega, rfl⟩ ?_
  rintro k t hL ⟨wL, fmL, i, hi, rfl, hi0, hi1, rfl⟩
  obtain ⟨⟨a1, a2⟩, ⟨a3, a4⟩, a5, a6⟩ := rds hL fmL
  have fmhL := fm0.trans fmL fun _ _ f => f
  rcases (show i = 0 ∨ i = 1 ∨ i = 2 by omega) with rfl | rfl | rfl
  · have c1 : ((0 : Nat) < 2) = True := by simp
    simp +contextual (disch := omega) only [↓AM, ↓AV, AP, CQ, i64, c1, a5]
    refine c_chk.use ?_
    rintro _ g wg ⟨rfl, fg⟩
    have fgL : Fm No hS g := fmL.trans ((Fm.new Fm.refl).trans fg fun _ _ f => f) fun _ _ f => f
    obtain ⟨⟨a1, a2⟩, ⟨a3, a4⟩, a5, a6⟩ := rds g fgL
    by_cases hR : okR F D
    case neg =>
      have e1 : chkR F D = 1 := if_neg hR
      simp +contextual (disch := omega) only [↓AM, ↓AV, AP, CQ, i64, e1, a4, rdp_n4]
      refine ⟨CvPost.no ?_ (by decide), (fm0.trans fgL fun _ _ f => f).put fun hlt => absurd hlt (by omega)⟩
      rw [cvErr, if_neg (fun q => hR q.1)]
    have e1 : chkR F D = 0 := if_pos hR
    simp +contextual (disch := omega) only [↓AM, ↓AV, AP, CQ, i64, e1]
    exact ⟨_, by omega, wg, fgL, 1, by omega, rfl, fun _ => hR, by omega, rfl⟩
  · have c1 : ((1 : Nat) < 2) = True := by simp
    simp +contextual (disch := omega) only [↓AM, ↓AV, AP, CQ, i64, c1, a6]
    refine c_chk.use ?_
    rintro _ g wg ⟨rfl, fg⟩
    have fgL : Fm No hS g := fmL.trans ((Fm.new Fm.refl).trans fg fun _ _ f => f) fun _ _ f => f
    obtain ⟨⟨a1, a2⟩, ⟨a3, a4⟩, a5, a6⟩ := rds g fgL
    by_cases hR : okR G E
    case neg =>
      have e1 : chkR G E = 1 := if_neg hR
      simp +contextual (disch := omega) only [↓AM, ↓AV, AP, CQ, i64, e1, a4, rdp_n4]
      refine ⟨CvPost.no ?_ (by decide), (fm0.trans fgL fun _ _ f => f).put fun hlt => absurd hlt (by omega)⟩
      rw [cvErr, if_neg (fun q => hR q.2)]
    have e1 : chkR G E = 0 := if_pos hR
    simp +contextual (disch := omega) only [↓AM, ↓AV, AP, CQ, i64, e1]
    exact ⟨_, by omega, wg, fgL, 2, by omega, rfl, fun _ => hi0 (by omega), fun _ => hR, rfl⟩
  · have c1 : ((2 : Nat) < 2) = False := by simp
    have hF := hi0 (by omega)
    have hG := hi1 (by omega)
    obtain ⟨Fn, rfl⟩ : ∃ z : Nat, F = (z : Int) := ⟨F.toNat, by have := hF.1; omega⟩
    obtain ⟨Gn, rfl⟩ : ∃ z : Nat, G = (z : Int) := ⟨G.toNat, by have := hG.1; omega⟩
    have hFn : 1 ≤ Fn ∧ Fn ≤ 60 := by have := hF.1; omega
    have hGn : 1 ≤ Gn ∧ Gn ≤ 60 := by have := hG.1; omega
    simp +contextual (disch := omega) only [↓AM, ↓AV, AP, CQ, i64, c1, a1, a3]
    refine c_Count.use ?_
    rintro _ h1 w1 ⟨rfl, fm1⟩
    have f1 := fmL.trans fm1 fun _ _ f => f
    obtain ⟨⟨a1, a2⟩, ⟨a3, a4⟩, -, -⟩ := rds h1 f1
    have hcv : cvErr (Fn : Int) D (Gn : Int) E H M S f = cErr (Fn : Int) D H M S f := if_pos ⟨hF, hG⟩
    by_cases he : cErr (Fn : Int) D H M S f = 0
    case neg =>
      have e1 : EqI (cErr (Fn : Int) D H M S f) 0 = False := eq_false he
      simp +contextual (disch := omega) only [↓AM, ↓AV, AP, CQ, i64, e1, a4, rdp_n4]
      exact ⟨CvPost.no hcv.symm he, (fm0.trans f1 fun _ _ f => f).put fun hlt => absurd hlt (by omega)⟩
    have hok : okC (Fn : Int) H M S f := Classical.byContradiction fun hn => by rw [cErr, if_pos hF, rErr, if_neg hn] at he; exact absurd he (by decide)
    obtain ⟨n0, n1⟩ := cntZ_b (D := D) hF.1 hok
    obtain ⟨n, hn⟩ : ∃ n : Nat, cntZ (Fn : Int) D H M S f = (n : Int) := ⟨_, (Int.toNat_of_nonneg n0).symm⟩
    rw [hn] at n0 n1
    rw [if_pos he, hn]
    obtain ⟨hP, hhP⟩ : ∃ g, h1.new ⟨[.int .i64 0, .bool false], .own⟩ = g := ⟨_, rfl⟩
    obtain ⟨hQ, hhQ⟩ : ∃ g, hP.new ⟨[.int .i64 (Fn : Int), .bool D], .own⟩ = g := ⟨_, rfl⟩
    have wP : Wf hP := hhP ▸ w1.new
    have wQ : Wf hQ := hhQ ▸ wP.new
    have fP : Fm No h1 hP := hhP ▸ Fm.new Fm.refl
    have fQ : Fm No hP hQ := hhQ ▸ Fm.new Fm.refl
    have sP : hP.size = h1.size + 1 := by rw [← hhP]; rfl
    have sQ : hQ.size = h1.size + 2 := by rw [← hhQ, size_new, sP]
    have gP : hP.get h1.size = some ⟨[.int .i64 0, .bool false], .own⟩ := hhP ▸ gnew
    have gQ : hQ.get hP.size = some ⟨[.int .i64 (Fn : Int), .bool D], .own⟩ := hhQ ▸ gnew
    have gP := fQ.keep wP gP (fun f => f)
    have f1Q := (f1.trans fP fun _ _ f => f).trans fQ fun _ _ f => f
    obtain ⟨⟨b1, b2⟩, ⟨b3, b4⟩, -, -⟩ := rds hQ f1Q
    have s1 := f1.size
    obtain ⟨z14, hz14⟩ : ∃ z, h1.size = z := ⟨_, rfl⟩
    obtain ⟨z13, hz13⟩ : ∃ z, hP.size = z := ⟨_, rfl⟩
    rw [hz14] at gP sP sQ s1
    rw [hz13] at gQ sP
    have wR : Wf (hQ.put z14 ⟨[.int .i64 (Gn : Int), .bool E], .own⟩) := wQ.put (wQ.lt gP)
    have fR : Fm No hS (hQ.put z14 ⟨[.int .i64 (Gn : Int), .bool E], .own⟩) := f1Q.put fun hlt => absurd hlt (by omega)
    have gR14 : (hQ.put z14 ⟨[.int .i64 (Gn : Int), .bool E], .own⟩).get z14 = some ⟨[.int .i64 (Gn : Int), .bool E], .own⟩ := gput
    have gR13 : (hQ.put z14 ⟨[.int .i64 (Gn : Int), .bool E], .own⟩).get z13 = some ⟨[.int .i64 (Fn : Int), .bool D], .own⟩ := (get_put (by omega)).trans gQ
    have sR : (hQ.put z14 ⟨[.int .i64 (Gn : Int), .bool E], .own⟩).size = hQ.size := rfl
    obtain ⟨hR, hhR⟩ : ∃ g, hQ.put z14 ⟨[.int .i64 (Gn : Int), .bool E], .own⟩ = g := ⟨_, rfl⟩
    rw [hhR] at wR fR gR14 gR13 sR
    have r14 : ∀ g : Hp, Fm No hR g → g.rdN z14 0 2 = some [.int .i64 (Gn : Int), .bool E] ∧ g.rdN z13 0 2 = some [.int .i64 (Fn : Int), .bool D] := fun g fg =>
      ⟨rdN_mk (fg.keep wR gR14 (fun f => f)) (Nat.le_refl 2), rdN_mk (fg.keep wR gR13 (fun f => f)) (Nat.le_refl 2)⟩
    obtain ⟨c14, c13⟩ := r14 hR Fm.refl
    obtain ⟨⟨d1, d2⟩, ⟨d3, d4⟩, -, -⟩ := rds hR fR
    simp +contextual (disch := omega) only [↓AM, ↓AV, AP, CQ, i64, he, a1, a2]
    simp +contextual (disch := omega) only [↓AM, ↓AV, AP, CQ, i64, hhP, hhQ, hz14, hz13, b1, b2, gP, hhR, c13]
    refine ⟨⟨_, rfl, rfl⟩, ?_⟩
    have uF := up_pos (D := D) hFn
    have uG := up_pos (D := E) hGn
    have dD := dn_pos (D := D)
    have dE := dn_pos (D := E)
    obtain ⟨r1, r2⟩ := red (upN Fn D) (dnN D)
    obtain ⟨r3, r4⟩ := red (upN Gn E) (dnN E)
    refine (c_ratio (p := n) (q := 1) (by omega) (by decide) (by decide)).use ?_
    rintro _ h2 w2 ⟨x1, rfl, hx1, ra1, fm2⟩
    rw [Nat.gcd_one_right, Nat.div_one, Nat.div_one] at ra1
    obtain ⟨c14, c13⟩ := r14 h2 fm2
    simp +contextual (disch := omega) only [↓AM, ↓AV, AP, CQ, i64, hhP, hhQ, hz14, hz13, c13]
    refine ⟨⟨_, rfl, rfl⟩, ?_⟩
    refine (c_rate (D := D) hFn).use ?_
    rintro _ h3 w3 ⟨x2, rfl, hx2, ra2, fm3⟩
    have fm23 := fm2.trans fm3 fun _ _ f => f
    obtain ⟨c14, c13⟩ := r14 h3 fm23
    obtain ⟨A, hA0⟩ : ∃ z, z = upN Fn D / rtG Fn D := ⟨_, rfl⟩
    obtain ⟨B, hB0⟩ : ∃ z, z = dnN D / rtG Fn D := ⟨_, rfl⟩
    rw [← hA0, ← hB0] at ra2
    have r1' : upN Fn D = rtG Fn D * A := by rw [hA0]; exact r1
    have r2' : dnN D = rtG Fn D * B := by rw [hB0]; exact r2
    have hAp : 0 < A := Nat.pos_of_ne_zero fun e => by rw [e, Nat.mul_zero] at r1'; omega
    have hBp : 0 < B := Nat.pos_of_ne_zero fun e => by rw [e, Nat.mul_zero] at r2'; omega
    have hAle : A ≤ 60000 := Nat.le_trans (hA0 ▸ Nat.div_le_self _ _) uF.2
    have hBle : B ≤ 1001 := Nat.le_trans (hB0 ▸ Nat.div_le_self _ _) dD.2
    have big : ∀ {z : Nat}, z < 18446744073709551616 → z < B32 ^ 2 := fun h => Nat.lt_of_lt_of_le h (by decide)
    simp +contextual (disch := omega) only [↓AM, ↓AV, AP, CQ, i64, hhP, hhQ, hz14, hz13, c13]
    have fmT : Fm No h3 (h3.new ⟨[.bool false, .slice none 0 0, .bool false, .slice none 0 0], .own⟩) := Fm.new Fm.refl
    refine (c_QuoR (x_new4 (h := h3)) ((ra1.keep w2 fm3).keep w3 fmT) (ra2.keep w3 fmT) (big (by omega)) (big (by omega)) (big (by omega)) (big (by omega)) (by decide) hBp hAp (by omega)).use ?_
    rintro _ h4 w4 ⟨rfl, wr4, ra4⟩
    have fm34 : Fm No h3 h4 := wr_new w3 wr4
    have fm24 := fm23.trans fm34 fun _ _ f => f
    obtain ⟨c14, c13⟩ := r14 h4 fm24
    obtain ⟨g2, hg2⟩ : ∃ z, z = Nat.gcd (n * B) (1 * A) := ⟨_, rfl⟩
    rw [← hg2] at ra4
    obtain ⟨p, hp0⟩ : ∃ z, z = n * B / g2 := ⟨_, rfl⟩
    obtain ⟨q, hq0⟩ : ∃ z, z = 1 * A / g2 := ⟨_, rfl⟩
    rw [← hp0, ← hq0] at ra4
    have hnB : n * B ≤ 6000000 * 1001 := Nat.mul_le_mul (by omega) hBle
    have hple : p ≤ 6000000 * 1001 := Nat.le_trans (hp0 ▸ Nat.div_le_self _ _) hnB
    have hqle : q ≤ 60000 := Nat.le_trans (hq0 ▸ Nat.div_le_self _ _) (by omega)
    have hqp : 0 < q := Nat.pos_of_ne_zero fun e => by
      have := (red (n * B) (1 * A)).2
      rw [← hg2, ← hq0, e, Nat.mul_zero] at this
      omega
    obtain ⟨⟨d1, d2⟩, ⟨d3, d4⟩, -, -⟩ := rds h4 (fR.trans fm24 fun _ _ f => f)
    simp +contextual (disch := omega) only [↓AM, ↓AV, AP, CQ, i64, hhP, hhQ, hz14, hz13, c14]
    refine (c_rate (D := E) hGn).use ?_
    rintro _ h5 w5 ⟨x3, rfl, hx3, ra5, fm5⟩
    have fm25 := fm24.trans fm5 fun _ _ f => f
    obtain ⟨c14, c13⟩ := r14 h5 fm25
    obtain ⟨C, hC0⟩ : ∃ z, z = upN Gn E / rtG Gn E := ⟨_, rfl⟩
    obtain ⟨K, hK0⟩ : ∃ z, z = dnN E / rtG Gn E := ⟨_, rfl⟩
    rw [← hC0, ← hK0] at ra5
    have hCle : C ≤ 60000 := Nat.le_trans (hC0 ▸ Nat.div_le_self _ _) uG.2
    have hKle : K ≤ 1001 := Nat.le_trans (hK0 ▸ Nat.div_le_self _ _) dE.2
    have hKp : 0 < K := Nat.pos_of_ne_zero fun e => by
      have : dnN E = rtG Gn E * K := by rw [hK0]; exact r4
      rw [e, Nat.mul_zero] at this; omega
    simp +contextual (disch := omega) only [↓AM, ↓AV, AP, CQ, i64, hhP, hhQ, hz14, hz13, c14]
    refine ⟨⟨_, rfl, rfl⟩, ⟨_, rfl, rfl⟩, ?_⟩
    have ra4' := ra4.keep w4 fm5
    have hqK : q * K ≤ 60000 * 1001 := Nat.mul_le_mul hqle hKle
    have hpC : p * C ≤ 6000000 * 1001 * 60000 := Nat.mul_le_mul hple hCle
    refine (c_MulR ra4'.2.x ra4' ra5 (big (by omega)) (big (by omega)) (big (by omega)) (big (by omega)) hqp hKp (by omega)).use ?_
    rintro _ h6 w6 ⟨rfl, wr6, ra6⟩
    have s3 := fm23.size
    have fm26 : Fm No hR h6 := fm25.trans wr6.fm fun z hz e => by subst e; omega
    obtain ⟨c14, c13⟩ := r14 h6 fm26
    obtain ⟨g4', hg4⟩ : ∃ z, z = Nat.gcd (p * C) (q * K) := ⟨_, rfl⟩
    rw [← hg4] at ra6
    have hval := cv_same (n := n) (D := D) (E := E) hFn hGn hA0 hB0 hC0 hK0 hg2 hp0 hq0 hg4
    obtain ⟨p', hp1⟩ : ∃ z, z = p * C / g4' := ⟨_, rfl⟩
    obtain ⟨q', hq1⟩ : ∃ z, z = q * K / g4' := ⟨_, rfl⟩
    rw [← hp1, ← hq1] at ra6 hval
    have hp'le : p' ≤ 6000000 * 1001 * 60000 := Nat.le_trans (hp1 ▸ Nat.div_le_self _ _) hpC
    have hq'le : q' ≤ 60000 * 1001 := Nat.le_trans (hq1 ▸ Nat.div_le_self _ _) hqK
    have hq'p : 0 < q' := Nat.pos_of_ne_zero fun e => by
      have := (red (p * C) (q * K)).2
      rw [← hg4, ← hq1, e, Nat.mul_zero] at this
      have := Nat.mul_pos hqp hKp
      omega
    simp +contextual (disch := omega) only [↓AM, ↓AV, AP, CQ, i64, hhP, hhQ, hz14, hz13, c14]
    refine ⟨⟨_, rfl, rfl⟩, ⟨_, rfl, rfl⟩, ?_⟩
    have big4 : ∀ {z : Nat}, z < 18446744073709551616 → z < B32 ^ 4 := fun h => Nat.lt_of_lt_of_le h (by decide)
    refine (c_cdown ra6 (big4 (by omega)) hq'p (by omega)).use ?_
    rintro _ h7 w7 ⟨x7, rfl, hx7, na7, fm7⟩
    rw [hval] at na7
    have fm27 := fm26.trans fm7 fun _ _ f => f
    obtain ⟨c14, c13⟩ := r14 h7 fm27
    simp +contextual (disch := omega) only [↓AM, ↓AV, AP, CQ, i64, hhP, hhQ, hz14, hz13, c14]
    refine ⟨⟨_, rfl, rfl⟩, ⟨_, rfl, rfl⟩, ?_⟩
    have hNle : cvN n Fn D Gn E ≤ p' := by rw [← hval]; exact Nat.div_le_self _ _
    refine (c_modulo (F := Gn) (D := E) hGn na7 (big4 (by omega))).use ?_
    rintro _ h8 w8 ⟨rfl, fm8⟩
    have fm28 := fm27.trans fm8 fun _ _ f => f
    obtain ⟨c14, c13⟩ := r14 h8 fm28
    simp +contextual (disch := omega) only [↓AM, ↓AV, AP, CQ, i64, hhP, hhQ, hz14, hz13, c14]
    refine ⟨⟨_, rfl, rfl⟩, ?_⟩
    have hdm := miss_b E hG.1
    obtain ⟨T, y, t1, t2, t3, t4⟩ := nb_find (F := (Gn : Int)) (D := E) hG.1 (Int.emod_nonneg ((cvN n Fn D Gn E : Nat) : Int) (show 144 * (600 * (Gn : Int) - 9 * missN (Gn : Int) E) ≠ 0 by omega)) (Int.emod_lt_of_pos _ (by omega))
    refine (c_code (F := (Gn : Int)) (D := E) hG.1 t1 t2 t3 t4).use ?_
    rintro _ h9 w9 ⟨rfl, fm9⟩
    have fm29 := fm28.trans fm9 fun _ _ f => f
    have fm9S := fR.trans fm29 fun _ _ f => f
    obtain ⟨⟨d1, d2⟩, ⟨d3, d4⟩, -, -⟩ := rds h9 fm9S
    simp +contextual (disch := omega) only [↓AM, ↓AV, AP, CQ, i64, hhP, hhQ, hz14, hz13, d4, rdp_n4]
    refine ⟨⟨_, _, _, _, 0, rfl, by rw [hcv, he], fun h => absurd rfl h, fun _ => ⟨T, y, rfl, t1, t2, t3, ?_⟩⟩, (fm0.trans fm9S fun _ _ f => f).put fun hlt => absurd hlt (by omega)⟩
    rw [t4, hn]
    rfl
end Go.Proofs.Ytnibipabfdalcaa.Nu
