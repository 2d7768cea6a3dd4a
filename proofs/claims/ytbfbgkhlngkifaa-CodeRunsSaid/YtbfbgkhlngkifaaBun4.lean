/- Tracks checked by both, the whole. Plain theorems over the abstract machine.
   Conditions: none. -/
import Derived.Test.YtbfbgkhlngkifaaBun3
import Derived.Laws.Strings
namespace Go.Proofs.Ytbfbgkhlngkifaa.Mv
open Go Go.RowKit Go.Proofs.Ytbfbgkhlngkifaa.Am Go.Proofs.Ytbfbgkhlngkifaa.Af Go.Proofs.Ytbfbgkhlngkifaa.Md
set_option linter.unusedVariables false
set_option linter.unusedSimpArgs false
set_option linter.defProp false
set_option maxRecDepth 20000
set_option maxHeartbeats 4000000

theorem c_mtrack {h : Hp} {t : Trk} {v e r s : Value} (a1 : SlV h byteK t.setup v) (a2 : SlV h edtK t.edits e) (a3 : SlV h refK t.refs r) (a4 : SlV h smpK t.smps s) (hw : TrkW t) :
    ACalls Try.prog 23 [.agg #[.int .i64 t.id, .int .i64 t.kind, .string t.codec, .int .i64 t.scale, v, .string t.lang, .string t.name, .int .i64 t.pre, e, r, s]] h fun u h' => u = .int .i64 (trkE t) ∧ Fm No h h' := by
  refine model_CheckTrack_ok.snd hm rfl fun w => ?_
  rw [WF_eq, model_CheckTrack]
  obtain ⟨va, vc, rfl⟩ := a1.val
  obtain ⟨ea, ec, rfl⟩ := a2.val
  obtain ⟨ra, rc, rfl⟩ := a3.val
  obtain ⟨sa, sc, rfl⟩ := a4.val
  have hw0 := hw
  obtain ⟨w1, w2, w3, w4, w5, w6, w7, w8, w9⟩ := hw
  obtain ⟨hB, eB⟩ : ∃ g, h.new ⟨[.int .i64 t.id, .int .i64 t.kind, .string t.codec, .int .i64 t.scale, .slice va t.setup.length vc, .string t.lang, .string t.name, .int .i64 t.pre, .slice ea t.edits.length ec, .slice ra t.refs.length rc, .slice sa t.smps.length sc], .own⟩ = g := ⟨_, rfl⟩
  have wB : Wf hB := eB ▸ w.new
  have f0 : Fm No h hB := eB ▸ Fm.new Fm.refl
  have gB : hB.get h.size = some ⟨[.int .i64 t.id, .int .i64 t.kind, .string t.codec, .int .i64 t.scale, .slice va t.setup.length vc, .string t.lang, .string t.name, .int .i64 t.pre, .slice ea t.edits.length ec, .slice ra t.refs.length rc, .slice sa t.smps.length sc], .own⟩ := eB ▸ gnew
  have rds : ∀ g, Fm No hB g → (g.rd h.size 0 = some (.int .i64 t.id) ∧ g.rd h.size 1 = some (.int .i64 t.kind) ∧ g.rd h.size 2 = some (.string t.codec) ∧ g.rd h.size 3 = some (.int .i64 t.scale)) ∧ (g.rd h.size 4 = some (.slice va t.setup.length vc) ∧ g.rd h.size 5 = some (.string t.lang) ∧ g.rd h.size 6 = some (.string t.name) ∧ g.rd h.size 7 = some (.int .i64 t.pre)) ∧
      (g.rd h.size 8 = some (.slice ea t.edits.length ec) ∧ g.rd h.size 9 = some (.slice ra t.refs.length rc) ∧ g.rd h.size 10 = some (.slice sa t.smps.length sc)) ∧ g.rdN h.size 0 11 = some [.int .i64 t.id, .int .i64 t.kind, .string t.codec, .int .i64 t.scale, .slice va t.setup.length vc, .string t.lang, .string t.name, .int .i64 t.pre, .slice ea t.edits.length ec, .slice ra t.refs.length rc, .slice sa t.smps.length sc] := fun g fg => by
    have k := fg.keep wB gB (fun f => f)
    exact ⟨⟨rd_mk k, rd_mk k, rd_mk k, rd_mk k⟩, ⟨rd_mk k, rd_mk k, rd_mk k, rd_mk k⟩, ⟨rd_mk k, rd_mk k, rd_mk k⟩, by rw [rdN_mk k (Nat.le_refl 11)]; rfl⟩
  have u := rds hB Fm.refl
  simp +contextual (disch := omega) only [↓AM, ↓AV, AP, CQ, CR, eB, i64, u]
  refine c_mwithin.use ?_
  rintro _ g9 w0 ⟨rfl, e9⟩
  subst g9
  by_cases h1 : 1 ≤ t.id ∧ t.id ≤ 1000
  case neg =>
    simp +contextual (disch := omega) only [↓AM, ↓AV, AP, CQ, CR, eB, u, h1]
    exact ⟨by unfold trkE; rw [if_pos (fun q => h1 q.1.1)], f0⟩
  simp +contextual (disch := omega) only [↓AM, ↓AV, AP, CQ, CR, eB, u, h1]
  refine c_mwithin.use ?_
  rintro _ g9 w0 ⟨rfl, e9⟩
  subst g9
  by_cases h2 : 1 ≤ t.kind ∧ t.kind ≤ 7
  case neg =>
    simp +contextual (disch := omega) only [↓AM, ↓AV, AP, CQ, CR, eB, u, h2]
    exact ⟨by unfold trkE; rw [if_pos (fun q => h2 q.1.2.1)], f0⟩
  simp +contextual (disch := omega) only [↓AM, ↓AV, AP, CQ, CR, eB, u, h2]
  refine (c_ltr w1).use ?_
  rintro _ g9 w0 ⟨rfl, e9⟩
  subst g9
  by_cases h3 : ltrB t.codec = true
  case neg =>
    simp +contextual (disch := omega) only [↓AM, ↓AV, AP, CQ, CR, eB, u, h3]
    exact ⟨by unfold trkE; rw [if_pos (fun q => h3 q.1.2.2.1)], f0⟩
  simp +contextual (disch := omega) only [↓AM, ↓AV, AP, CQ, CR, eB, u, h3]
  refine c_mwithin.use ?_
  rintro _ g9 w0 ⟨rfl, e9⟩
  subst g9
  by_cases h4 : 1 ≤ t.scale ∧ t.scale ≤ 1000000
  case neg =>
    simp +contextual (disch := omega) only [↓AM, ↓AV, AP, CQ, CR, eB, u, h4]
    exact ⟨by unfold trkE; rw [if_pos (fun q => h4 q.1.2.2.2.1)], f0⟩
  simp +contextual (disch := omega) only [↓AM, ↓AV, AP, CQ, CR, eB, u, h4]
  refine (c_lng w2).use ?_
  rintro _ g9 w0 ⟨rfl, e9⟩
  subst g9
  by_cases h5 : lngB t.lang = true
  case neg =>
    simp +contextual (disch := omega) only [↓AM, ↓AV, AP, CQ, CR, eB, u, h5]
    exact ⟨by unfold trkE; rw [if_pos (fun q => h5 q.1.2.2.2.2.1)], f0⟩
  simp +contextual (disch := omega) only [↓AM, ↓AV, AP, CQ, CR, eB, u, h5]
  refine (c_isName w3).use ?_
  rintro _ g9 w0 ⟨rfl, e9⟩
  subst g9
  by_cases h6 : nameB t.name = true
  case neg =>
    simp +contextual (disch := omega) only [↓AM, ↓AV, AP, CQ, CR, eB, u, h6]
    exact ⟨by unfold trkE; rw [if_pos (fun q => h6 q.1.2.2.2.2.2.1)], f0⟩
  simp +contextual (disch := omega) only [↓AM, ↓AV, AP, CQ, CR, eB, u, h6]
  refine c_mwithin.use ?_
  rintro _ g9 w0 ⟨rfl, e9⟩
  subst g9
  by_cases h7 : 0 ≤ t.pre ∧ t.pre ≤ 1099511627776
  case neg =>
    simp +contextual (disch := omega) only [↓AM, ↓AV, AP, CQ, CR, eB, u, h7]
    exact ⟨by unfold trkE; rw [if_pos (fun q => h7 q.1.2.2.2.2.2.2)], f0⟩
  have hf : fldP t := ⟨h1, h2, h3, h4, h5, h6, h7⟩
  simp +contextual (disch := omega) only [↓AM, ↓AV, AP, CQ, CR, eB, u, h7]
  refine WL.mk (fun k t' h' => ∃ (j : Nat), Wf h' ∧ Fm No hB h' ∧ j ≤ t.refs.length ∧ k = t.refs.length - j ∧ (t.refs.take j).all (fun r => ltrB r.1) = true ∧ t' = [(1, some (.pointer (some ⟨h.size, 0, none⟩))), (53, some (.slice ra t.refs.length rc)), (54, some (.int .i64 (t.refs.length : Int))), (55, some (.int .i64 (j : Int)))])
    ⟨t.refs.length, 0, wB, Fm.refl, by omega, rfl, rfl, rfl⟩ ?_
  rintro k t' hC ⟨j, wC, fC, hj, rfl, ha, rfl⟩
  have f1 := f0.trans fC fun _ _ f => f
  by_cases hjn : j < t.refs.length
  · obtain ⟨b1, o1, s1, x, cs, rfl, g1, hx, hxa, hxr⟩ := (a3.keep w f1).el hjn
    have := ref_open hxa
    subst this
    have hxr : hC.rdN b1 (o1 + j * 2) 2 = some [.string x.1, .int .i64 x.2] := hxr
    obtain ⟨hD, eD⟩ : ∃ g, hC.new ⟨[.string x.1, .int .i64 x.2], .own⟩ = g := ⟨_, rfl⟩
    have wD : Wf hD := eD ▸ wC.new
    have fD : Fm No hC hD := eD ▸ Fm.new Fm.refl
    have gD : hD.get hC.size = some ⟨[.string x.1, .int .i64 x.2], .own⟩ := eD ▸ gnew
    have u0 : hD.rd hC.size 0 = some (.string x.1) := rd_mk gD
    have fBD := fC.trans fD fun _ _ f => f
    simp +contextual (disch := omega) only [↓AM, ↓AV, AP, CQ, CR, hjn, g1, hxr, eD, u0]
    refine (c_ltr (w7 x (List.mem_of_getElem? hx))).use ?_
    rintro _ g9 w0 ⟨rfl, e9⟩
    subst g9
    by_cases k1 : ltrB x.1 = true
    · simp +contextual (disch := omega) only [↓AM, ↓AV, AP, CQ, CR, k1, i64]
      exact ⟨t.refs.length - (j + 1), by omega, j + 1, wD, fBD, by omega, rfl, all_tk ha hx k1, rfl⟩
    · simp +contextual (disch := omega) only [↓AM, ↓AV, AP, CQ, CR, k1]
      exact ⟨by unfold trkE; rw [if_pos (fun q => by have := q.2; unfold refsB at this; rw [all_no hx (by simpa using k1)] at this; cases this)], f0.trans fBD fun _ _ f => f⟩
  rw [List.take_of_length_le (by omega)] at ha
  have u := rds hC fC
  have hnf : ¬ ¬ (fldP t ∧ refsB t = true) := fun q => q ⟨hf, ha⟩
  simp +contextual (disch := omega) only [↓AM, ↓AV, AP, CQ, CR, hjn, u]
  by_cases l1 : (1000 : Int) < (t.setup.length : Int)
  · simp +contextual (disch := omega) only [↓AM, ↓AV, AP, CQ, CR, eB, u, l1]
    exact ⟨by unfold trkE limP; rw [if_neg hnf, if_pos (by omega)], f1⟩
  by_cases l2 : (20 : Int) < (t.edits.length : Int)
  · simp +contextual (disch := omega) only [↓AM, ↓AV, AP, CQ, CR, eB, u, l1, l2]
    exact ⟨by unfold trkE limP; rw [if_neg hnf, if_pos (by omega)], f1⟩
  by_cases l3 : (8 : Int) < (t.refs.length : Int)
  · simp +contextual (disch := omega) only [↓AM, ↓AV, AP, CQ, CR, eB, u, l1, l2, l3]
    exact ⟨by unfold trkE limP; rw [if_neg hnf, if_pos (by omega)], f1⟩
  by_cases l4 : (400 : Int) < (t.smps.length : Int)
  · simp +contextual (disch := omega) only [↓AM, ↓AV, AP, CQ, CR, eB, u, l1, l2, l3, l4]
    exact ⟨by unfold trkE limP; rw [if_neg hnf, if_pos (by omega)], f1⟩
  have hlim : ¬ ¬ limP t := fun q => q (by unfold limP; omega)
  simp +contextual (disch := omega) only [↓AM, ↓AV, AP, CQ, CR, u, l1, l2, l3, l4]
  refine WL.mk (fun k t' h' => ∃ (j : Nat), Wf h' ∧ Fm No hB h' ∧ j ≤ t.edits.length ∧ k = t.edits.length - j ∧ (t.edits.take j).all (fun x => decide (edP x)) = true ∧
      t' = [(1, some (.pointer (some ⟨h.size, 0, none⟩))), (5, some (.int .i64 (sumD (t.edits.take j)))), (87, some (.slice ea t.edits.length ec)), (88, some (.int .i64 (t.edits.length : Int))), (89, some (.int .i64 (j : Int)))])
    ⟨t.edits.length, 0, wC, fC, by omega, rfl, rfl, rfl⟩ ?_
  rintro k t' h1' ⟨j, w1', f1', hj, rfl, ha', rfl⟩
  have f01 := f0.trans f1' fun _ _ f => f
  have hsb := sumD_b ha'
  rw [List.length_take, Nat.min_eq_left hj] at hsb
  have hj20 : (j : Int) * 1099511627776 ≤ 21990232555520 := by omega
  by_cases hjn : j < t.edits.length
  · obtain ⟨b1, o1, s1, x, cs, rfl, g1, hx, hxa, hxr⟩ := (a2.keep w f01).el hjn
    have := edt_open hxa
    subst this
    have hxr : h1'.rdN b1 (o1 + j * 4) 4 = some [.int .i64 x.1, .int .i64 x.2.1, .int .i64 x.2.2.1, .int .i64 x.2.2.2] := hxr
    obtain ⟨h2', e2⟩ : ∃ g, h1'.new ⟨[.int .i64 x.1, .int .i64 x.2.1, .int .i64 x.2.2.1, .int .i64 x.2.2.2], .own⟩ = g := ⟨_, rfl⟩
    have wA : Wf h2' := e2 ▸ w1'.new
    have f12 : Fm No h1' h2' := e2 ▸ Fm.new Fm.refl
    have fB2 := f1'.trans f12 fun _ _ f => f
    have f02 := f0.trans fB2 fun _ _ f => f
    have g2 : h2'.get h1'.size = some ⟨[.int .i64 x.1, .int .i64 x.2.1, .int .i64 x.2.2.1, .int .i64 x.2.2.2], .own⟩ := e2 ▸ gnew
    have u0 : h2'.rd h1'.size 0 = some (.int .i64 x.1) := rd_mk g2
    have u1 : h2'.rd h1'.size 1 = some (.int .i64 x.2.1) := rd_mk g2
    have u2 : h2'.rd h1'.size 2 = some (.int .i64 x.2.2.1) := rd_mk g2
    have u3 : h2'.rd h1'.size 3 = some (.int .i64 x.2.2.2) := rd_mk g2
    have bad : ¬ edP x → Value.int .i64 33 = .int .i64 (trkE t) := fun q => by
      unfold trkE
      rw [if_neg hnf, if_neg hlim, if_pos (by unfold edsB; rw [all_no hx (by rw [decide_eq_false q]), Bool.false_and])]
    obtain ⟨mn, hmn, hmn4⟩ : ∃ mn : Int, (if (1099511627776 : Int) < x.1 then (1099511627776 : Int) else x.1) = mn ∧ (x.1 ≤ 1099511627776 → mn = x.1) := ⟨_, rfl, fun q => if_neg (by omega)⟩
    have im : intMin [Value.int .i64 x.1, .int .i64 1099511627776] = some (.int .i64 mn) := by
      show (if IntKind.i64 = IntKind.i64 then some (Value.int .i64 (if (1099511627776 : Int) < x.1 then 1099511627776 else x.1)) else none) = _
      rw [if_pos rfl, hmn]
    obtain ⟨b8, hb8, hkk⟩ : ∃ b8 : Bool, (b8 = true ↔ (x.2.1 = -1 ∧ (x.2.2.1 ≠ 1 ∨ x.2.2.2 ≠ 1))) ∧ ((x.2.1 = -1) = False ∧ b8 = false ∨ (x.2.1 = -1) = True ∧ (x.2.2.1 = 1) = False ∧ b8 = true ∨ (x.2.1 = -1) = True ∧ (x.2.2.1 = 1) = True ∧ (x.2.2.2 = 1) = False ∧ b8 = true ∨ (x.2.1 = -1) = True ∧ (x.2.2.1 = 1) = True ∧ (x.2.2.2 = 1) = True ∧ b8 = false) := by
      by_cases k1 : x.2.1 = -1
      · by_cases k2 : x.2.2.1 = 1
        · by_cases k3 : x.2.2.2 = 1
          · exact ⟨false, ⟨fun q => (by cases q), fun q => (by omega)⟩, .inr (.inr (.inr ⟨eq_true k1, eq_true k2, eq_true k3, rfl⟩))⟩
          · exact ⟨true, ⟨fun _ => ⟨k1, .inr k3⟩, fun _ => rfl⟩, .inr (.inr (.inl ⟨eq_true k1, eq_true k2, eq_false k3, rfl⟩))⟩
        · exact ⟨true, ⟨fun _ => ⟨k1, .inl k2⟩, fun _ => rfl⟩, .inr (.inl ⟨eq_true k1, eq_false k2, rfl⟩)⟩
      · exact ⟨false, ⟨fun q => (by cases q), fun q => absurd q.1 k1⟩, .inl ⟨eq_false k1, rfl⟩⟩
    rcases hkk with ⟨q1, rfl⟩ | ⟨q1, q2, rfl⟩ | ⟨q1, q2, q3, rfl⟩ | ⟨q1, q2, q3, rfl⟩
    · have hnb : x.1 ≤ 1099511627776 → mn = x.1 := hmn4
      simp +contextual (disch := omega) only [↓AM, ↓AV, AP, CQ, CR, EqI, hjn, g1, hxr, e2, im, u0, u1, u2, u3, q1]
      refine c_mwithin.use ?_
      rintro _ g9 w0 ⟨rfl, e9⟩
      subst g9
      by_cases c1 : 1 ≤ x.1 ∧ x.1 ≤ 1099511627776
      case neg =>
        simp +contextual (disch := omega) only [↓AM, ↓AV, AP, CQ, CR, c1]
        exact ⟨bad (fun q => c1 q.1), f02⟩
      simp +contextual (disch := omega) only [↓AM, ↓AV, AP, CQ, CR, c1, u1]
      refine c_mwithin.use ?_
      rintro _ g9 w0 ⟨rfl, e9⟩
      subst g9
      by_cases c2 : -1 ≤ x.2.1 ∧ x.2.1 ≤ 1099511627776
      case neg =>
        simp +contextual (disch := omega) only [↓AM, ↓AV, AP, CQ, CR, c2]
        exact ⟨bad (fun q => c2 q.2.1), f02⟩
      simp +contextual (disch := omega) only [↓AM, ↓AV, AP, CQ, CR, c2, u2]
      refine c_mwithin.use ?_
      rintro _ g9 w0 ⟨rfl, e9⟩
      subst g9
      by_cases c3 : 0 ≤ x.2.2.1 ∧ x.2.2.1 ≤ 1000
      case neg =>
        simp +contextual (disch := omega) only [↓AM, ↓AV, AP, CQ, CR, c3]
        exact ⟨bad (fun q => c3 q.2.2.1), f02⟩
      simp +contextual (disch := omega) only [↓AM, ↓AV, AP, CQ, CR, c3, u3]
      refine c_mwithin.use ?_
      rintro _ g9 w0 ⟨rfl, e9⟩
      subst g9
      by_cases c4 : 1 ≤ x.2.2.2 ∧ x.2.2.2 ≤ 1000
      case neg =>
        simp +contextual (disch := omega) only [↓AM, ↓AV, AP, CQ, CR, c4]
        exact ⟨bad (fun q => c4 q.2.2.2.1), f02⟩
      have hp : edP x := ⟨c1, c2, c3, c4, fun q => absurd (hb8.2 q) (by decide)⟩
      rw [hmn4 (by omega)]
      simp +contextual (disch := omega) only [↓AM, ↓AV, AP, CQ, CR, c4, i64]
      exact ⟨t.edits.length - (j + 1), by omega, j + 1, wA, fB2, by omega, rfl, all_tk ha' hx (decide_eq_true hp), by rw [sumD_S hx]⟩
    · have hnb : x.1 ≤ 1099511627776 → mn = x.1 := hmn4
      simp +contextual (disch := omega) only [↓AM, ↓AV, AP, CQ, CR, EqI, hjn, g1, hxr, e2, im, u0, u1, u2, u3, q1, q2]
      refine c_mwithin.use ?_
      rintro _ g9 w0 ⟨rfl, e9⟩
      subst g9
      by_cases c1 : 1 ≤ x.1 ∧ x.1 ≤ 1099511627776
      case neg =>
        simp +contextual (disch := omega) only [↓AM, ↓AV, AP, CQ, CR, c1]
        exact ⟨bad (fun q => c1 q.1), f02⟩
      simp +contextual (disch := omega) only [↓AM, ↓AV, AP, CQ, CR, c1, u1]
      refine c_mwithin.use ?_
      rintro _ g9 w0 ⟨rfl, e9⟩
      subst g9
      by_cases c2 : -1 ≤ x.2.1 ∧ x.2.1 ≤ 1099511627776
      case neg =>
        simp +contextual (disch := omega) only [↓AM, ↓AV, AP, CQ, CR, c2]
        exact ⟨bad (fun q => c2 q.2.1), f02⟩
      simp +contextual (disch := omega) only [↓AM, ↓AV, AP, CQ, CR, c2, u2]
      refine c_mwithin.use ?_
      rintro _ g9 w0 ⟨rfl, e9⟩
      subst g9
      by_cases c3 : 0 ≤ x.2.2.1 ∧ x.2.2.1 ≤ 1000
      case neg =>
        simp +contextual (disch := omega) only [↓AM, ↓AV, AP, CQ, CR, c3]
        exact ⟨bad (fun q => c3 q.2.2.1), f02⟩
      simp +contextual (disch := omega) only [↓AM, ↓AV, AP, CQ, CR, c3, u3]
      refine c_mwithin.use ?_
      rintro _ g9 w0 ⟨rfl, e9⟩
      subst g9
      by_cases c4 : 1 ≤ x.2.2.2 ∧ x.2.2.2 ≤ 1000
      case neg =>
        simp +contextual (disch := omega) only [↓AM, ↓AV, AP, CQ, CR, c4]
        exact ⟨bad (fun q => c4 q.2.2.2.1), f02⟩
      simp +contextual (disch := omega) only [↓AM, ↓AV, AP, CQ, CR, c4]
      exact ⟨bad fun q => q.2.2.2.2 (hb8.1 rfl), f02⟩
    · have hnb : x.1 ≤ 1099511627776 → mn = x.1 := hmn4
      simp +contextual (disch := omega) only [↓AM, ↓AV, AP, CQ, CR, EqI, hjn, g1, hxr, e2, im, u0, u1, u2, u3, q1, q2, q3]
      refine c_mwithin.use ?_
      rintro _ g9 w0 ⟨rfl, e9⟩
      subst g9
      by_cases c1 : 1 ≤ x.1 ∧ x.1 ≤ 1099511627776
      case neg =>
        simp +contextual (disch := omega) only [↓AM, ↓AV, AP, CQ, CR, c1]
        exact ⟨bad (fun q => c1 q.1), f02⟩
      simp +contextual (disch := omega) only [↓AM, ↓AV, AP, CQ, CR, c1, u1]
      refine c_mwithin.use ?_
      rintro _ g9 w0 ⟨rfl, e9⟩
      subst g9
      by_cases c2 : -1 ≤ x.2.1 ∧ x.2.1 ≤ 1099511627776
      case neg =>
        simp +contextual (disch := omega) only [↓AM, ↓AV, AP, CQ, CR, c2]
        exact ⟨bad (fun q => c2 q.2.1), f02⟩
      simp +contextual (disch := omega) only [↓AM, ↓AV, AP, CQ, CR, c2, u2]
      refine c_mwithin.use ?_
      rintro _ g9 w0 ⟨rfl, e9⟩
      subst g9
      by_cases c3 : 0 ≤ x.2.2.1 ∧ x.2.2.1 ≤ 1000
      case neg =>
        simp +contextual (disch := omega) only [↓AM, ↓AV, AP, CQ, CR, c3]
        exact ⟨bad (fun q => c3 q.2.2.1), f02⟩
      simp +contextual (disch := omega) only [↓AM, ↓AV, AP, CQ, CR, c3, u3]
      refine c_mwithin.use ?_
      rintro _ g9 w0 ⟨rfl, e9⟩
      subst g9
      by_cases c4 : 1 ≤ x.2.2.2 ∧ x.2.2.2 ≤ 1000
      case neg =>
        simp +contextual (disch := omega) only [↓AM, ↓AV, AP, CQ, CR, c4]
        exact ⟨bad (fun q => c4 q.2.2.2.1), f02⟩
      simp +contextual (disch := omega) only [↓AM, ↓AV, AP, CQ, CR, c4]
      exact ⟨bad fun q => q.2.2.2.2 (hb8.1 rfl), f02⟩
    · have hnb : x.1 ≤ 1099511627776 → mn = x.1 := hmn4
      simp +contextual (disch := omega) only [↓AM, ↓AV, AP, CQ, CR, EqI, hjn, g1, hxr, e2, im, u0, u1, u2, u3, q1, q2, q3]
      refine c_mwithin.use ?_
      rintro _ g9 w0 ⟨rfl, e9⟩
      subst g9
      by_cases c1 : 1 ≤ x.1 ∧ x.1 ≤ 1099511627776
      case neg =>
        simp +contextual (disch := omega) only [↓AM, ↓AV, AP, CQ, CR, c1]
        exact ⟨bad (fun q => c1 q.1), f02⟩
      simp +contextual (disch := omega) only [↓AM, ↓AV, AP, CQ, CR, c1, u1]
      refine c_mwithin.use ?_
      rintro _ g9 w0 ⟨rfl, e9⟩
      subst g9
      by_cases c2 : -1 ≤ x.2.1 ∧ x.2.1 ≤ 1099511627776
      case neg =>
        simp +contextual (disch := omega) only [↓AM, ↓AV, AP, CQ, CR, c2]
        exact ⟨bad (fun q => c2 q.2.1), f02⟩
      simp +contextual (disch := omega) only [↓AM, ↓AV, AP, CQ, CR, c2, u2]
      refine c_mwithin.use ?_
      rintro _ g9 w0 ⟨rfl, e9⟩
      subst g9
      by_cases c3 : 0 ≤ x.2.2.1 ∧ x.2.2.1 ≤ 1000
      case neg =>
        simp +contextual (disch := omega) only [↓AM, ↓AV, AP, CQ, CR, c3]
        exact ⟨bad (fun q => c3 q.2.2.1), f02⟩
      simp +contextual (disch := omega) only [↓AM, ↓AV, AP, CQ, CR, c3, u3]
      refine c_mwithin.use ?_
      rintro _ g9 w0 ⟨rfl, e9⟩
      subst g9
      by_cases c4 : 1 ≤ x.2.2.2 ∧ x.2.2.2 ≤ 1000
      case neg =>
        simp +contextual (disch := omega) only [↓AM, ↓AV, AP, CQ, CR, c4]
        exact ⟨bad (fun q => c4 q.2.2.2.1), f02⟩
      have hp : edP x := ⟨c1, c2, c3, c4, fun q => absurd (hb8.2 q) (by decide)⟩
      rw [hmn4 (by omega)]
      simp +contextual (disch := omega) only [↓AM, ↓AV, AP, CQ, CR, c4, i64]
      exact ⟨t.edits.length - (j + 1), by omega, j + 1, wA, fB2, by omega, rfl, all_tk ha' hx (decide_eq_true hp), by rw [sumD_S hx]⟩
  rw [List.take_of_length_le (by omega)] at ha'
  have u := rds h1' f1'
  have hts : t.edits.take j = t.edits := List.take_of_length_le (by omega)
  by_cases hsum : (1099511627776 : Int) < sumD t.edits
  · simp +contextual (disch := omega) only [↓AM, ↓AV, AP, CQ, CR, hjn, u, hts, hsum]
    exact ⟨by unfold trkE; rw [if_neg hnf, if_neg hlim, if_pos (by unfold edsB; rw [ha', decide_eq_false (by omega)]; rfl)], f01⟩
  have hed : edsB t.edits = true := by unfold edsB; rw [ha', decide_eq_true (by omega)]; rfl
  have hrest : trkE t = wE t.smps 0 t.smps := by unfold trkE; rw [if_neg hnf, if_neg hlim, if_neg (by rw [hed]; decide)]
  simp +contextual (disch := omega) only [↓AM, ↓AV, AP, CQ, CR, hjn, u, hts, hsum]
  refine WL.mk (fun k t' h' => ∃ (j : Nat), Wf h' ∧ Fm No hB h' ∧ j ≤ t.smps.length ∧ k = t.smps.length - j ∧ wE t.smps 0 t.smps = wE t.smps j (t.smps.drop j) ∧
      t' = [(1, some (.pointer (some ⟨h.size, 0, none⟩))), (140, some (.slice sa t.smps.length sc)), (141, some (.int .i64 (t.smps.length : Int))), (142, some (.int .i64 (j : Int)))])
    ⟨t.smps.length, 0, w1', f1', by omega, rfl, rfl, rfl⟩ ?_
  rintro k t' hE ⟨j, wE1, fE, hj, rfl, hwe, rfl⟩
  have f3 := f0.trans fE fun _ _ f => f
  by_cases hjn : j < t.smps.length
  · obtain ⟨b1, o1, s1, x, cs, rfl, g1, hx, hxa, hxr⟩ := (a4.keep w f3).el hjn
    obtain ⟨xv, xw, rfl, x1, x2⟩ := smp_open hxa
    have hxr : hE.rdN b1 (o1 + j * 6) 6 = some [.int .i64 x.dts, .int .i64 x.pts, .int .i64 x.dur, .bool x.sync, xv, xw] := hxr
    obtain ⟨dv, dcp, rfl⟩ := x1.val
    obtain ⟨dw, dcw, rfl⟩ := x2.val
    obtain ⟨hF, eF⟩ : ∃ g, hE.new ⟨[.int .i64 x.dts, .int .i64 x.pts, .int .i64 x.dur, .bool x.sync, .slice dv x.deps.length dcp, .slice dw x.data.length dcw], .own⟩ = g := ⟨_, rfl⟩
    have wF : Wf hF := eF ▸ wE1.new
    have fF : Fm No hE hF := eF ▸ Fm.new Fm.refl
    have gF : hF.get hE.size = some ⟨[.int .i64 x.dts, .int .i64 x.pts, .int .i64 x.dur, .bool x.sync, .slice dv x.deps.length dcp, .slice dw x.data.length dcw], .own⟩ := eF ▸ gnew
    have rF : hF.rdN hE.size 0 6 = some [.int .i64 x.dts, .int .i64 x.pts, .int .i64 x.dur, .bool x.sync, .slice dv x.deps.length dcp, .slice dw x.data.length dcw] := by rw [rdN_mk gF (Nat.le_refl 6)]; rfl
    have fBF := fE.trans fF fun _ _ f => f
    have f4 := f0.trans fBF fun _ _ f => f
    have u := rds hF fBF
    rw [wE_step hx] at hwe
    simp +contextual (disch := omega) only [↓AM, ↓AV, AP, CQ, CR, hjn, g1, hxr, eF, rF, u]
    refine (c_chkS (a4.keep w f4) rfl rfl rfl (x1.keep wE1 fF) (x2.keep wE1 fF) hx (by omega) (w9 x (List.mem_of_getElem? hx))).use ?_
    rintro _ hG wG ⟨rfl, fG⟩
    have fBG := fBF.trans fG fun _ _ f => f
    have hse : smpE j ((t.smps[j - 1]?.map Smp.dts).getD 0) x = smE t.smps j x := rfl
    rw [hse]
    by_cases he : smE t.smps j x = 0
    · have e0 : EqI (smE t.smps j x) 0 = True := eq_true he
      simp +contextual (disch := omega) only [↓AM, ↓AV, AP, CQ, CR, e0, i64]
      rw [if_pos he] at hwe
      exact ⟨t.smps.length - (j + 1), by omega, j + 1, wG, fBG, by omega, rfl, hwe, rfl⟩
    · have e0 : EqI (smE t.smps j x) 0 = False := eq_false he
      simp +contextual (disch := omega) only [↓AM, ↓AV, AP, CQ, CR, e0]
      rw [if_neg he] at hwe
      exact ⟨by rw [hrest, hwe], f0.trans fBG fun _ _ f => f⟩
  · rw [List.drop_eq_nil_of_le (by omega)] at hwe
    simp +contextual (disch := omega) only [↓AM, ↓AV, AP, CQ, CR, hjn]
    exact ⟨by rw [hrest, hwe]; rfl, f3⟩
end Go.Proofs.Ytbfbgkhlngkifaa.Mv

/- Where a track is; how many bytes all data have: both. Plain theorems over the abstract machine.
   Conditions: none. -/
namespace Go.Proofs.Ytbfbgkhlngkifaa.Mv
open Go Go.RowKit Go.Proofs.Ytbfbgkhlngkifaa.Am Go.Proofs.Ytbfbgkhlngkifaa.Af Go.Proofs.Ytbfbgkhlngkifaa.Md
set_option linter.unusedVariables false
set_option linter.unusedSimpArgs false
set_option linter.defProp false
set_option maxRecDepth 20000
set_option maxHeartbeats 4000000

/-- The first place, from n on, or -1. -/
def fst {α : Type} (p : α → Bool) : Nat → List α → Int
  | _, [] => -1
  | n, x :: xs => if p x = true then (n : Int) else fst p (n + 1) xs
theorem fst_hit {α : Type} {p : α → Bool} : ∀ {ls : List α} {n i : Nat} {x : α}, (ls.take i).all (fun x => !p x) = true → ls[i]? = some x → p x = true → fst p n ls = ((n + i : Nat) : Int)
  | [], n, i, x, _, h, _ => by simp at h
  | y :: ys, n, 0, x, _, h, hp => by
    simp at h
    subst h
    exact if_pos hp
  | y :: ys, n, i + 1, x, ha, h, hp => by
    rw [List.take_succ_cons, List.all_cons, Bool.and_eq_true] at ha
    show (if p y = true then _ else fst p (n + 1) ys) = _
    rw [if_neg (by intro e; rw [e] at ha; cases ha.1), fst_hit ha.2 (by simpa using h) hp]
    congr 1
    omega
theorem fst_none {α : Type} {p : α → Bool} : ∀ {ls : List α} {n : Nat}, ls.all (fun x => !p x) = true → fst p n ls = -1
  | [], n, _ => rfl
  | y :: ys, n, ha => by
    rw [List.all_cons, Bool.and_eq_true] at ha
    show (if p y = true then _ else fst p (n + 1) ys) = _
    rw [if_neg (by intro e; rw [e] at ha; cases ha.1), fst_none ha.2]
/-- Either none, or the first. -/
theorem fst_cases {α : Type} {p : α → Bool} (ls : List α) : (fst p 0 ls = -1 ∧ ∀ x ∈ ls, p x = false) ∨ ∃ (i : Nat) (x : α), ls[i]? = some x ∧ p x = true ∧ fst p 0 ls = (i : Int) ∧ ∀ (j : Nat) (y : α), j < i → ls[j]? = some y → p y = false := by
  by_cases h : ls.all (fun x => !p x) = true
  · exact .inl ⟨fst_none h, fun x hx => by have := List.all_eq_true.1 h x hx; simpa using this⟩
  · have key : ∀ (n : Nat), n ≤ ls.length → (ls.take n).all (fun x => !p x) = true ∨ ∃ (i : Nat) (x : α), ls[i]? = some x ∧ p x = true ∧ (ls.take i).all (fun x => !p x) = true := by
      intro n
      induction n with
      | zero => exact fun _ => .inl rfl
      | succ n ih =>
        intro hn
        rcases ih (by omega) with h1 | h1
        · have hx : ls[n]? = some (ls[n]'(by omega)) := List.getElem?_eq_getElem (by omega)
          cases hp : p (ls[n]'(by omega)) with
          | true => exact .inr ⟨n, _, hx, hp, h1⟩
          | false => exact .inl (all_tk h1 hx (by rw [hp]; rfl))
        · exact .inr h1
    rcases key ls.length (Nat.le_refl _) with h1 | ⟨i, x, h1, h2, h3⟩
    · rw [List.take_length] at h1
      exact absurd h1 h
    · refine .inr ⟨i, x, h1, h2, by rw [fst_hit h3 h1 h2, Nat.zero_add], fun j y hj hy => ?_⟩
      have hm : y ∈ ls.take i := List.mem_of_getElem? (i := j) (by rw [List.getElem?_take, if_pos hj]; exact hy)
      have := List.all_eq_true.1 h3 y hm
      simpa using this
def isI (id : Int) (t : Trk) : Bool := decide (t.id = id)
def findT (L : List Trk) (id : Int) : Int := fst (isI id) 0 L
theorem c_find1 {h : Hp} {t : Trk} {cs : List Value} {b : Nat} {id : Int} (ha : trkK.A h t cs) (hg : h.get b = some ⟨[.int .i64 id], .own⟩) :
    ACalls Try.prog 85 [.agg cs.toArray, .pointer (some ⟨b, 0, none⟩)] h fun v h' => v = .bool (isI id t) ∧ Fm No h h' := by
  unfold isI
  refine model_Find_1_ok.snd hm rfl fun w => ?_
  rw [WF_eq, model_Find_1]
  obtain ⟨v, e, r, s, rfl, a1, a2, a3, a4⟩ := trk_open ha
  obtain ⟨va, vc, rfl⟩ := a1.val
  obtain ⟨ea, ec, rfl⟩ := a2.val
  obtain ⟨ra, rc, rfl⟩ := a3.val
  obtain ⟨sa, sc, rfl⟩ := a4.val
  obtain ⟨hB, eB⟩ : ∃ g, h.new ⟨[.int .i64 t.id, .int .i64 t.kind, .string t.codec, .int .i64 t.scale, .slice va t.setup.length vc, .string t.lang, .string t.name, .int .i64 t.pre, .slice ea t.edits.length ec, .slice ra t.refs.length rc, .slice sa t.smps.length sc], .own⟩ = g := ⟨_, rfl⟩
  have f0 : Fm No h hB := eB ▸ Fm.new Fm.refl
  have gB : hB.get h.size = some ⟨[.int .i64 t.id, .int .i64 t.kind, .string t.codec, .int .i64 t.scale, .slice va t.setup.length vc, .string t.lang, .string t.name, .int .i64 t.pre, .slice ea t.edits.length ec, .slice ra t.refs.length rc, .slice sa t.smps.length sc], .own⟩ := eB ▸ gnew
  have gb := f0.keep w hg (fun f => f)
  have u0 : hB.rd h.size 0 = some (.int .i64 t.id) := rd_mk gB
  have u1 : hB.rd b 0 = some (.int .i64 id) := rd_mk gb
  simp +contextual (disch := omega) only [↓AM, ↓AV, AP, CQ, eB, u0, u1]
  by_cases q : t.id = id
  · simp +contextual (disch := omega) only [EqI, q]
    first | exact f0 | exact ⟨by simp, f0⟩
  · simp +contextual (disch := omega) only [EqI, q]
    first | exact f0 | exact ⟨by simp, f0⟩
theorem c_IdxTrk {h : Hp} {a : Option Addr} {c f : Nat} {us vs : Array Value} {ls : List Trk} {p : Trk → Bool} (ha : SlV h trkK ls (.slice a ls.length c)) (hn : ls.length ≤ 140737488351232) (hf : okF Try.prog f = true)
    (hp : ∀ x ∈ ls, ∀ cs h1, Fm No h h1 → Wf h1 → trkK.A h1 x cs → ACalls Try.prog f (us.toList ++ [.agg cs.toArray] ++ vs.toList) h1 fun v h' => v = .bool (p x) ∧ Fm No h1 h') :
    ACalls Try.prog 84 [.slice a ls.length c, .func (.func f) us vs] h fun v h' => v = .int .i64 (fst p 0 ls) ∧ Fm No h h' := by
  refine slices_IndexFunc___api_Track_api_Track__ok.snd hm rfl fun w => ?_
  rw [WF_eq, slices_IndexFunc___api_Track_api_Track_]
  simp +contextual only [↓AM, ↓AV, AP]
  refine WL.mk (fun k t h' => Wf h' ∧ Fm No h h' ∧ ∃ i : Nat, i ≤ ls.length ∧ k = ls.length - i ∧ (ls.take i).all (fun x => !p x) = true ∧ t = [(0, some (.slice a ls.length c)), (1, some (.func (.func f) us vs)), (7, some (.int .i64 ls.length)), (8, some (.int .i64 i))]) ⟨ls.length, w, Fm.refl, 0, by omega, rfl, rfl, rfl⟩ ?_
  rintro k t h1 ⟨w1, fm, i, hi, rfl, hall, rfl⟩
  by_cases hin : i < ls.length
  · obtain ⟨b1, o1, s1, x, cs, rfl, f1, hl, hxa, hxr⟩ := (ha.keep w fm).el hin
    have hq := hp x (List.mem_of_getElem? hl) cs _ fm w1 hxa
    have hxr : h1.rdN b1 (o1 + i * 11) 11 = some cs := hxr
    simp +contextual only [↓AM, ↓AV, AP, f1, hxr, hin]
    refine ⟨hf, hq.use ?_⟩
    rintro _ h2 w2 ⟨rfl, fm2⟩
    have fm' := fm.trans fm2 (fun _ _ x => x)
    simp +contextual only [↓AM, ↓AV, AP]
    refine ⟨fun hpu => ⟨?_, fm'⟩, fun hpu => ⟨_, ?_, w2, fm', i + 1, hin, rfl, ?_, ?_⟩⟩
    · rw [fst_hit hall hl hpu, Nat.zero_add]
    · omega
    · exact all_tk hall hl (by simp [hpu])
    · rw [i64 (by omega)]; rfl
  · simp +contextual only [↓AM, ↓AV, AP, hin]
    rw [List.take_of_length_le (by omega)] at hall
    exact ⟨by rw [fst_none hall], fm⟩
theorem c_find {h : Hp} {m : Mov} {v1 v2 v3 v4 : Value} (a1 : SlV h trkK m.trks v1) (a2 : SlV h ednK m.edns v2) (a3 : SlV h tagK m.tags v3) (a4 : SlV h filK m.fils v4) {id : Int} (hn : m.trks.length ≤ 140737488351232) :
    ACalls Try.prog 52 [.agg #[.int .i64 m.scale, .string m.title, v1, v2, v3, v4], .int .i64 id] h fun u h' => u = .int .i64 (findT m.trks id) ∧ Fm No h h' := by
  refine model_Find_ok.snd hm rfl fun w => ?_
  rw [WF_eq, model_Find]
  obtain ⟨ta, tc, rfl⟩ := a1.val
  obtain ⟨da, dc, rfl⟩ := a2.val
  obtain ⟨ga, gc, rfl⟩ := a3.val
  obtain ⟨fa, fc, rfl⟩ := a4.val
  obtain ⟨hB, eB⟩ : ∃ g, h.new ⟨[.int .i64 m.scale, .string m.title, .slice ta m.trks.length tc, .slice da m.edns.length dc, .slice ga m.tags.length gc, .slice fa m.fils.length fc], .own⟩ = g := ⟨_, rfl⟩
  have sB : hB.size = h.size + 1 := by rw [← eB]; rfl
  have wB : Wf hB := eB ▸ w.new
  have f0 : Fm No h hB := eB ▸ Fm.new Fm.refl
  have gB : hB.get h.size = some ⟨[.int .i64 m.scale, .string m.title, .slice ta m.trks.length tc, .slice da m.edns.length dc, .slice ga m.tags.length gc, .slice fa m.fils.length fc], .own⟩ := eB ▸ gnew
  have rds : ∀ g, Fm No hB g → (g.rd h.size 0 = some (.int .i64 m.scale) ∧ g.rd h.size 1 = some (.string m.title)) ∧ (g.rd h.size 2 = some (.slice ta m.trks.length tc) ∧ g.rd h.size 3 = some (.slice da m.edns.length dc)) ∧ (g.rd h.size 4 = some (.slice ga m.tags.length gc) ∧ g.rd h.size 5 = some (.slice fa m.fils.length fc)) ∧ g.rdN h.size 0 6 = some [.int .i64 m.scale, .string m.title, .slice ta m.trks.length tc, .slice da m.edns.length dc, .slice ga m.tags.length gc, .slice fa m.fils.length fc] := fun g fg => by
    have k := fg.keep wB gB (fun f => f)
    exact ⟨⟨rd_mk k, rd_mk k⟩, ⟨rd_mk k, rd_mk k⟩, ⟨rd_mk k, rd_mk k⟩, by rw [rdN_mk k (Nat.le_refl 6)]; rfl⟩
  have u := rds hB Fm.refl
  obtain ⟨hC, eC⟩ : ∃ g, hB.new ⟨[.int .i64 id], .own⟩ = g := ⟨_, rfl⟩
  have fC : Fm No hB hC := eC ▸ Fm.new Fm.refl
  have wC : Wf hC := eC ▸ wB.new
  have gC : hC.get hB.size = some ⟨[.int .i64 id], .own⟩ := eC ▸ gnew
  have u := rds hC fC
  have f1 := f0.trans fC fun _ _ f => f
  simp +contextual (disch := omega) only [↓AM, ↓AV, AP, CQ, eB, eC, u]
  refine (c_IdxTrk (us := #[]) (vs := #[.pointer (some ⟨hB.size, 0, none⟩)]) (p := isI id) (a1.keep w f1) hn model_Find_1_ok.2 ?_).use ?_
  · intro x hx cs h1 fm w1 ha
    have := c_find1 (id := id) ha (fm.keep wC gC (fun f => f))
    simpa using this
  rintro _ h2 w2 ⟨rfl, f2⟩
  simp +contextual (disch := omega) only [↓AM, ↓AV, AP, CQ]
  exact ⟨rfl, f1.trans f2 fun _ _ f => f⟩
/-! ### bytes -/
def bytS (L : List Smp) : Nat := (L.map fun x => x.data.length).sum
def bytT (L : List Trk) : Nat := (L.map fun t => bytS t.smps).sum
def bytF (L : List Flx) : Nat := (L.map fun f => f.2.2.2.length).sum
def bytM (m : Mov) : Nat := bytT m.trks + bytF m.fils
theorem sum_S {α : Type} {f : α → Nat} {l : List α} {i : Nat} {x : α} (h : l[i]? = some x) : ((l.take (i + 1)).map f).sum = ((l.take i).map f).sum + f x := by
  rw [List.take_add_one, h, Option.toList_some, List.map_append, List.sum_append]
  simp
theorem sum_le {α : Type} {f : α → Nat} {l : List α} (i : Nat) : ((l.take i).map f).sum ≤ (l.map f).sum := by
  have : (l.map f).sum = ((l.take i).map f).sum + ((l.drop i).map f).sum := by
    rw [← List.sum_append, ← List.map_append, List.take_append_drop]
  omega
theorem c_Bytes {h : Hp} {m : Mov} {v1 v2 v3 v4 : Value} (a1 : SlV h trkK m.trks v1) (a2 : SlV h ednK m.edns v2) (a3 : SlV h tagK m.tags v3) (a4 : SlV h filK m.fils v4) (hz : bytM m ≤ 4611686018427387904) (hn : MovW m) :
    ACalls Try.prog 111 [.agg #[.int .i64 m.scale, .string m.title, v1, v2, v3, v4]] h fun u h' => u = .int .i64 (bytM m : Nat) ∧ Fm No h h' := by
  refine model_Bytes_ok.snd hm rfl fun w => ?_
  rw [WF_eq, model_Bytes]
  obtain ⟨ta, tc, rfl⟩ := a1.val
  obtain ⟨da, dc, rfl⟩ := a2.val
  obtain ⟨ga, gc, rfl⟩ := a3.val
  obtain ⟨fa, fc, rfl⟩ := a4.val
  obtain ⟨hB, eB⟩ : ∃ g, h.new ⟨[.int .i64 m.scale, .string m.title, .slice ta m.trks.length tc, .slice da m.edns.length dc, .slice ga m.tags.length gc, .slice fa m.fils.length fc], .own⟩ = g := ⟨_, rfl⟩
  have sB : hB.size = h.size + 1 := by rw [← eB]; rfl
  have wB : Wf hB := eB ▸ w.new
  have f0 : Fm No h hB := eB ▸ Fm.new Fm.refl
  have gB : hB.get h.size = some ⟨[.int .i64 m.scale, .string m.title, .slice ta m.trks.length tc, .slice da m.edns.length dc, .slice ga m.tags.length gc, .slice fa m.fils.length fc], .own⟩ := eB ▸ gnew
  have rds : ∀ g, Fm No hB g → (g.rd h.size 0 = some (.int .i64 m.scale) ∧ g.rd h.size 1 = some (.string m.title)) ∧ (g.rd h.size 2 = some (.slice ta m.trks.length tc) ∧ g.rd h.size 3 = some (.slice da m.edns.length dc)) ∧ (g.rd h.size 4 = some (.slice ga m.tags.length gc) ∧ g.rd h.size 5 = some (.slice fa m.fils.length fc)) ∧ g.rdN h.size 0 6 = some [.int .i64 m.scale, .string m.title, .slice ta m.trks.length tc, .slice da m.edns.length dc, .slice ga m.tags.length gc, .slice fa m.fils.length fc] := fun g fg => by
    have k := fg.keep wB gB (fun f => f)
    exact ⟨⟨rd_mk k, rd_mk k⟩, ⟨rd_mk k, rd_mk k⟩, ⟨rd_mk k, rd_mk k⟩, by rw [rdN_mk k (Nat.le_refl 6)]; rfl⟩
  have u := rds hB Fm.refl
  have hn1 := hn.trks
  have hn2 := hn.fils
  have hz' : bytT m.trks + bytF m.fils ≤ 4611686018427387904 := hz
  simp +contextual (disch := omega) only [↓AM, ↓AV, AP, CQ, eB, u]
  refine WL.mk (fun k t' h' => ∃ (j : Nat), Wf h' ∧ Fm No hB h' ∧ j ≤ m.trks.length ∧ k = m.trks.length - j ∧
      t' = [(1, some (.pointer (some ⟨h.size, 0, none⟩))), (3, some (.int .i64 (bytT (m.trks.take j) : Nat))), (11, some (.slice ta m.trks.length tc)), (12, some (.int .i64 (m.trks.length : Int))), (13, some (.int .i64 (j : Int)))]) ⟨m.trks.length, 0, wB, Fm.refl, by omega, rfl, rfl⟩ ?_
  rintro k t' h1 ⟨j, w1, f1, hj, rfl, rfl⟩
  have f01 := f0.trans f1 fun _ _ f => f
  by_cases hjn : j < m.trks.length
  · obtain ⟨b1, o1, s1, t, cs, rfl, g1, hx, hxa, hxr⟩ := (a1.keep w f01).el hjn
    obtain ⟨xv, xe, xr, xs, rfl, x1, x2, x3, x4⟩ := trk_open hxa
    obtain ⟨va, vc, rfl⟩ := x1.val
    obtain ⟨ea, ec, rfl⟩ := x2.val
    obtain ⟨ra, rc, rfl⟩ := x3.val
    obtain ⟨sa, sc, rfl⟩ := x4.val
    have hxr : h1.rdN b1 (o1 + j * 11) 11 = some [.int .i64 t.id, .int .i64 t.kind, .string t.codec, .int .i64 t.scale, .slice va t.setup.length vc, .string t.lang, .string t.name, .int .i64 t.pre, .slice ea t.edits.length ec, .slice ra t.refs.length rc, .slice sa t.smps.length sc] := hxr
    have hts := (hn.trkw t (List.mem_of_getElem? hx)).smps
    have hst : bytT (m.trks.take (j + 1)) = bytT (m.trks.take j) + bytS t.smps := sum_S hx
    have hle : bytT (m.trks.take (j + 1)) ≤ bytT m.trks := sum_le _
    obtain ⟨h2, e2⟩ : ∃ g, h1.new ⟨[.int .i64 t.id, .int .i64 t.kind, .string t.codec, .int .i64 t.scale, .slice va t.setup.length vc, .string t.lang, .string t.name, .int .i64 t.pre, .slice ea t.edits.length ec, .slice ra t.refs.length rc, .slice sa t.smps.length sc], .own⟩ = g := ⟨_, rfl⟩
    have w2 : Wf h2 := e2 ▸ w1.new
    have f2 : Fm No h1 h2 := e2 ▸ Fm.new Fm.refl
    have g2 : h2.get h1.size = some ⟨[.int .i64 t.id, .int .i64 t.kind, .string t.codec, .int .i64 t.scale, .slice va t.setup.length vc, .string t.lang, .string t.name, .int .i64 t.pre, .slice ea t.edits.length ec, .slice ra t.refs.length rc, .slice sa t.smps.length sc], .own⟩ := e2 ▸ gnew
    have u10 : h2.rd h1.size 10 = some (.slice sa t.smps.length sc) := rd_mk g2
    have fB2 := f1.trans f2 fun _ _ f => f
    simp +contextual (disch := omega) only [↓AM, ↓AV, AP, CQ, hjn, g1, hxr, e2, u10]
    refine WL.mk (fun k t' h' => ∃ (i : Nat), Wf h' ∧ Fm No h2 h' ∧ i ≤ t.smps.length ∧ k = t.smps.length - i ∧
        t' = [(1, some (.pointer (some ⟨h.size, 0, none⟩))), (3, some (.int .i64 ((bytT (m.trks.take j) + bytS (t.smps.take i) : Nat) : Int))), (11, some (.slice (some ⟨b1, o1, s1⟩) m.trks.length tc)), (12, some (.int .i64 (m.trks.length : Int))), (13, some (.int .i64 (j : Int))), (18, some (.slice sa t.smps.length sc)), (19, some (.int .i64 (t.smps.length : Int))), (20, some (.int .i64 (i : Int)))]) ⟨t.smps.length, 0, w2, Fm.refl, by omega, rfl, rfl⟩ ?_
    rintro k t' h3 ⟨i, w3, f3, hi, rfl, rfl⟩
    by_cases hin : i < t.smps.length
    · obtain ⟨b6, o6, s6, x, cs6, rfl, g6, hxx, hxxa, hxxr⟩ := ((x4.keep w1 f2).keep w2 f3).el hin
      obtain ⟨xv, xw, rfl, z1, z2⟩ := smp_open hxxa
      obtain ⟨dv, dcp, rfl⟩ := z1.val
      obtain ⟨dw, dcw, rfl⟩ := z2.val
      have hxxr : h3.rdN b6 (o6 + i * 6) 6 = some [.int .i64 x.dts, .int .i64 x.pts, .int .i64 x.dur, .bool x.sync, .slice dv x.deps.length dcp, .slice dw x.data.length dcw] := hxxr
      have hss : bytS (t.smps.take (i + 1)) = bytS (t.smps.take i) + x.data.length := sum_S hxx
      have hsl : bytS (t.smps.take (i + 1)) ≤ bytS t.smps := sum_le _
      obtain ⟨h4, e4⟩ : ∃ g, h3.new ⟨[.int .i64 x.dts, .int .i64 x.pts, .int .i64 x.dur, .bool x.sync, .slice dv x.deps.length dcp, .slice dw x.data.length dcw], .own⟩ = g := ⟨_, rfl⟩
      have w4 : Wf h4 := e4 ▸ w3.new
      have f4 : Fm No h3 h4 := e4 ▸ Fm.new Fm.refl
      have g4 : h4.get h3.size = some ⟨[.int .i64 x.dts, .int .i64 x.pts, .int .i64 x.dur, .bool x.sync, .slice dv x.deps.length dcp, .slice dw x.data.length dcw], .own⟩ := e4 ▸ gnew
      have u5 : h4.rd h3.size 5 = some (.slice dw x.data.length dcw) := rd_mk g4
      simp +contextual (disch := omega) only [↓AM, ↓AV, AP, CQ, hin, g6, hxxr, e4, u5, i64]
      exact ⟨t.smps.length - (i + 1), by omega, i + 1, w4, f3.trans f4 fun _ _ f => f, by omega, rfl, by rw [hss, Nat.add_assoc]⟩
    · have hts2 : t.smps.take i = t.smps := List.take_of_length_le (by omega)
      simp +contextual (disch := omega) only [↓AM, ↓AV, AP, CQ, hin, hts2, i64]
      exact ⟨m.trks.length - (j + 1), by omega, j + 1, w3, fB2.trans f3 fun _ _ f => f, by omega, rfl, by rw [hst]⟩
  have htt : m.trks.take j = m.trks := List.take_of_length_le (by omega)
  have u := rds h1 f1
  simp +contextual (disch := omega) only [↓AM, ↓AV, AP, CQ, hjn, htt, u]
  refine WL.mk (fun k t' h' => ∃ (i : Nat), Wf h' ∧ Fm No h1 h' ∧ i ≤ m.fils.length ∧ k = m.fils.length - i ∧
      t' = [(3, some (.int .i64 ((bytT m.trks + bytF (m.fils.take i) : Nat) : Int))), (32, some (.slice fa m.fils.length fc)), (33, some (.int .i64 (m.fils.length : Int))), (34, some (.int .i64 (i : Int)))]) ⟨m.fils.length, 0, w1, Fm.refl, by omega, rfl, rfl⟩ ?_
  rintro k t' h3 ⟨i, w3, f3, hi, rfl, rfl⟩
  by_cases hin : i < m.fils.length
  · obtain ⟨b6, o6, s6, x, cs6, rfl, g6, hxx, hxxa, hxxr⟩ := ((a4.keep w f01).keep w1 f3).el hin
    obtain ⟨xw, rfl, z2⟩ := fil_open hxxa
    obtain ⟨dw, dcw, rfl⟩ := z2.val
    have hxxr : h3.rdN b6 (o6 + i * 4) 4 = some [.int .i64 x.1, .string x.2.1, .string x.2.2.1, .slice dw x.2.2.2.length dcw] := hxxr
    have hss : bytF (m.fils.take (i + 1)) = bytF (m.fils.take i) + x.2.2.2.length := sum_S hxx
    have hsl : bytF (m.fils.take (i + 1)) ≤ bytF m.fils := sum_le _
    obtain ⟨h4, e4⟩ : ∃ g, h3.new ⟨[.int .i64 x.1, .string x.2.1, .string x.2.2.1, .slice dw x.2.2.2.length dcw], .own⟩ = g := ⟨_, rfl⟩
    have w4 : Wf h4 := e4 ▸ w3.new
    have f4 : Fm No h3 h4 := e4 ▸ Fm.new Fm.refl
    have g4 : h4.get h3.size = some ⟨[.int .i64 x.1, .string x.2.1, .string x.2.2.1, .slice dw x.2.2.2.length dcw], .own⟩ := e4 ▸ gnew
    have u5 : h4.rd h3.size 3 = some (.slice dw x.2.2.2.length dcw) := rd_mk g4
    simp +contextual (disch := omega) only [↓AM, ↓AV, AP, CQ, hin, g6, hxxr, e4, u5, i64]
    exact ⟨m.fils.length - (i + 1), by omega, i + 1, w4, f3.trans f4 fun _ _ f => f, by omega, rfl, by rw [hss, Nat.add_assoc]⟩
  · have htf : m.fils.take i = m.fils := List.take_of_length_le (by omega)
    simp +contextual (disch := omega) only [↓AM, ↓AV, AP, CQ, hin, htf]
    exact ⟨rfl, f01.trans f3 fun _ _ f => f⟩
end Go.Proofs.Ytbfbgkhlngkifaa.Mv

/- Maps of whole numbers and of pairs; chapters, plain. Plain theorems over the abstract machine.
   Conditions: none. -/
namespace Go.Proofs.Ytbfbgkhlngkifaa.Mv
open Go Go.RowKit Go.Proofs.Ytbfbgkhlngkifaa.Am Go.Proofs.Ytbfbgkhlngkifaa.Af Go.Proofs.Ytbfbgkhlngkifaa.Md
set_option linter.unusedVariables false
set_option linter.unusedSimpArgs false
set_option linter.defProp false
set_option maxRecDepth 20000
set_option maxHeartbeats 1000000

/-- Keys of a kind, as the machine compares them. -/
structure KeyK (κ : Type) where
  ka : Bool
  sh : List Nat
  enc : κ → Value
  eq : ∀ a b, ∃ r, eqKey ka sh (enc a) (enc b) = some r ∧ (r = true ↔ a = b)
def kI : KeyK Int := ⟨false, [1], fun i => .int .i64 i, fun a b => ⟨(a == b) && true, by simp [eqKey, eqCells, eqCell], by simp⟩⟩
def kP : KeyK (Int × Int) := ⟨true, [1, 1], fun p => .agg #[.int .i64 p.1, .int .i64 p.2], fun a b => ⟨(a.1 == b.1) && ((a.2 == b.2) && true), by simp [eqKey, eqCells, eqCell], by
  obtain ⟨a1, a2⟩ := a
  obtain ⟨b1, b2⟩ := b
  simp⟩⟩
/-- A map that holds S. -/
def MI {κ : Type} (d : KeyK κ) (h : Hp) (b : Nat) (S : List κ) : Prop := h.mp b = some (S.map fun k => (d.enc k, .bool true))
theorem MI.keep {κ : Type} {d : KeyK κ} {h h' : Hp} {b : Nat} {S : List κ} {F : Nat → Prop} (m : MI d h b S) (w : Wf h) (f : Fm F h h') (hf : ¬ F b) : MI d h' b S := f.keepM w m hf
theorem mfind_spec {κ : Type} (d : KeyK κ) (k : κ) : ∀ (S : List κ) (n : Nat), (k ∉ S ∧ mfind d.ka d.sh (d.enc k) (S.map fun k => (d.enc k, Value.bool true)) n = some none) ∨ ∃ i, i < S.length ∧ S[i]? = some k ∧ mfind d.ka d.sh (d.enc k) (S.map fun k => (d.enc k, Value.bool true)) n = some (some (n + i))
  | [], n => .inl ⟨by simp, rfl⟩
  | x :: S, n => by
    obtain ⟨r, h1, h2⟩ := d.eq k x
    cases r with
    | true =>
      refine .inr ⟨0, by simp, ?_, ?_⟩
      · rw [h2.1 rfl]; rfl
      · rw [List.map_cons, mfind, h1]; rfl
    | false =>
      have hne : k ≠ x := fun e => by have := h2.2 e; cases this
      rcases mfind_spec d k S (n + 1) with ⟨h3, h4⟩ | ⟨i, h3, h4, h5⟩
      · refine .inl ⟨fun hm => ?_, ?_⟩
        · rcases List.mem_cons.1 hm with h | h
          · exact hne h
          · exact h3 h
        · rw [List.map_cons, mfind, h1]; exact h4
      · refine .inr ⟨i + 1, by simpa using h3, by simpa using h4, ?_⟩
        rw [List.map_cons, mfind, h1]
        show mfind _ _ _ _ (n + 1) = _
        rw [h5]
        congr 2
        omega
theorem eq_refl {κ : Type} (d : KeyK κ) (k : κ) : eqKey d.ka d.sh (d.enc k) (d.enc k) = some true := by
  obtain ⟨r, h1, h2⟩ := d.eq k k
  rw [h1, h2.2 rfl]
theorem LkT.mk {κ : Type} {d : KeyK κ} {h : Hp} {b : Nat} {S : List κ} {k : κ} {K : Value → Bool → Prop} {g : Tag K} (m : MI d h b S) (hK : ∀ q : Bool, (q = true ↔ k ∈ S) → K (.bool q) q) :
    LkT h (some b) d.ka d.sh (d.enc k) (.bool false) K g := by
  refine ⟨eq_refl d k, _, m, ?_⟩
  rcases mfind_spec d k S 0 with ⟨h1, h2⟩ | ⟨i, h1, h2, h3⟩
  · exact ⟨none, h2, hK false ⟨fun e => (by cases e), fun e => absurd e h1⟩⟩
  · refine ⟨_, h3, ?_⟩
    have e : mval (S.map fun k => (d.enc k, Value.bool true)) (.bool false) (some (0 + i)) = (.bool true, true) := by
      simp only [mval, Nat.zero_add, List.getElem?_map, h2, Option.map_some]
    rw [e]
    exact hK true ⟨fun _ => List.mem_of_getElem? h2, fun _ => rfl⟩
/-- With one key more. -/
def addK {κ : Type} [DecidableEq κ] (S : List κ) (k : κ) : List κ := if k ∈ S then S else S ++ [k]
theorem addK_mem {κ : Type} [DecidableEq κ] {S : List κ} {k x : κ} : x ∈ addK S k ↔ x = k ∨ x ∈ S := by
  unfold addK
  split
  · constructor
    · exact .inr
    · rintro (rfl | h)
      · assumption
      · exact h
  · simp [or_comm]
theorem UpT.mk {κ : Type} [DecidableEq κ] {d : KeyK κ} {h : Hp} {b : Nat} {S : List κ} {k : κ} {K : Hp → Prop} {g : Tag K} (m : MI d h b S) (hK : K (h.putM b ((addK S k).map fun k => (d.enc k, Value.bool true)))) :
    UpT h b d.ka d.sh (d.enc k) (.bool true) K g := by
  refine ⟨eq_refl d k, _, m, ?_⟩
  rcases mfind_spec d k S 0 with ⟨h1, h2⟩ | ⟨i, h1, h2, h3⟩
  · refine ⟨none, h2, ?_⟩
    unfold addK at hK
    rw [if_neg h1, List.map_append] at hK
    exact hK
  · refine ⟨_, h3, ?_⟩
    have hm := List.mem_of_getElem? h2
    unfold addK at hK
    rw [if_pos hm] at hK
    have e : mset (S.map fun k => (d.enc k, Value.bool true)) (d.enc k) (.bool true) (some (0 + i)) = S.map fun k => (d.enc k, Value.bool true) := by
      simp only [mset, Nat.zero_add]
      apply List.ext_getElem?
      intro j
      rw [List.getElem?_set]
      split
      · rename_i e
        subst e
        rw [List.getElem?_map, h2]
        simp [h1]
      · rfl
    rw [e]
    exact hK
theorem MI.new {κ : Type} {d : KeyK κ} {h : Hp} : MI d (h.newM []) h.size ([] : List κ) := mp_newM_self
theorem MI.put {κ : Type} {d : KeyK κ} {h : Hp} {b : Nat} {S : List κ} : MI d (h.putM b (S.map fun k => (d.enc k, .bool true))) b S := mp_putM_self
/-! ### chapters, plain -/
/-- A chapter by itself, within a stretch, behind the end of the one before. -/
def chP (ord : Bool) (frm to_ fin : Int) (ids : List Int) (x : Chp) : Prop :=
  ((1 ≤ x.id ∧ x.id ≤ 100000) ∧ x.id ∉ ids ∧ frm ≤ x.frm ∧ x.to_ ≤ to_ ∧ x.frm ≤ x.to_ ∧ nameB x.title = true) ∧ (ord = true ∨ fin ≤ x.frm)
instance (ord : Bool) (frm to_ fin : Int) (ids : List Int) (x : Chp) : Decidable (chP ord frm to_ fin ids x) := by unfold chP; infer_instance
/-- The Ids behind chapters side by side, at most B; none: they are not as said. -/
def chB (B : Nat) (ord : Bool) : Nat → List Chp → Int → Int → Int → List Int → Option (List Int)
  | _, [], _, _, _, ids => some ids
  | 0, _ :: _, _, _, _, _ => none
  | k + 1, x :: xs, frm, to_, fin, ids =>
    if chP ord frm to_ fin ids x ∧ ids.length + 1 ≤ B then
      match chB B ord k x.ks x.frm x.to_ x.frm (ids ++ [x.id]) with
      | none => none
      | some ids' => chB B ord (k + 1) xs frm to_ x.to_ ids'
    else none
  termination_by k l => (k, l.length)
theorem chB_nil (B : Nat) (ord : Bool) (k : Nat) (frm to_ fin : Int) (ids : List Int) : chB B ord k [] frm to_ fin ids = some ids := by
  cases k <;> rw [chB]
theorem chB_zero (B : Nat) (ord : Bool) (x : Chp) (xs : List Chp) (frm to_ fin : Int) (ids : List Int) : chB B ord 0 (x :: xs) frm to_ fin ids = none := by rw [chB]
theorem chB_cons (B : Nat) (ord : Bool) (k : Nat) (x : Chp) (xs : List Chp) (frm to_ fin : Int) (ids : List Int) : chB B ord (k + 1) (x :: xs) frm to_ fin ids =
    if chP ord frm to_ fin ids x ∧ ids.length + 1 ≤ B then
      match chB B ord k x.ks x.frm x.to_ x.frm (ids ++ [x.id]) with
      | none => none
      | some ids' => chB B ord (k + 1) xs frm to_ x.to_ ids'
    else none := by rw [chB]
end Go.Proofs.Ytbfbgkhlngkifaa.Mv

/- Chapters checked by the program. Plain theorems over the abstract machine.
   Conditions: none. -/
namespace Go.Proofs.Ytbfbgkhlngkifaa.Mv
open Go Go.RowKit Go.Proofs.Ytbfbgkhlngkifaa.Am Go.Proofs.Ytbfbgkhlngkifaa.Af Go.Proofs.Ytbfbgkhlngkifaa.Md
set_option linter.unusedVariables false
set_option linter.unusedSimpArgs false
set_option linter.defProp false
set_option maxRecDepth 20000
set_option maxHeartbeats 4000000

/-- The box of a walk, and its map. -/
def BM (bc mi : Nat) (z : Nat) : Prop := z = bc ∨ z = mi
structure Cst (h : Hp) (bc mi : Nat) (ord : Bool) (n : Nat) (ids : List Int) : Prop where
  box : h.get bc = some ⟨[.map (some mi), .bool ord, .int .i64 (n : Int)], .own⟩
  map : MI kI h mi ids
theorem Cst.keep {h h' : Hp} {bc mi : Nat} {ord : Bool} {n : Nat} {ids : List Int} (c : Cst h bc mi ord n ids) (w : Wf h) (f : Fm No h h') : Cst h' bc mi ord n ids :=
  ⟨f.keep w c.box (fun f => f), c.map.keep w f (fun f => f)⟩
/-- What comes of chapters: false, or true with the Ids behind them. -/
def CkP (bc mi : Nat) (ord : Bool) (start : Nat) (r : Option (List Int)) (u : Value) (h' : Hp) : Prop := match r with
  | none => u = .bool false
  | some ids' => u = .bool true ∧ ∃ n', Cst h' bc mi ord n' ids' ∧ n' + start = ids'.length ∧ n' ≤ 40
theorem CkP.bad {bc mi : Nat} {ord : Bool} {start : Nat} {r : Option (List Int)} {h' : Hp} (e : r = none) : CkP bc mi ord start r (.bool false) h' := by rw [e]; rfl
theorem CkP.ok {bc mi : Nat} {ord : Bool} {start : Nat} {r : Option (List Int)} {h' : Hp} {ids' : List Int} {n' : Nat} (e : r = some ids') (c : Cst h' bc mi ord n' ids') (h1 : n' + start = ids'.length) (h2 : n' ≤ 40) : CkP bc mi ord start r (.bool true) h' := by rw [e]; exact ⟨rfl, n', c, h1, h2⟩
theorem c_check {h0 : Hp} (w0 : Wf h0) {bc mi : Nat} (hbc : h0.size ≤ bc) (hmi : h0.size ≤ mi) {ord : Bool} {start : Nat} : ∀ (k : Nat) (l : List Chp) (v : Value) (frm to_ : Int) (ids : List Int) (n : Nat) (h : Hp), k ≤ 4 → SlV h0 chpK l v → l.length ≤ 140737488351232 → (∀ x ∈ l, ChpW x) →
    Fm No h0 h → Cst h bc mi ord n ids → n + start = ids.length → n ≤ 40 →
    ACalls Try.prog 127 [.pointer (some ⟨bc, 0, none⟩), v, .int .i64 frm, .int .i64 to_, .int .i64 (5 - (k : Int))] h fun u h' => Fm (BM bc mi) h h' ∧ CkP bc mi ord start (chB (start + 40) ord k l frm to_ frm ids) u h' := by
  intro k
  induction k with
  | zero =>
    intro l v frm to_ ids n h hk a hl hw f0 cs hn hn40
    refine model_chapters__check_ok.snd hm rfl fun w => ?_
    rw [WF_eq, model_chapters__check]
    obtain ⟨oa, c, rfl⟩ := a.val
    have e5 : (4 : Int) < 5 - ((0 : Nat) : Int) := by decide
    cases l with
    | cons x xs =>
      have e1 : ((0 : Int) < (((x :: xs).length : Nat) : Int)) = True := eq_true (by simp only [List.length_cons]; omega)
      simp +contextual (disch := omega) only [↓AM, ↓AV, AP, CQ, e1, e5]
      exact ⟨Fm.refl, .bad (chB_zero _ _ _ _ _ _ _ _)⟩
    | nil =>
      have e1 : ((0 : Int) < ((([] : List Chp).length : Nat) : Int)) = False := by simp
      simp +contextual (disch := omega) only [↓AM, ↓AV, AP, CQ, e1]
      refine WL.mk (fun k t' h' => h' = h ∧ t' = [(0, some (.pointer (some ⟨bc, 0, none⟩))), (2, some (.int .i64 frm)), (3, some (.int .i64 to_)), (4, some (.int .i64 (5 - ((0 : Nat) : Int)))), (11, some (.int .i64 frm)), (23, some (.slice oa ([] : List Chp).length c)), (24, some (.int .i64 (([] : List Chp).length : Int))), (25, some (.int .i64 0))]) ⟨0, rfl, rfl⟩ ?_
      rintro k t' h' ⟨e, rfl⟩
      subst h'
      simp +contextual (disch := omega) only [↓AM, ↓AV, AP, CQ, e1]
      exact ⟨Fm.refl, .ok (chB_nil _ _ _ _ _ _ _) cs hn hn40⟩
  | succ k ih =>
    intro l v frm to_ ids n h hk a hl hw f0 cs hn hn40
    refine model_chapters__check_ok.snd hm rfl fun w => ?_
    rw [WF_eq, model_chapters__check]
    obtain ⟨oa, c, rfl⟩ := a.val
    have e5 : ((4 : Int) < 5 - ((k + 1 : Nat) : Int)) = False := eq_false (by omega)
    have key : ∀ (P : Prop), (((0 : Int) < (l.length : Int)) = True ∨ ((0 : Int) < (l.length : Int)) = False) := fun _ => by
      by_cases q : (0 : Int) < (l.length : Int)
      · exact .inl (eq_true q)
      · exact .inr (eq_false q)
    have e9 : 5 - ((k + 1 : Nat) : Int) + 1 = 5 - (k : Int) := by omega
    rcases key True with e1 | e1 <;>
    · simp +contextual (disch := omega) only [↓AM, ↓AV, AP, CQ, e1, e5]
      refine WL.mk (fun m t' h' => ∃ (j : Nat) (fin : Int) (ids1 : List Int) (n1 : Nat), Wf h' ∧ Fm (BM bc mi) h h' ∧ j ≤ l.length ∧ m = l.length - j ∧ Cst h' bc mi ord n1 ids1 ∧ n1 + start = ids1.length ∧ n1 ≤ 40 ∧
          chB (start + 40) ord (k + 1) l frm to_ frm ids = chB (start + 40) ord (k + 1) (l.drop j) frm to_ fin ids1 ∧
          t' = [(0, some (.pointer (some ⟨bc, 0, none⟩))), (2, some (.int .i64 frm)), (3, some (.int .i64 to_)), (4, some (.int .i64 (5 - ((k + 1 : Nat) : Int)))), (11, some (.int .i64 fin)), (23, some (.slice oa l.length c)), (24, some (.int .i64 (l.length : Int))), (25, some (.int .i64 (j : Int)))])
        ⟨l.length, 0, frm, ids, n, w, Fm.refl, by omega, rfl, cs, hn, hn40, rfl, rfl⟩ ?_
      rintro m t' h1 ⟨j, fin, ids1, n1, w1, f1, hj, rfl, cs1, hn1, hn41, hE, rfl⟩
      have f01 : Fm No h0 h1 := f0.trans f1 (fun x hx q => by rcases q with rfl | rfl <;> omega)
      by_cases hjn : j < l.length
      case neg =>
        rw [List.drop_eq_nil_of_le (by omega), chB_nil] at hE
        simp +contextual (disch := omega) only [↓AM, ↓AV, AP, CQ, hjn]
        exact ⟨f1, .ok hE cs1 hn1 hn41⟩
      obtain ⟨b1, o1, s1, x, xc, rfl, g1, hx, hxa, hxr0⟩ := a.el hjn
      obtain ⟨kv, rfl, kz⟩ := chp_open hxa
      obtain ⟨ka, kc, rfl⟩ := kz.val
      have hxr0 : h0.rdN b1 (o1 + j * 6) 6 = some [.int .i64 x.id, .int .i64 x.frm, .int .i64 x.to_, .string x.title, .bool x.hide, .slice ka x.ks.length kc] := hxr0
      have hxr : h1.rdN b1 (o1 + j * 6) 6 = some [.int .i64 x.id, .int .i64 x.frm, .int .i64 x.to_, .string x.title, .bool x.hide, .slice ka x.ks.length kc] := (rdN_keep (f01.get _ (rdN_wf w0 hxr0) (fun f => f))).trans hxr0
      have hxw := hw x (List.mem_of_getElem? hx)
      have hxt : x.title.size ≤ 140737488351232 := hxw.head
      rw [List.drop_eq_getElem_cons (by omega), (List.getElem?_eq_some_iff.1 hx).2, chB_cons] at hE
      obtain ⟨h2, e2⟩ : ∃ g, h1.new ⟨[.int .i64 x.id, .int .i64 x.frm, .int .i64 x.to_, .string x.title, .bool x.hide, .slice ka x.ks.length kc], .own⟩ = g := ⟨_, rfl⟩
      have w2 : Wf h2 := e2 ▸ w1.new
      have f2 : Fm No h1 h2 := e2 ▸ Fm.new Fm.refl
      have g2 : h2.get h1.size = some ⟨[.int .i64 x.id, .int .i64 x.frm, .int .i64 x.to_, .string x.title, .bool x.hide, .slice ka x.ks.length kc], .own⟩ := e2 ▸ gnew
      have cs2 := cs1.keep w1 f2
      have lt2 := w1.lt cs1.box
      obtain ⟨h3, e3⟩ : ∃ g, h2.put bc ⟨[.map (some mi), .bool ord, .int .i64 ((n1 + 1 : Nat) : Int)], .own⟩ = g := ⟨_, rfl⟩
      have w3 : Wf h3 := e3 ▸ w2.put (by have := f2.size; omega)
      have f3 : Fm (BM bc mi) h2 h3 := e3 ▸ (Fm.refl.put fun _ => .inl rfl)
      have g3 : h3.get h1.size = some ⟨[.int .i64 x.id, .int .i64 x.frm, .int .i64 x.to_, .string x.title, .bool x.hide, .slice ka x.ks.length kc], .own⟩ := by rw [← e3, get_put (by omega)]; exact g2
      have cs3 : Cst h3 bc mi ord (n1 + 1) ids1 := ⟨e3 ▸ gput, by have := cs2.map; unfold MI at this ⊢; rw [← e3]; exact this⟩
      have f13 : Fm (BM bc mi) h1 h3 := f2.mono (fun _ _ q => q.elim) |>.trans f3 fun _ _ q => q
      have bx := cs2.box
      have bx3 := cs3.box
      have ub : h2.rd bc 2 = some (.int .i64 (n1 : Int)) := rd_mk bx
      have c0 : h3.rd bc 0 = some (.map (some mi)) := rd_mk bx3
      have c1 : h3.rd bc 1 = some (.bool ord) := rd_mk bx3
      have c2 : h3.rd bc 2 = some (.int .i64 ((n1 + 1 : Nat) : Int)) := rd_mk bx3
      have u0 : h3.rd h1.size 0 = some (.int .i64 x.id) := rd_mk g3
      have u1 : h3.rd h1.size 1 = some (.int .i64 x.frm) := rd_mk g3
      have u2 : h3.rd h1.size 2 = some (.int .i64 x.to_) := rd_mk g3
      have u3 : h3.rd h1.size 3 = some (.string x.title) := rd_mk g3
      have u5 : h3.rd h1.size 5 = some (.slice ka x.ks.length kc) := rd_mk g3
      have fh3 : Fm (BM bc mi) h h3 := f1.trans f13 fun _ _ q => q
      have bad : ¬ (chP ord frm to_ fin ids1 x ∧ ids1.length + 1 ≤ start + 40) → ∀ g, Fm (BM bc mi) h g → Fm (BM bc mi) h g ∧ CkP bc mi ord start (chB (start + 40) ord (k + 1) l frm to_ frm ids) (.bool false) g := fun q g fg =>
        ⟨fg, .bad (by rw [hE, if_neg q])⟩
      simp +contextual (disch := omega) only [↓AM, ↓AV, AP, CQ, hjn, g1, hxr, e2, ub, bx, i64, e3]
      by_cases k1 : (40 : Int) < ((n1 + 1 : Nat) : Int)
      · simp +contextual (disch := omega) only [↓AM, ↓AV, AP, CQ, k1, e2, e3, g1, hjn, bx, ub, u0, u1, u2, u3, c0, c1, c2]
        exact bad (fun q => by omega) h3 fh3
      simp +contextual (disch := omega) only [↓AM, ↓AV, AP, CQ, k1, e2, e3, g1, hjn, bx, ub, u0, u1, u2, u3, c0, c1, c2]
      refine c_mwithin.use ?_
      rintro _ g9 w9 ⟨rfl, e9'⟩
      subst g9
      by_cases k2 : 1 ≤ x.id ∧ x.id ≤ 100000
      case neg =>
        simp +contextual (disch := omega) only [↓AM, ↓AV, AP, CQ, k1, k2, e2, e3, g1, hjn, bx, ub, u0, u1, u2, u3, c0, c1, c2]
        exact bad (fun q => k2 q.1.1.1) h3 fh3
      simp +contextual (disch := omega) only [↓AM, ↓AV, AP, CQ, k1, k2, e2, e3, g1, hjn, bx, ub, u0, u1, u2, u3, c0, c1, c2]
      refine LkT.mk (d := kI) cs3.map fun q hq => ?_
      cases q with
      | true =>
        simp +contextual (disch := omega) only [↓AM, ↓AV, AP, CQ, k1, k2, e2, e3, g1, hjn, bx, ub, u0, u1, u2, u3, c0, c1, c2]
        exact bad (fun q => q.1.1.2.1 (hq.1 rfl)) h3 fh3
      | false =>
      have k3 : x.id ∉ ids1 := fun q => by have := hq.2 q; cases this
      have ea : addK ids1 x.id = ids1 ++ [x.id] := if_neg k3
      by_cases k4 : x.frm < frm
      · simp +contextual (disch := omega) only [↓AM, ↓AV, AP, CQ, k1, k2, k4, e2, e3, g1, hjn, bx, ub, u0, u1, u2, u3, c0, c1, c2]
        exact bad (fun q => by have := q.1.1.2.2.1; omega) h3 fh3
      by_cases k5 : to_ < x.to_
      · simp +contextual (disch := omega) only [↓AM, ↓AV, AP, CQ, k1, k2, k4, k5, e2, e3, g1, hjn, bx, ub, u0, u1, u2, u3, c0, c1, c2]
        exact bad (fun q => by have := q.1.1.2.2.2.1; omega) h3 fh3
      by_cases k6 : x.to_ < x.frm
      · simp +contextual (disch := omega) only [↓AM, ↓AV, AP, CQ, k1, k2, k4, k5, k6, e2, e3, g1, hjn, bx, ub, u0, u1, u2, u3, c0, c1, c2]
        exact bad (fun q => by have := q.1.1.2.2.2.2.1; omega) h3 fh3
      simp +contextual (disch := omega) only [↓AM, ↓AV, AP, CQ, k1, k2, k4, k5, k6, e2, e3, g1, hjn, bx, ub, u0, u1, u2, u3, c0, c1, c2]
      refine (c_isName hxt).use ?_
      rintro _ g9 w9' ⟨rfl, e9'⟩
      subst g9
      by_cases k7 : nameB x.title = true
      case neg =>
        have k7' : nameB x.title = false := by simpa using k7
        rw [k7']
        simp +contextual (disch := omega) only [↓AM, ↓AV, AP, CQ, k1, k2, k4, k5, k6, e2, e3, g1, hjn, bx, ub, u0, u1, u2, u3, c0, c1, c2]
        exact bad (fun q => k7 q.1.1.2.2.2.2.2) h3 fh3
      rw [k7]
      obtain ⟨h4, e4⟩ : ∃ g, h3.putM mi ((ids1 ++ [x.id]).map fun k => (kI.enc k, Value.bool true)) = g := ⟨_, rfl⟩
      have w4 : Wf h4 := e4 ▸ w3.putM (w3.ltM cs3.map)
      have f4 : Fm (BM bc mi) h3 h4 := e4 ▸ (Fm.refl.putM fun _ => .inr rfl)
      have g4 : h4.get h1.size = some ⟨[.int .i64 x.id, .int .i64 x.frm, .int .i64 x.to_, .string x.title, .bool x.hide, .slice ka x.ks.length kc], .own⟩ := by rw [← e4]; exact g3
      have cs4 : Cst h4 bc mi ord (n1 + 1) (ids1 ++ [x.id]) := ⟨by rw [← e4]; exact cs3.box, by rw [← e4]; exact MI.put⟩
      have v1 : h4.rd h1.size 1 = some (.int .i64 x.frm) := rd_mk g4
      have v2 : h4.rd h1.size 2 = some (.int .i64 x.to_) := rd_mk g4
      have v5 : h4.rd h1.size 5 = some (.slice ka x.ks.length kc) := rd_mk g4
      have fh4 : Fm (BM bc mi) h h4 := fh3.trans f4 fun _ _ q => q
      have f04 : Fm No h0 h4 := f0.trans fh4 (fun x hx q => by rcases q with rfl | rfl <;> omega)
      have main : ord = true ∨ fin ≤ x.frm → chB (start + 40) ord (k + 1) l frm to_ frm ids = match chB (start + 40) ord k x.ks x.frm x.to_ x.frm (ids1 ++ [x.id]) with
          | none => none
          | some ids' => chB (start + 40) ord (k + 1) (l.drop (j + 1)) frm to_ x.to_ ids' := fun q => by
        rw [hE, if_pos ⟨⟨⟨k2, k3, by omega, by omega, by omega, k7⟩, q⟩, by omega⟩] <;> rfl
      have IH := ih x.ks (.slice ka x.ks.length kc) x.frm x.to_ (ids1 ++ [x.id]) (n1 + 1) h4 (by omega) kz hxw.len hxw.kid f04 cs4 (by simp; omega) (by omega)
      rw [← e9] at IH
      have go : ∀ (oo : (ord = true ∨ fin ≤ x.frm)), True := fun _ => trivial
      cases ord with
      | true =>
        simp +contextual (disch := omega) only [↓AM, ↓AV, AP, CQ, c0, c1, u0, u1]
        refine UpT.mk (d := kI) cs3.map ?_
        rw [ea, e4]
        simp +contextual (disch := omega) only [↓AM, ↓AV, AP, CQ, v1, v2, v5, i64]
        refine IH.use ?_
        rintro u h5 w5 ⟨f5, ck⟩
        have hm := main (.inl rfl)
        generalize chB (start + 40) true k x.ks x.frm x.to_ x.frm (ids1 ++ [x.id]) = r at ck hm
        have fh5 : Fm (BM bc mi) h h5 := fh4.trans f5 fun _ _ q => q
        cases r with
        | none =>
          have ck : u = .bool false := ck
          subst ck
          simp +contextual (disch := omega) only [↓AM, ↓AV, AP, CQ]
          exact ⟨fh5, .bad hm⟩
        | some ids' =>
          obtain ⟨rfl, n', cs5, hn5, hn6⟩ := ck
          simp +contextual (disch := omega) only [↓AM, ↓AV, AP, CQ, i64]
          exact ⟨l.length - (j + 1), by omega, j + 1, x.to_, ids', n', w5, fh5, by omega, rfl, cs5, hn5, hn6, hm, rfl⟩
      | false =>
        by_cases k8 : x.frm < fin
        · simp +contextual (disch := omega) only [↓AM, ↓AV, AP, CQ, c1, u1, k8]
          exact bad (fun q => by rcases q.1.2 with q | q <;> first | (cases q; done) | omega) h3 fh3
        simp +contextual (disch := omega) only [↓AM, ↓AV, AP, CQ, c0, c1, u0, u1, k8]
        refine UpT.mk (d := kI) cs3.map ?_
        rw [ea, e4]
        simp +contextual (disch := omega) only [↓AM, ↓AV, AP, CQ, v1, v2, v5, i64]
        refine IH.use ?_
        rintro u h5 w5 ⟨f5, ck⟩
        have hm := main (.inr (by omega))
        generalize chB (start + 40) false k x.ks x.frm x.to_ x.frm (ids1 ++ [x.id]) = r at ck hm
        have fh5 : Fm (BM bc mi) h h5 := fh4.trans f5 fun _ _ q => q
        cases r with
        | none =>
          have ck : u = .bool false := ck
          subst ck
          simp +contextual (disch := omega) only [↓AM, ↓AV, AP, CQ]
          exact ⟨fh5, .bad hm⟩
        | some ids' =>
          obtain ⟨rfl, n', cs5, hn5, hn6⟩ := ck
          simp +contextual (disch := omega) only [↓AM, ↓AV, AP, CQ, i64]
          exact ⟨l.length - (j + 1), by omega, j + 1, x.to_, ids', n', w5, fh5, by omega, rfl, cs5, hn5, hn6, hm, rfl⟩
end Go.Proofs.Ytbfbgkhlngkifaa.Mv

/- Editions checked by the program. Plain theorems over the abstract machine.
   Conditions: none. -/
namespace Go.Proofs.Ytbfbgkhlngkifaa.Mv
open Go Go.RowKit Go.Proofs.Ytbfbgkhlngkifaa.Am Go.Proofs.Ytbfbgkhlngkifaa.Af Go.Proofs.Ytbfbgkhlngkifaa.Md
set_option linter.unusedVariables false
set_option linter.unusedSimpArgs false
set_option linter.defProp false
set_option maxRecDepth 20000
set_option maxHeartbeats 4000000

/-- The Ids of all chapters; none: editions are not as said. -/
def ednB : List Int → List Int → List Edn → Option (List Int)
  | _, ids, [] => some ids
  | own, ids, e :: es =>
    if (1 ≤ e.1 ∧ e.1 ≤ 1000) ∧ e.1 ∉ own then
      match chB (ids.length + 40) e.2.1 4 e.2.2 0 1099511627776 0 ids with
      | none => none
      | some ids' => ednB (own ++ [e.1]) ids' es
    else none
theorem ok_map {b : Option Nat} : okStore (.map b) = true := rfl
theorem co_map {b : Option Nat} : cellsOf (.map b) = [.map b] := rfl
theorem ok_fn {f : Fn} {us vs : Array Value} : okStore (.func f us vs) = true := rfl
theorem co_fn {f : Fn} {us vs : Array Value} : cellsOf (.func f us vs) = [.func f us vs] := rfl
def CM := And.intro @ok_map (And.intro @co_map (And.intro @ok_fn @co_fn))
def ednE (r : Option (List Int)) : Int := match r with
  | none => 34
  | some _ => 0
theorem c_checkChapters {h : Hp} {m : Mov} {v1 v2 v3 v4 : Value} (a1 : SlV h trkK m.trks v1) (a2 : SlV h ednK m.edns v2) (a3 : SlV h tagK m.tags v3) (a4 : SlV h filK m.fils v4) (hn : MovW m) :
    ACalls Try.prog 109 [.agg #[.int .i64 m.scale, .string m.title, v1, v2, v3, v4]] h fun u h' => u = .int .i64 (ednE (ednB [] [] m.edns)) ∧ Fm No h h' := by
  refine model_checkChapters_ok.snd hm rfl fun w => ?_
  rw [WF_eq, model_checkChapters]
  obtain ⟨ta, tc, rfl⟩ := a1.val
  obtain ⟨da, dc, rfl⟩ := a2.val
  obtain ⟨ga, gc, rfl⟩ := a3.val
  obtain ⟨fa, fc, rfl⟩ := a4.val
  obtain ⟨hB, eB⟩ : ∃ g, h.new ⟨[.int .i64 m.scale, .string m.title, .slice ta m.trks.length tc, .slice da m.edns.length dc, .slice ga m.tags.length gc, .slice fa m.fils.length fc], .own⟩ = g := ⟨_, rfl⟩
  have sB : hB.size = h.size + 1 := by rw [← eB]; rfl
  have wB : Wf hB := eB ▸ w.new
  have f0 : Fm No h hB := eB ▸ Fm.new Fm.refl
  have gB : hB.get h.size = some ⟨[.int .i64 m.scale, .string m.title, .slice ta m.trks.length tc, .slice da m.edns.length dc, .slice ga m.tags.length gc, .slice fa m.fils.length fc], .own⟩ := eB ▸ gnew
  have rds : ∀ g, Fm No hB g → (g.rd h.size 0 = some (.int .i64 m.scale) ∧ g.rd h.size 1 = some (.string m.title)) ∧ (g.rd h.size 2 = some (.slice ta m.trks.length tc) ∧ g.rd h.size 3 = some (.slice da m.edns.length dc)) ∧ (g.rd h.size 4 = some (.slice ga m.tags.length gc) ∧ g.rd h.size 5 = some (.slice fa m.fils.length fc)) ∧ g.rdN h.size 0 6 = some [.int .i64 m.scale, .string m.title, .slice ta m.trks.length tc, .slice da m.edns.length dc, .slice ga m.tags.length gc, .slice fa m.fils.length fc] := fun g fg => by
    have k := fg.keep wB gB (fun f => f)
    exact ⟨⟨rd_mk k, rd_mk k⟩, ⟨rd_mk k, rd_mk k⟩, ⟨rd_mk k, rd_mk k⟩, by rw [rdN_mk k (Nat.le_refl 6)]; rfl⟩
  have u := rds hB Fm.refl
  obtain ⟨hC, eC⟩ : ∃ g, hB.newM [] = g := ⟨_, rfl⟩
  obtain ⟨hD, eD⟩ : ∃ g, hC.newM [] = g := ⟨_, rfl⟩
  have sC : hC.size = h.size + 2 := by rw [← eC, size_newM, sB]
  have sD : hD.size = h.size + 3 := by rw [← eD, size_newM, sC]
  have wC : Wf hC := eC ▸ wB.newM
  have wD : Wf hD := eD ▸ wC.newM
  have fC : Fm No hB hC := eC ▸ Fm.newM Fm.refl
  have fD : Fm No hC hD := eD ▸ Fm.newM Fm.refl
  have fBD := fC.trans fD fun _ _ f => f
  have f1 : Fm No h hD := f0.trans fBD fun _ _ f => f
  have mC : MI kI hC hB.size [] := eC ▸ MI.new
  have mC := mC.keep wC fD (fun f => f)
  have mD : MI kI hD hC.size [] := eD ▸ MI.new
  have u := rds hD fBD
  have hn1 := hn.edns
  simp +contextual (disch := omega) only [↓AM, ↓AV, AP, CQ, eB, eC, eD, u]
  refine WL.mk (fun k t' h' => ∃ (j : Nat) (own ids : List Int), Wf h' ∧ Fm No h h' ∧ hD.size ≤ h'.size ∧ j ≤ m.edns.length ∧ k = m.edns.length - j ∧ MI kI h' hB.size ids ∧ MI kI h' hC.size own ∧ ednB [] [] m.edns = ednB own ids (m.edns.drop j) ∧
      t' = [(3, some (.map (some hB.size))), (4, some (.map (some hC.size))), (11, some (.slice da m.edns.length dc)), (12, some (.int .i64 (m.edns.length : Int))), (13, some (.int .i64 (j : Int)))])
    ⟨m.edns.length, 0, [], [], wD, f1, Nat.le_refl _, by omega, rfl, mC, mD, rfl, rfl⟩ ?_
  rintro k t' h1 ⟨j, own, ids, w1, f01, hs1, hj, rfl, mi, mo, hE, rfl⟩
  by_cases hjn : j < m.edns.length
  case neg =>
    rw [List.drop_eq_nil_of_le (by omega)] at hE
    have hE : ednB [] [] m.edns = some ids := hE
    simp +contextual (disch := omega) only [↓AM, ↓AV, AP, CQ, hjn]
    exact ⟨by rw [hE]; rfl, f01⟩
  obtain ⟨b1, o1, s1, x, xc, rfl, g1, hx, hxa, hxr0⟩ := a2.el hjn
  obtain ⟨kv, rfl, kz⟩ := edn_open hxa
  obtain ⟨ka, kc, rfl⟩ := kz.val
  have hxr0 : h.rdN b1 (o1 + j * 3) 3 = some [.int .i64 x.1, .bool x.2.1, .slice ka x.2.2.length kc] := hxr0
  have hxr : h1.rdN b1 (o1 + j * 3) 3 = some [.int .i64 x.1, .bool x.2.1, .slice ka x.2.2.length kc] := (rdN_keep (f01.get _ (rdN_wf w hxr0) (fun f => f))).trans hxr0
  have hxw := hn.ednw x (List.mem_of_getElem? hx)
  rw [List.drop_eq_getElem_cons hjn, (List.getElem?_eq_some_iff.1 hx).2] at hE
  obtain ⟨h2, e2⟩ : ∃ g, h1.new ⟨[.int .i64 x.1, .bool x.2.1, .slice ka x.2.2.length kc], .own⟩ = g := ⟨_, rfl⟩
  have w2 : Wf h2 := e2 ▸ w1.new
  have f2 : Fm No h1 h2 := e2 ▸ Fm.new Fm.refl
  have s2 : h2.size = h1.size + 1 := by rw [← e2]; rfl
  have g2 : h2.get h1.size = some ⟨[.int .i64 x.1, .bool x.2.1, .slice ka x.2.2.length kc], .own⟩ := e2 ▸ gnew
  obtain ⟨h3, e3⟩ : ∃ g, h2.new ⟨[.map (some hB.size), .bool x.2.1, .int .i64 0], .own⟩ = g := ⟨_, rfl⟩
  have w3 : Wf h3 := e3 ▸ w2.new
  have f3 : Fm No h2 h3 := e3 ▸ Fm.new Fm.refl
  have g3 : h3.get h2.size = some ⟨[.map (some hB.size), .bool x.2.1, .int .i64 0], .own⟩ := e3 ▸ gnew
  have g23 := f3.keep w2 g2 (fun f => f)
  have f13 := f2.trans f3 fun _ _ f => f
  have f03 := f01.trans f13 fun _ _ f => f
  have mi3 := mi.keep w1 f13 (fun f => f)
  have mo3 := mo.keep w1 f13 (fun f => f)
  have u2 : h2.rd h1.size 1 = some (.bool x.2.1) := rd_mk g2
  have u3 : h3.rd h1.size 0 = some (.int .i64 x.1) := rd_mk g23
  have u4 : h3.rd h1.size 2 = some (.slice ka x.2.2.length kc) := rd_mk g23
  have bad : ¬ ((1 ≤ x.1 ∧ x.1 ≤ 1000) ∧ x.1 ∉ own) → Value.int .i64 34 = .int .i64 (ednE (ednB [] [] m.edns)) := fun q => by
    rw [hE, ednB, if_neg q]; rfl
  simp +contextual (disch := omega) only [↓AM, ↓AV, AP, CQ, CM, hjn, g1, hxr, e2, u2, e3, u3]
  refine ⟨rfl, ?_⟩
  refine c_mwithin.use ?_
  rintro _ g9 w9 ⟨rfl, e9'⟩
  subst g9
  by_cases k1 : 1 ≤ x.1 ∧ x.1 ≤ 1000
  case neg =>
    simp +contextual (disch := omega) only [↓AM, ↓AV, AP, CQ, e2, e3, k1]
    exact ⟨bad (fun q => k1 q.1), f03⟩
  simp +contextual (disch := omega) only [↓AM, ↓AV, AP, CQ, e2, e3, k1, u3]
  refine LkT.mk (d := kI) mo3 fun q hq => ?_
  cases q with
  | true =>
    simp +contextual (disch := omega) only [↓AM, ↓AV, AP, CQ]
    exact ⟨bad (fun q => q.2 (hq.1 rfl)), f03⟩
  | false =>
  have k2 : x.1 ∉ own := fun q => by have := hq.2 q; cases this
  have ea : addK own x.1 = own ++ [x.1] := if_neg k2
  have cst : Cst h3 h2.size hB.size x.2.1 0 ids := ⟨g3, mi3⟩
  have CK := c_check w (bc := h2.size) (mi := hB.size) (by omega) (by omega) (start := ids.length) 4 x.2.2 (.slice ka x.2.2.length kc) 0 1099511627776 ids 0 h3 (Nat.le_refl 4) kz hxw.len hxw.kids f03 cst (by omega) (by omega)
  have CK : ACalls Try.prog 127 [.pointer (some ⟨h2.size, 0, none⟩), .slice ka x.2.2.length kc, .int .i64 0, .int .i64 1099511627776, .int .i64 1] h3 _ := CK
  simp +contextual (disch := omega) only [↓AM, ↓AV, AP, CQ, e2, e3, u3, u4]
  refine CK.use ?_
  rintro uu h5 w5 ⟨f5, ck⟩
  have f35 : Fm No h h5 := f03.trans f5 (fun x hx q => by rcases q with rfl | rfl <;> omega)
  have hE2 : ednB [] [] m.edns = match chB (ids.length + 40) x.2.1 4 x.2.2 0 1099511627776 0 ids with
      | none => none
      | some ids' => ednB (own ++ [x.1]) ids' (m.edns.drop (j + 1)) := by rw [hE, ednB, if_pos ⟨k1, k2⟩]
  generalize chB (ids.length + 40) x.2.1 4 x.2.2 0 1099511627776 0 ids = r at ck hE2
  cases r with
  | none =>
    have ck : uu = .bool false := ck
    subst ck
    simp +contextual (disch := omega) only [↓AM, ↓AV, AP, CQ]
    exact ⟨by rw [hE2]; rfl, f35⟩
  | some ids' =>
    obtain ⟨rfl, n', cs5, hn5, hn6⟩ := ck
    have ne1 : ∀ z, z = h1.size ∨ z = hC.size → ¬ BM h2.size hB.size z := fun z hz q => by rcases hz with rfl | rfl <;> rcases q with q | q <;> omega
    have g25 := f5.keep w3 g23 (ne1 _ (.inl rfl))
    have mo5 := mo3.keep w3 f5 (ne1 _ (.inr rfl))
    have u5 : h5.rd h1.size 0 = some (.int .i64 x.1) := rd_mk g25
    obtain ⟨h6, e6⟩ : ∃ g, h5.putM hC.size ((own ++ [x.1]).map fun k => (kI.enc k, Value.bool true)) = g := ⟨_, rfl⟩
    have w6 : Wf h6 := e6 ▸ w5.putM (w5.ltM mo5)
    have f56 : Fm (fun z => z = hC.size) h5 h6 := e6 ▸ (Fm.refl.putM fun _ => rfl)
    have f06 : Fm No h h6 := f35.trans f56 (fun x hx q => by have q : x = hC.size := q; omega)
    have mo6 : MI kI h6 hC.size (own ++ [x.1]) := e6 ▸ MI.put
    have mi6 : MI kI h6 hB.size ids' := cs5.map.keep w5 f56 (fun q => by have q : hB.size = hC.size := q; omega)
    have z3 := f3.size
    have z5 := f5.size
    have z6 := f56.size
    simp +contextual (disch := omega) only [↓AM, ↓AV, AP, CQ, e2, e3, u5]
    refine UpT.mk (d := kI) mo5 ?_
    rw [ea, e6]
    simp +contextual (disch := omega) only [↓AM, ↓AV, AP, CQ, i64]
    exact ⟨m.edns.length - (j + 1), by omega, j + 1, own ++ [x.1], ids', w6, f06, by omega, by omega, rfl, mi6, mo6, hE2, rfl⟩
end Go.Proofs.Ytbfbgkhlngkifaa.Mv

/- Files and tags checked by the program. Plain theorems over the abstract machine.
   Conditions: none. -/
namespace Go.Proofs.Ytbfbgkhlngkifaa.Mv
open Go Go.RowKit Go.Proofs.Ytbfbgkhlngkifaa.Am Go.Proofs.Ytbfbgkhlngkifaa.Af Go.Proofs.Ytbfbgkhlngkifaa.Md
set_option linter.unusedVariables false
set_option linter.unusedSimpArgs false
set_option linter.defProp false
set_option maxRecDepth 20000
set_option maxHeartbeats 4000000

theorem str_eq (x y : ByteArray) : (x.toList == y.toList) = decide (x = y) := by
  rw [ByteArray.toList_eq, ByteArray.toList_eq]
  by_cases h : x = y
  · subst h; simp
  · rw [decide_eq_false h, Bool.eq_false_iff]
    intro q
    have q := eq_of_beq q
    exact h (by cases x; cases y; exact congrArg ByteArray.mk (Array.toList_inj.1 q))
theorem sb_eql {x y : ByteArray} {K : Value → Prop} : strBin .eql x y K = K (.bool (decide (x = y))) := by
  show K (.bool (x.toList == y.toList)) = _
  rw [str_eq]
theorem sb_neq {x y : ByteArray} {K : Value → Prop} : strBin .neq x y K = K (.bool (!decide (x = y))) := by
  show K (.bool !(x.toList == y.toList)) = _
  rw [str_eq]
abbrev em : ByteArray := ⟨#[]⟩
/-- The Ids of chapters, one behind the other. -/
def preL : List Chp → List Int
  | [] => []
  | .mk a ks :: xs => a.1 :: (preL ks ++ preL xs)
theorem preL_cons (x : Chp) (xs : List Chp) : preL (x :: xs) = x.id :: (preL x.ks ++ preL xs) := by
  cases x
  rw [preL]
  rfl
/-- How many chapters there are. -/
def nodL : List Chp → Nat
  | [] => 0
  | .mk _ ks :: xs => 1 + nodL ks + nodL xs
theorem nodL_cons (x : Chp) (xs : List Chp) : nodL (x :: xs) = 1 + nodL x.ks + nodL xs := by
  cases x
  rw [nodL]
  rfl
theorem nodL_mem {x : Chp} : ∀ {xs : List Chp}, x ∈ xs → nodL x.ks < nodL xs
  | [], h => by cases h
  | y :: ys, h => by
    rw [nodL_cons]
    rcases List.mem_cons.1 h with rfl | h
    · omega
    · have := nodL_mem h
      omega
theorem mem_pre_drop {l : List Chp} {j : Nat} {x : Chp} (h : l[j]? = some x) (p : Int) : p ∈ preL (l.drop j) ↔ p = x.id ∨ p ∈ preL x.ks ∨ p ∈ preL (l.drop (j + 1)) := by
  rw [List.drop_eq_getElem_cons (List.getElem?_eq_some_iff.1 h).1, (List.getElem?_eq_some_iff.1 h).2, preL_cons]
  simp
theorem chB_pre {B : Nat} {ord : Bool} : ∀ (k : Nat) (l : List Chp) (frm to_ fin : Int) (ids r : List Int), chB B ord k l frm to_ fin ids = some r → r = ids ++ preL l := by
  intro k
  induction k with
  | zero =>
    intro l frm to_ fin ids r h
    cases l with
    | nil => rw [chB_nil] at h; cases h; simp [preL]
    | cons x xs => rw [chB_zero] at h; cases h
  | succ k ih =>
    intro l
    induction l with
    | nil => intro frm to_ fin ids r h; rw [chB_nil] at h; cases h; simp [preL]
    | cons x xs ih2 =>
      intro frm to_ fin ids r h
      rw [chB_cons] at h
      split at h
      · cases hk : chB B ord k x.ks x.frm x.to_ x.frm (ids ++ [x.id]) with
        | none => rw [hk] at h; cases h
        | some ids' =>
          rw [hk] at h
          have h1 := ih _ _ _ _ _ _ hk
          have h2 := ih2 _ _ _ _ _ h
          rw [h2, h1, preL_cons]
          simp
      · cases h
theorem ednB_pre : ∀ (l : List Edn) (own ids r : List Int), ednB own ids l = some r → r = ids ++ l.flatMap fun e => preL e.2.2
  | [], own, ids, r, h => by
    have h : some ids = some r := h
    cases h; simp
  | e :: es, own, ids, r, h => by
    rw [ednB] at h
    split at h
    · cases hk : chB (ids.length + 40) e.2.1 4 e.2.2 0 1099511627776 0 ids with
      | none => rw [hk] at h; cases h
      | some ids' =>
        rw [hk] at h
        have h1 := chB_pre _ _ _ _ _ _ _ hk
        have h2 := ednB_pre es _ _ _ h
        rw [h2, h1]
        simp
    · cases h
/-- The map of a walk: S holds just what p says. -/
structure Rst (h : Hp) (b3 mi : Nat) (S : List (Int × Int)) : Prop where
  box : h.get b3 = some ⟨[.map (some mi)], .own⟩
  map : MI kP h mi S
theorem Rst.keep {h h' : Hp} {b3 mi : Nat} {S : List (Int × Int)} (c : Rst h b3 mi S) (w : Wf h) (f : Fm No h h') : Rst h' b3 mi S :=
  ⟨f.keep w c.box (fun f => f), c.map.keep w f (fun f => f)⟩
theorem Rst.put {h : Hp} {b3 mi : Nat} {S : List (Int × Int)} {k : Int × Int} (c : Rst h b3 mi S) : Rst (h.putM mi ((addK S k).map fun k => (kP.enc k, .bool true))) b3 mi (addK S k) := ⟨c.box, MI.put⟩
theorem kP_enc {a b : Int} : kP.enc (a, b) = .agg #[.int .i64 a, .int .i64 b] := rfl
theorem c_walk {h0 : Hp} (w0 : Wf h0) {b3 b8 mi : Nat} (hb3 : h0.size ≤ b3) (hb8 : h0.size ≤ b8) (hmi : h0.size ≤ mi) (hne : b8 ≠ mi) : ∀ (N : Nat) (l : List Chp) (v : Value) (S : List (Int × Int)) (h : Hp), nodL l ≤ N → SlV h0 chpK l v → l.length ≤ 140737488351232 → (∀ x ∈ l, ChpW x) →
    Fm No h0 h → Rst h b3 mi S → h.get b8 = some ⟨[.func (.func 128) #[] #[.pointer (some ⟨b3, 0, none⟩), .pointer (some ⟨b8, 0, none⟩)]], .own⟩ →
    ACalls Try.prog 128 [v, .pointer (some ⟨b3, 0, none⟩), .pointer (some ⟨b8, 0, none⟩)] h fun u h' => Fm (fun z => z = mi) h h' ∧ ∃ S', Rst h' b3 mi S' ∧ ∀ p, p ∈ S' ↔ p ∈ S ∨ (p.1 = 2 ∧ p.2 ∈ preL l) := by
  intro N
  induction N with
  | zero =>
    intro l v S h hN a hl hw f0 rs g8
    cases l with
    | cons x xs => rw [nodL_cons] at hN; omega
    | nil =>
      refine model_checkRest_1_ok.snd hm rfl fun w => ?_
      rw [WF_eq, model_checkRest_1]
      obtain ⟨oa, c, rfl⟩ := a.val
      simp +contextual (disch := omega) only [↓AM, ↓AV, AP, CQ]
      refine WL.mk (fun k t' h' => h' = h ∧ t' = [(1, some (.pointer (some ⟨b3, 0, none⟩))), (2, some (.pointer (some ⟨b8, 0, none⟩))), (6, some (.slice oa ([] : List Chp).length c)), (7, some (.int .i64 (([] : List Chp).length : Int))), (8, some (.int .i64 0))]) ⟨0, rfl, rfl⟩ ?_
      rintro k t' h' ⟨e, rfl⟩
      subst h'
      have e1 : ((0 : Int) < ((([] : List Chp).length : Nat) : Int)) = False := by simp
      simp +contextual (disch := omega) only [↓AM, ↓AV, AP, CQ, e1]
      exact ⟨Fm.refl, S, rs, fun p => by simp [preL]⟩
  | succ N ih =>
    intro l v S h hN a hl hw f0 rs g8
    refine model_checkRest_1_ok.snd hm rfl fun w => ?_
    rw [WF_eq, model_checkRest_1]
    obtain ⟨oa, c, rfl⟩ := a.val
    simp +contextual (disch := omega) only [↓AM, ↓AV, AP, CQ]
    refine WL.mk (fun k t' h' => ∃ (j : Nat) (S1 : List (Int × Int)), Wf h' ∧ Fm (fun z => z = mi) h h' ∧ j ≤ l.length ∧ k = l.length - j ∧ Rst h' b3 mi S1 ∧ (∀ p, (p ∈ S ∨ (p.1 = 2 ∧ p.2 ∈ preL l)) ↔ p ∈ S1 ∨ (p.1 = 2 ∧ p.2 ∈ preL (l.drop j))) ∧
        h'.get b8 = some ⟨[.func (.func 128) #[] #[.pointer (some ⟨b3, 0, none⟩), .pointer (some ⟨b8, 0, none⟩)]], .own⟩ ∧
        t' = [(1, some (.pointer (some ⟨b3, 0, none⟩))), (2, some (.pointer (some ⟨b8, 0, none⟩))), (6, some (.slice oa l.length c)), (7, some (.int .i64 (l.length : Int))), (8, some (.int .i64 (j : Int)))])
      ⟨l.length, 0, S, w, Fm.refl, by omega, rfl, rs, fun p => Iff.rfl, g8, rfl⟩ ?_
    rintro k t' h1 ⟨j, S1, w1, f1, hj, rfl, rs1, hS, g8', rfl⟩
    have f01 : Fm No h0 h1 := f0.trans f1 (fun x hx q => by have q : x = mi := q; omega)
    by_cases hjn : j < l.length
    case neg =>
      rw [List.drop_eq_nil_of_le (by omega)] at hS
      simp +contextual (disch := omega) only [↓AM, ↓AV, AP, CQ, hjn]
      exact ⟨f1, S1, rs1, fun p => by rw [hS p]; simp [preL]⟩
    obtain ⟨b1, o1, s1, x, xc, rfl, g1, hx, hxa, hxr0⟩ := a.el hjn
    obtain ⟨kv, rfl, kz⟩ := chp_open hxa
    obtain ⟨ka, kc, rfl⟩ := kz.val
    have hxr0 : h0.rdN b1 (o1 + j * 6) 6 = some [.int .i64 x.id, .int .i64 x.frm, .int .i64 x.to_, .string x.title, .bool x.hide, .slice ka x.ks.length kc] := hxr0
    have hxr : h1.rdN b1 (o1 + j * 6) 6 = some [.int .i64 x.id, .int .i64 x.frm, .int .i64 x.to_, .string x.title, .bool x.hide, .slice ka x.ks.length kc] := (rdN_keep (f01.get _ (rdN_wf w0 hxr0) (fun f => f))).trans hxr0
    have hxw := hw x (List.mem_of_getElem? hx)
    obtain ⟨h2, e2⟩ : ∃ g, h1.new ⟨[.int .i64 x.id, .int .i64 x.frm, .int .i64 x.to_, .string x.title, .bool x.hide, .slice ka x.ks.length kc], .own⟩ = g := ⟨_, rfl⟩
    have w2 : Wf h2 := e2 ▸ w1.new
    have f2 : Fm No h1 h2 := e2 ▸ Fm.new Fm.refl
    have g2 : h2.get h1.size = some ⟨[.int .i64 x.id, .int .i64 x.frm, .int .i64 x.to_, .string x.title, .bool x.hide, .slice ka x.ks.length kc], .own⟩ := e2 ▸ gnew
    have rs2 := rs1.keep w1 f2
    have g82 := f2.keep w1 g8' (fun f => f)
    have u0 : h2.rd h1.size 0 = some (.int .i64 x.id) := rd_mk g2
    have ub : h2.rd b3 0 = some (.map (some mi)) := rd_mk rs2.box
    obtain ⟨h3, e3⟩ : ∃ g, h2.putM mi ((addK S1 (2, x.id)).map fun k => (kP.enc k, Value.bool true)) = g := ⟨_, rfl⟩
    have w3 : Wf h3 := e3 ▸ w2.putM (w2.ltM rs2.map)
    have f3 : Fm (fun z => z = mi) h2 h3 := e3 ▸ (Fm.refl.putM fun _ => rfl)
    have rs3 : Rst h3 b3 mi (addK S1 (2, x.id)) := e3 ▸ rs2.put
    have g3 : h3.get h1.size = some ⟨[.int .i64 x.id, .int .i64 x.frm, .int .i64 x.to_, .string x.title, .bool x.hide, .slice ka x.ks.length kc], .own⟩ := by rw [← e3]; exact g2
    have g83 : h3.get b8 = some ⟨[.func (.func 128) #[] #[.pointer (some ⟨b3, 0, none⟩), .pointer (some ⟨b8, 0, none⟩)]], .own⟩ := by rw [← e3]; exact g82
    have u5 : h3.rd h1.size 5 = some (.slice ka x.ks.length kc) := rd_mk g3
    have u8 : h3.rd b8 0 = some (.func (.func 128) #[] #[.pointer (some ⟨b3, 0, none⟩), .pointer (some ⟨b8, 0, none⟩)]) := rd_mk g83
    have f13 : Fm (fun z => z = mi) h1 h3 := (f2.mono (fun _ _ q => q.elim)).trans f3 fun _ _ q => q
    have f03 : Fm No h0 h3 := f01.trans f13 (fun x hx q => by have q : x = mi := q; omega)
    have IH := ih x.ks (.slice ka x.ks.length kc) (addK S1 (2, x.id)) h3 (by have := nodL_mem (List.mem_of_getElem? hx); omega) kz hxw.len hxw.kid f03 rs3 g83
    simp +contextual (disch := omega) only [↓AM, ↓AV, AP, CQ, hjn, g1, hxr, e2, u0, ub]
    refine UpT.mk (d := kP) (k := (2, x.id)) rs2.map ?_
    rw [e3]
    simp +contextual (disch := omega) only [↓AM, ↓AV, AP, CQ, e2, u5, u8]
    refine ⟨model_checkRest_1_ok.2, ?_⟩
    refine IH.use ?_
    rintro uu h5 w5 ⟨f5, S', rs5, hS'⟩
    have f15 : Fm (fun z => z = mi) h1 h5 := f13.trans f5 fun _ _ q => q
    have g85 := f5.keep w3 g83 (fun q => hne q)
    simp +contextual (disch := omega) only [↓AM, ↓AV, AP, CQ, i64]
    refine ⟨l.length - (j + 1), by omega, j + 1, S', w5, f1.trans f15 fun _ _ q => q, by omega, rfl, rs5, fun p => ?_, g85, rfl⟩
    rw [hS p, hS' p, addK_mem, mem_pre_drop hx]
    obtain ⟨p1, p2⟩ := p
    simp only [Prod.mk.injEq]
    constructor
    · rintro (q | ⟨q1, q2 | q2 | q2⟩)
      · exact .inl (.inl (.inr q))
      · exact .inl (.inl (.inl ⟨q1, q2⟩))
      · exact .inl (.inr ⟨q1, q2⟩)
      · exact .inr ⟨q1, q2⟩
    · rintro (((⟨q1, q2⟩ | q) | ⟨q1, q2⟩) | ⟨q1, q2⟩)
      · exact .inr ⟨q1, .inl q2⟩
      · exact .inl q
      · exact .inr ⟨q1, .inr (.inl q2)⟩
      · exact .inr ⟨q1, .inr (.inr q2)⟩
/-! ### files and tags -/
def flP (seen : List Int) (f : Flx) : Prop := (1 ≤ f.1 ∧ f.1 ≤ 1000) ∧ f.1 ∉ seen ∧ nameB f.2.1 = true ∧ nameB f.2.2.1 = true ∧ f.2.2.2.length ≤ 65536
instance (seen : List Int) (f : Flx) : Decidable (flP seen f) := by unfold flP; infer_instance
def filB : List Int → List Flx → Bool
  | _, [] => true
  | seen, f :: fs => if flP seen f then filB (seen ++ [f.1]) fs else false
/-- What a tag may be of. -/
def ofP (m : Mov) (chaps : List Int) (p : Int × Int) : Prop := p = (0, 0) ∨ (p.1 = 3 ∧ p.2 ∈ m.fils.map fun f => f.1) ∨ (p.1 = 1 ∧ p.2 ∈ m.trks.map Trk.id) ∨ (p.1 = 2 ∧ p.2 ∈ chaps)
def tagP (m : Mov) (chaps : List Int) (t : Tgx) : Prop := t.2.2.1 ≠ em ∧ nameB t.2.2.1 = true ∧ nameB t.2.2.2 = true ∧ ofP m chaps (t.1, t.2.1)
def restP (m : Mov) (chaps : List Int) : Prop := filB [] m.fils = true ∧ ∀ t ∈ m.tags, tagP m chaps t
open Classical in
noncomputable def restE (m : Mov) (chaps : List Int) : Int := if restP m chaps then 0 else 4
theorem restE_bad {m : Mov} {chaps : List Int} (h : ¬ restP m chaps) : restE m chaps = 4 := if_neg h
theorem restE_ok {m : Mov} {chaps : List Int} (h : restP m chaps) : restE m chaps = 0 := if_pos h
theorem mem_take_S {α : Type} {l : List α} {j : Nat} {x : α} (h : l[j]? = some x) {β : Type} {f : α → β} {p : β} : p ∈ (l.take (j + 1)).map f ↔ p ∈ (l.take j).map f ∨ p = f x := by
  rw [List.take_add_one, h, Option.toList_some, List.map_append, List.mem_append]
  simp
theorem c_checkRest {h : Hp} {m : Mov} {v1 v2 v3 v4 : Value} (a1 : SlV h trkK m.trks v1) (a2 : SlV h ednK m.edns v2) (a3 : SlV h tagK m.tags v3) (a4 : SlV h filK m.fils v4) (hn : MovW m) :
    ACalls Try.prog 110 [.agg #[.int .i64 m.scale, .string m.title, v1, v2, v3, v4]] h fun u h' => u = .int .i64 (restE m (m.edns.flatMap fun e => preL e.2.2)) ∧ Fm No h h' := by
  refine model_checkRest_ok.snd hm rfl fun w => ?_
  rw [WF_eq, model_checkRest]
  obtain ⟨ta, tc, rfl⟩ := a1.val
  obtain ⟨da, dc, rfl⟩ := a2.val
  obtain ⟨ga, gc, rfl⟩ := a3.val
  obtain ⟨fa, fc, rfl⟩ := a4.val
  obtain ⟨hB, eB⟩ : ∃ g, h.new ⟨[.int .i64 m.scale, .string m.title, .slice ta m.trks.length tc, .slice da m.edns.length dc, .slice ga m.tags.length gc, .slice fa m.fils.length fc], .own⟩ = g := ⟨_, rfl⟩
  have sB : hB.size = h.size + 1 := by rw [← eB]; rfl
  have wB : Wf hB := eB ▸ w.new
  have f0 : Fm No h hB := eB ▸ Fm.new Fm.refl
  have gB : hB.get h.size = some ⟨[.int .i64 m.scale, .string m.title, .slice ta m.trks.length tc, .slice da m.edns.length dc, .slice ga m.tags.length gc, .slice fa m.fils.length fc], .own⟩ := eB ▸ gnew
  have rds : ∀ g, Fm No hB g → (g.rd h.size 0 = some (.int .i64 m.scale) ∧ g.rd h.size 1 = some (.string m.title)) ∧ (g.rd h.size 2 = some (.slice ta m.trks.length tc) ∧ g.rd h.size 3 = some (.slice da m.edns.length dc)) ∧ (g.rd h.size 4 = some (.slice ga m.tags.length gc) ∧ g.rd h.size 5 = some (.slice fa m.fils.length fc)) ∧ g.rdN h.size 0 6 = some [.int .i64 m.scale, .string m.title, .slice ta m.trks.length tc, .slice da m.edns.length dc, .slice ga m.tags.length gc, .slice fa m.fils.length fc] := fun g fg => by
    have k := fg.keep wB gB (fun f => f)
    exact ⟨⟨rd_mk k, rd_mk k⟩, ⟨rd_mk k, rd_mk k⟩, ⟨rd_mk k, rd_mk k⟩, by rw [rdN_mk k (Nat.le_refl 6)]; rfl⟩
  have u := rds hB Fm.refl
  obtain ⟨hC, eC⟩ : ∃ g, hB.newM [] = g := ⟨_, rfl⟩
  have sC : hC.size = h.size + 2 := by rw [← eC, size_newM, sB]
  have wC : Wf hC := eC ▸ wB.newM
  have fC : Fm No hB hC := eC ▸ Fm.newM Fm.refl
  have mC : MI kP hC hB.size [] := eC ▸ MI.new
  obtain ⟨hD, eD⟩ : ∃ g, hC.putM hB.size ((addK [] ((0 : Int), (0 : Int))).map fun k => (kP.enc k, Value.bool true)) = g := ⟨_, rfl⟩
  have sD : hD.size = h.size + 2 := by rw [← eD, size_putM, sC]
  have wD : Wf hD := eD ▸ wC.putM (wC.ltM mC)
  have fBD : Fm No hB hD := eD ▸ fC.putM (fun hlt => absurd hlt (by omega))
  have mD : MI kP hD hB.size (addK [] ((0 : Int), (0 : Int))) := eD ▸ MI.put
  obtain ⟨hE, eE⟩ : ∃ g, hD.new ⟨[.map (some hB.size)], .own⟩ = g := ⟨_, rfl⟩
  have sE : hE.size = h.size + 3 := by rw [← eE, size_new, sD]
  have wE' : Wf hE := eE ▸ wD.new
  have fE : Fm No hD hE := eE ▸ Fm.new Fm.refl
  have fBE := fBD.trans fE fun _ _ f => f
  have rsE : Rst hE hD.size hB.size (addK [] ((0 : Int), (0 : Int))) := ⟨eE ▸ gnew, mD.keep wD fE (fun f => f)⟩
  have f1 : Fm No h hE := f0.trans fBE fun _ _ f => f
  have u := rds hE fBE
  have hn1 := hn.fils
  have hn2 := hn.trks
  have hn3 := hn.edns
  have hn4 := hn.tags
  have newp : ∀ (g : Hp) (o o' : Ob), (g.new o).put g.size o' = g.new o' := fun g o o' => new_put
  simp +contextual (disch := omega) only [↓AM, ↓AV, AP, CQ, CM, eB, eC]
  refine UpT.mk (d := kP) (k := (0, 0)) mC ?_
  rw [eD]
  simp +contextual (disch := omega) only [↓AM, ↓AV, AP, CQ, CM, eB, eE, u]
  have ptr : hD.size ≠ hB.size := by omega
  -- files
  refine WL.mk (fun k t' h' => ∃ (j : Nat) (S : List (Int × Int)), Wf h' ∧ Fm No h h' ∧ Fm (fun z => z = hB.size) hE h' ∧ j ≤ m.fils.length ∧ k = m.fils.length - j ∧ Rst h' hD.size hB.size S ∧ (∀ p, p ∈ S ↔ p = (0, 0) ∨ (p.1 = 3 ∧ p.2 ∈ (m.fils.take j).map fun f => f.1)) ∧ filB [] m.fils = filB ((m.fils.take j).map fun f => f.1) (m.fils.drop j) ∧
      t' = [(1, some (.pointer (some ⟨h.size, 0, none⟩))), (3, some (.pointer (some ⟨hD.size, 0, none⟩))), (17, some (.slice fa m.fils.length fc)), (18, some (.int .i64 (m.fils.length : Int))), (19, some (.int .i64 (j : Int)))])
    ⟨m.fils.length, 0, _, wE', f1, Fm.refl, by omega, rfl, rsE, fun p => by rw [addK_mem]; simp, rfl, rfl⟩ ?_
  rintro k t' h1 ⟨j, S1, w1, f01, fE1, hj, rfl, rs1, hS, hF, rfl⟩
  by_cases hjn : j < m.fils.length
  · obtain ⟨b1, o1, s1, x, xc, rfl, g1, hx, hxa, hxr⟩ := (a4.keep w f01).el hjn
    obtain ⟨kv, rfl, kz⟩ := fil_open hxa
    obtain ⟨dw, dcw, rfl⟩ := kz.val
    have hxr : h1.rdN b1 (o1 + j * 4) 4 = some [.int .i64 x.1, .string x.2.1, .string x.2.2.1, .slice dw x.2.2.2.length dcw] := hxr
    obtain ⟨xw1, xw2, xw3⟩ := hn.filw x (List.mem_of_getElem? hx)
    obtain ⟨h2, e2⟩ : ∃ g, h1.new ⟨[.int .i64 x.1, .string x.2.1, .string x.2.2.1, .slice dw x.2.2.2.length dcw], .own⟩ = g := ⟨_, rfl⟩
    have w2 : Wf h2 := e2 ▸ w1.new
    have f2 : Fm No h1 h2 := e2 ▸ Fm.new Fm.refl
    have g2 : h2.get h1.size = some ⟨[.int .i64 x.1, .string x.2.1, .string x.2.2.1, .slice dw x.2.2.2.length dcw], .own⟩ := e2 ▸ gnew
    have rs2 := rs1.keep w1 f2
    have f02 := f01.trans f2 fun _ _ f => f
    have fE2 : Fm (fun z => z = hB.size) hE h2 := fE1.trans f2 fun _ _ f => f.elim
    have v0 : h2.rd h1.size 0 = some (.int .i64 x.1) := rd_mk g2
    have v1 : h2.rd h1.size 1 = some (.string x.2.1) := rd_mk g2
    have v2 : h2.rd h1.size 2 = some (.string x.2.2.1) := rd_mk g2
    have v3 : h2.rd h1.size 3 = some (.slice dw x.2.2.2.length dcw) := rd_mk g2
    have vb : h2.rd hD.size 0 = some (.map (some hB.size)) := rd_mk rs2.box
    rw [List.drop_eq_getElem_cons hjn, (List.getElem?_eq_some_iff.1 hx).2] at hF
    have bad : ¬ flP ((m.fils.take j).map fun f => f.1) x → Value.int .i64 4 = .int .i64 (restE m (m.edns.flatMap fun e => preL e.2.2)) := fun q => by
      rw [restE_bad]
      intro r
      have := r.1
      rw [hF, filB, if_neg q] at this
      cases this
    simp +contextual (disch := omega) only [↓AM, ↓AV, AP, CQ, CM, hjn, g1, hxr, e2, v0]
    refine c_mwithin.use ?_
    rintro _ g9 w9 ⟨rfl, e9'⟩
    subst g9
    by_cases k1 : 1 ≤ x.1 ∧ x.1 ≤ 1000
    case neg =>
      simp +contextual (disch := omega) only [↓AM, ↓AV, AP, CQ, CM, e2, k1]
      exact ⟨bad (fun q => k1 q.1), f02⟩
    simp +contextual (disch := omega) only [↓AM, ↓AV, AP, CQ, CM, e2, k1, v0, vb]
    refine LkT.mk (d := kP) (k := (3, x.1)) rs2.map fun q hq => ?_
    have hq' : q = true ↔ x.1 ∈ (m.fils.take j).map fun f => f.1 := by
      rw [hq, hS]
      simp
    cases q with
    | true =>
      simp +contextual (disch := omega) only [↓AM, ↓AV, AP, CQ, CM]
      exact ⟨bad (fun q => q.2.1 (hq'.1 rfl)), f02⟩
    | false =>
    have k2 : x.1 ∉ (m.fils.take j).map fun f => f.1 := fun q => by have := hq'.2 q; cases this
    simp +contextual (disch := omega) only [↓AM, ↓AV, AP, CQ, CM, e2, v1]
    refine (c_isName xw1).use ?_
    rintro _ g9 w9' ⟨rfl, e9'⟩
    subst g9
    by_cases k3 : nameB x.2.1 = true
    case neg =>
      have k3' : nameB x.2.1 = false := by simpa using k3
      rw [k3']
      simp +contextual (disch := omega) only [↓AM, ↓AV, AP, CQ, CM]
      exact ⟨bad (fun q => k3 q.2.2.1), f02⟩
    rw [k3]
    simp +contextual (disch := omega) only [↓AM, ↓AV, AP, CQ, CM, e2, v2]
    refine (c_isName xw2).use ?_
    rintro _ g9 w9' ⟨rfl, e9'⟩
    subst g9
    by_cases k4 : nameB x.2.2.1 = true
    case neg =>
      have k4' : nameB x.2.2.1 = false := by simpa using k4
      rw [k4']
      simp +contextual (disch := omega) only [↓AM, ↓AV, AP, CQ, CM]
      exact ⟨bad (fun q => k4 q.2.2.2.1), f02⟩
    rw [k4]
    by_cases k5 : (65536 : Int) < (x.2.2.2.length : Int)
    · simp +contextual (disch := omega) only [↓AM, ↓AV, AP, CQ, CM, e2, v3, k5]
      exact ⟨bad (fun q => by have := q.2.2.2.2; omega), f02⟩
    obtain ⟨h3, e3⟩ : ∃ g, h2.putM hB.size ((addK S1 (3, x.1)).map fun k => (kP.enc k, Value.bool true)) = g := ⟨_, rfl⟩
    have w3 : Wf h3 := e3 ▸ w2.putM (w2.ltM rs2.map)
    have f3 : Fm (fun z => z = hB.size) h2 h3 := e3 ▸ (Fm.refl.putM fun _ => rfl)
    have rs3 : Rst h3 hD.size hB.size (addK S1 (3, x.1)) := e3 ▸ rs2.put
    simp +contextual (disch := omega) only [↓AM, ↓AV, AP, CQ, CM, e2, v0, v3, vb, k5]
    refine UpT.mk (d := kP) (k := (3, x.1)) rs2.map ?_
    rw [e3]
    simp +contextual (disch := omega) only [↓AM, ↓AV, AP, CQ, CM, i64]
    refine ⟨m.fils.length - (j + 1), by omega, j + 1, addK S1 (3, x.1), w3, f02.trans f3 (fun z hz q => by have q : z = hB.size := q; omega), fE2.trans f3 fun _ _ q => q, by omega, rfl, rs3, fun p => ?_, ?_, rfl⟩
    · rw [addK_mem, hS, mem_take_S hx]
      obtain ⟨p1, p2⟩ := p
      simp only [Prod.mk.injEq]
      constructor
      · rintro (⟨q1, q2⟩ | q | ⟨q1, q2⟩)
        · exact .inr ⟨q1, .inr q2⟩
        · exact .inl q
        · exact .inr ⟨q1, .inl q2⟩
      · rintro (q | ⟨q1, q2 | q2⟩)
        · exact .inr (.inl q)
        · exact .inr (.inr ⟨q1, q2⟩)
        · exact .inl ⟨q1, q2⟩
    · rw [hF, filB, if_pos ⟨k1, k2, k3, k4, by omega⟩, List.take_add_one, hx]
      simp
  rw [List.drop_eq_nil_of_le (by omega)] at hF
  have hF : filB [] m.fils = true := hF
  have htk : m.fils.take j = m.fils := List.take_of_length_le (by omega)
  rw [htk] at hS
  have rdsE : ∀ g, Fm (fun z => z = hB.size) hE g → (g.rd h.size 2 = some (.slice ta m.trks.length tc) ∧ g.rd h.size 3 = some (.slice da m.edns.length dc) ∧ g.rd h.size 4 = some (.slice ga m.tags.length gc)) := fun g fg => by
    have k := fg.keep wE' (fBE.keep wB gB (fun f => f)) (fun q => by have q : h.size = hB.size := q; omega)
    exact ⟨rd_mk k, rd_mk k, rd_mk k⟩
  have u := rdsE h1 fE1
  simp +contextual (disch := omega) only [↓AM, ↓AV, AP, CQ, CM, hjn, u]
  -- tracks
  refine WL.mk (fun k t' h' => ∃ (j : Nat) (S : List (Int × Int)), Wf h' ∧ Fm No h h' ∧ Fm (fun z => z = hB.size) hE h' ∧ j ≤ m.trks.length ∧ k = m.trks.length - j ∧ Rst h' hD.size hB.size S ∧ (∀ p, p ∈ S ↔ p = (0, 0) ∨ (p.1 = 3 ∧ p.2 ∈ m.fils.map fun f => f.1) ∨ (p.1 = 1 ∧ p.2 ∈ (m.trks.take j).map Trk.id)) ∧
      t' = [(1, some (.pointer (some ⟨h.size, 0, none⟩))), (3, some (.pointer (some ⟨hD.size, 0, none⟩))), (58, some (.slice ta m.trks.length tc)), (59, some (.int .i64 (m.trks.length : Int))), (60, some (.int .i64 (j : Int)))])
    ⟨m.trks.length, 0, _, w1, f01, fE1, by omega, rfl, rs1, fun p => by rw [hS p]; simp, rfl⟩ ?_
  clear hjn hj htk hS rs1 u
  rintro k t' h1 ⟨j, S1, w1, f01, fE1, hj, rfl, rs1, hS, rfl⟩
  by_cases hjn : j < m.trks.length
  · obtain ⟨b1, o1, s1, x, xc, rfl, g1, hx, hxa, hxr⟩ := (a1.keep w f01).el hjn
    obtain ⟨xv, xe, xr, xs, rfl, x1, x2, x3, x4⟩ := trk_open hxa
    obtain ⟨va, vc, rfl⟩ := x1.val
    obtain ⟨ea, ec, rfl⟩ := x2.val
    obtain ⟨ra, rc, rfl⟩ := x3.val
    obtain ⟨sa, sc, rfl⟩ := x4.val
    have hxr : h1.rdN b1 (o1 + j * 11) 11 = some [.int .i64 x.id, .int .i64 x.kind, .string x.codec, .int .i64 x.scale, .slice va x.setup.length vc, .string x.lang, .string x.name, .int .i64 x.pre, .slice ea x.edits.length ec, .slice ra x.refs.length rc, .slice sa x.smps.length sc] := hxr
    obtain ⟨h2, e2⟩ : ∃ g, h1.new ⟨[.int .i64 x.id, .int .i64 x.kind, .string x.codec, .int .i64 x.scale, .slice va x.setup.length vc, .string x.lang, .string x.name, .int .i64 x.pre, .slice ea x.edits.length ec, .slice ra x.refs.length rc, .slice sa x.smps.length sc], .own⟩ = g := ⟨_, rfl⟩
    have w2 : Wf h2 := e2 ▸ w1.new
    have f2 : Fm No h1 h2 := e2 ▸ Fm.new Fm.refl
    have g2 : h2.get h1.size = some ⟨[.int .i64 x.id, .int .i64 x.kind, .string x.codec, .int .i64 x.scale, .slice va x.setup.length vc, .string x.lang, .string x.name, .int .i64 x.pre, .slice ea x.edits.length ec, .slice ra x.refs.length rc, .slice sa x.smps.length sc], .own⟩ := e2 ▸ gnew
    have rs2 := rs1.keep w1 f2
    have f02 := f01.trans f2 fun _ _ f => f
    have fE2 : Fm (fun z => z = hB.size) hE h2 := fE1.trans f2 fun _ _ f => f.elim
    have v0 : h2.rd h1.size 0 = some (.int .i64 x.id) := rd_mk g2
    have vb : h2.rd hD.size 0 = some (.map (some hB.size)) := rd_mk rs2.box
    obtain ⟨h3, e3⟩ : ∃ g, h2.putM hB.size ((addK S1 (1, x.id)).map fun k => (kP.enc k, Value.bool true)) = g := ⟨_, rfl⟩
    have w3 : Wf h3 := e3 ▸ w2.putM (w2.ltM rs2.map)
    have f3 : Fm (fun z => z = hB.size) h2 h3 := e3 ▸ (Fm.refl.putM fun _ => rfl)
    have rs3 : Rst h3 hD.size hB.size (addK S1 (1, x.id)) := e3 ▸ rs2.put
    simp +contextual (disch := omega) only [↓AM, ↓AV, AP, CQ, CM, hjn, g1, hxr, e2, v0, vb]
    refine UpT.mk (d := kP) (k := (1, x.id)) rs2.map ?_
    rw [e3]
    simp +contextual (disch := omega) only [↓AM, ↓AV, AP, CQ, CM, i64]
    refine ⟨m.trks.length - (j + 1), by omega, j + 1, addK S1 (1, x.id), w3, f02.trans f3 (fun z hz q => by have q : z = hB.size := q; omega), fE2.trans f3 fun _ _ q => q, by omega, rfl, rs3, fun p => ?_, rfl⟩
    rw [addK_mem, hS, mem_take_S hx]
    obtain ⟨p1, p2⟩ := p
    simp only [Prod.mk.injEq]
    constructor
    · rintro (⟨q1, q2⟩ | q | q | ⟨q1, q2⟩)
      · exact .inr (.inr ⟨q1, .inr q2⟩)
      · exact .inl q
      · exact .inr (.inl q)
      · exact .inr (.inr ⟨q1, .inl q2⟩)
    · rintro (q | q | ⟨q1, q2 | q2⟩)
      · exact .inr (.inl q)
      · exact .inr (.inr (.inl q))
      · exact .inr (.inr (.inr ⟨q1, q2⟩))
      · exact .inl ⟨q1, q2⟩
  have htk : m.trks.take j = m.trks := List.take_of_length_le (by omega)
  rw [htk] at hS
  -- chapters
  obtain ⟨hG, eG⟩ : ∃ g, h1.new ⟨[.func (.func 128) #[] #[.pointer (some ⟨hD.size, 0, none⟩), .pointer (some ⟨h1.size, 0, none⟩)]], .own⟩ = g := ⟨_, rfl⟩
  have wG : Wf hG := eG ▸ w1.new
  have fG : Fm No h1 hG := eG ▸ Fm.new Fm.refl
  have gG : hG.get h1.size = some ⟨[.func (.func 128) #[] #[.pointer (some ⟨hD.size, 0, none⟩), .pointer (some ⟨h1.size, 0, none⟩)]], .own⟩ := eG ▸ gnew
  have rsG := rs1.keep w1 fG
  have fEG : Fm (fun z => z = hB.size) hE hG := fE1.trans fG fun _ _ f => f.elim
  have f0G := f01.trans fG fun _ _ f => f
  have u := rdsE hG fEG
  have zE1 := fE1.size
  simp +contextual (disch := omega) only [↓AM, ↓AV, AP, CQ, CM, hjn, eG, u]
  refine WL.mk (fun k t' h' => ∃ (j : Nat) (S : List (Int × Int)), Wf h' ∧ Fm No h h' ∧ Fm (fun z => z = hB.size) hG h' ∧ j ≤ m.edns.length ∧ k = m.edns.length - j ∧ Rst h' hD.size hB.size S ∧ (∀ p, p ∈ S ↔ p = (0, 0) ∨ (p.1 = 3 ∧ p.2 ∈ m.fils.map fun f => f.1) ∨ (p.1 = 1 ∧ p.2 ∈ m.trks.map Trk.id) ∨ (p.1 = 2 ∧ p.2 ∈ (m.edns.take j).flatMap fun e => preL e.2.2)) ∧
      t' = [(1, some (.pointer (some ⟨h.size, 0, none⟩))), (3, some (.pointer (some ⟨hD.size, 0, none⟩))), (8, some (.pointer (some ⟨h1.size, 0, none⟩))), (71, some (.slice da m.edns.length dc)), (72, some (.int .i64 (m.edns.length : Int))), (73, some (.int .i64 (j : Int)))])
    ⟨m.edns.length, 0, _, wG, f0G, Fm.refl, by omega, rfl, rsG, fun p => by rw [hS p]; simp, rfl⟩ ?_
  clear hjn hj htk hS rsG
  rintro k t' h2 ⟨j, S1, w2, f02, fG2, hj, rfl, rs2, hS, rfl⟩
  have fE2 : Fm (fun z => z = hB.size) hE h2 := fEG.trans fG2 fun _ _ q => q
  by_cases hjn : j < m.edns.length
  · obtain ⟨b1, o1, s1, x, xc, rfl, g1, hx, hxa, hxr0⟩ := a2.el hjn
    obtain ⟨kv, rfl, kz⟩ := edn_open hxa
    obtain ⟨ka, kc, rfl⟩ := kz.val
    have hxr0 : h.rdN b1 (o1 + j * 3) 3 = some [.int .i64 x.1, .bool x.2.1, .slice ka x.2.2.length kc] := hxr0
    have hxr : h2.rdN b1 (o1 + j * 3) 3 = some [.int .i64 x.1, .bool x.2.1, .slice ka x.2.2.length kc] := (rdN_keep (f02.get _ (rdN_wf w hxr0) (fun f => f))).trans hxr0
    have hxw := hn.ednw x (List.mem_of_getElem? hx)
    obtain ⟨h3, e3⟩ : ∃ g, h2.new ⟨[.int .i64 x.1, .bool x.2.1, .slice ka x.2.2.length kc], .own⟩ = g := ⟨_, rfl⟩
    have w3 : Wf h3 := e3 ▸ w2.new
    have f3 : Fm No h2 h3 := e3 ▸ Fm.new Fm.refl
    have g3 : h3.get h2.size = some ⟨[.int .i64 x.1, .bool x.2.1, .slice ka x.2.2.length kc], .own⟩ := e3 ▸ gnew
    have f03 := f02.trans f3 fun _ _ f => f
    have fG3 : Fm (fun z => z = hB.size) hG h3 := fG2.trans f3 fun _ _ f => f.elim
    have rs3 := rs2.keep w2 f3
    have gf3 := fG3.keep wG gG (fun q => by have q : h1.size = hB.size := q; omega)
    have v2 : h3.rd h2.size 2 = some (.slice ka x.2.2.length kc) := rd_mk g3
    have v8 : h3.rd h1.size 0 = some (.func (.func 128) #[] #[.pointer (some ⟨hD.size, 0, none⟩), .pointer (some ⟨h1.size, 0, none⟩)]) := rd_mk gf3
    have CW := c_walk w (b3 := hD.size) (b8 := h1.size) (mi := hB.size) (by omega) (by omega) (by omega) (by omega) (nodL x.2.2) x.2.2 (.slice ka x.2.2.length kc) S1 h3 (Nat.le_refl _) kz hxw.len hxw.kids f03 rs3 gf3
    simp +contextual (disch := omega) only [↓AM, ↓AV, AP, CQ, CM, hjn, g1, hxr, e3, v2, v8]
    refine ⟨model_checkRest_1_ok.2, ?_⟩
    refine CW.use ?_
    rintro uu h5 w5 ⟨f5, S', rs5, hS'⟩
    simp +contextual (disch := omega) only [↓AM, ↓AV, AP, CQ, CM, i64]
    refine ⟨m.edns.length - (j + 1), by omega, j + 1, S', w5, f03.trans f5 (fun z hz q => by have q : z = hB.size := q; omega), fG3.trans f5 fun _ _ q => q, by omega, rfl, rs5, fun p => ?_, rfl⟩
    rw [hS' p, hS p, List.take_add_one, hx, Option.toList_some, List.flatMap_append, List.mem_append]
    simp only [List.flatMap_cons, List.flatMap_nil, List.append_nil]
    constructor
    · rintro ((q | q | q | ⟨q1, q2⟩) | ⟨q1, q2⟩)
      · exact .inl q
      · exact .inr (.inl q)
      · exact .inr (.inr (.inl q))
      · exact .inr (.inr (.inr ⟨q1, .inl q2⟩))
      · exact .inr (.inr (.inr ⟨q1, .inr q2⟩))
    · rintro (q | q | q | ⟨q1, q2 | q2⟩)
      · exact .inl (.inl q)
      · exact .inl (.inr (.inl q))
      · exact .inl (.inr (.inr (.inl q)))
      · exact .inl (.inr (.inr (.inr ⟨q1, q2⟩)))
      · exact .inr ⟨q1, q2⟩
  have htk : m.edns.take j = m.edns := List.take_of_length_le (by omega)
  rw [htk] at hS
  have u := rdsE h2 fE2
  simp +contextual (disch := omega) only [↓AM, ↓AV, AP, CQ, CM, hjn, u]
  -- tags
  refine WL.mk (fun k t' h' => ∃ (j : Nat), Wf h' ∧ Fm No h2 h' ∧ j ≤ m.tags.length ∧ k = m.tags.length - j ∧ (∀ t ∈ m.tags.take j, tagP m (m.edns.flatMap fun e => preL e.2.2) t) ∧
      t' = [(3, some (.pointer (some ⟨hD.size, 0, none⟩))), (83, some (.slice ga m.tags.length gc)), (84, some (.int .i64 (m.tags.length : Int))), (85, some (.int .i64 (j : Int)))])
    ⟨m.tags.length, 0, w2, Fm.refl, by omega, rfl, fun t ht => (by cases ht), rfl⟩ ?_
  clear hjn hj htk
  rintro k t' h3 ⟨j, w3, f3, hj, rfl, hT, rfl⟩
  have f03 := f02.trans f3 fun _ _ f => f
  by_cases hjn : j < m.tags.length
  · obtain ⟨b1, o1, s1, x, xc, rfl, g1, hx, hxa, hxr⟩ := (a3.keep w f03).el hjn
    have := tag_open hxa
    subst this
    have hxr : h3.rdN b1 (o1 + j * 4) 4 = some [.int .i64 x.1, .int .i64 x.2.1, .string x.2.2.1, .string x.2.2.2] := hxr
    obtain ⟨xw1, xw2⟩ := hn.tagw x (List.mem_of_getElem? hx)
    obtain ⟨h4, e4⟩ : ∃ g, h3.new ⟨[.int .i64 x.1, .int .i64 x.2.1, .string x.2.2.1, .string x.2.2.2], .own⟩ = g := ⟨_, rfl⟩
    have w4 : Wf h4 := e4 ▸ w3.new
    have f4 : Fm No h3 h4 := e4 ▸ Fm.new Fm.refl
    have g4 : h4.get h3.size = some ⟨[.int .i64 x.1, .int .i64 x.2.1, .string x.2.2.1, .string x.2.2.2], .own⟩ := e4 ▸ gnew
    have f24 := f3.trans f4 fun _ _ f => f
    have f04 := f03.trans f4 fun _ _ f => f
    have rs4 := rs2.keep w2 f24
    have v0 : h4.rd h3.size 0 = some (.int .i64 x.1) := rd_mk g4
    have v1 : h4.rd h3.size 1 = some (.int .i64 x.2.1) := rd_mk g4
    have v2 : h4.rd h3.size 2 = some (.string x.2.2.1) := rd_mk g4
    have v3 : h4.rd h3.size 3 = some (.string x.2.2.2) := rd_mk g4
    have vb : h4.rd hD.size 0 = some (.map (some hB.size)) := rd_mk rs4.box
    have bad : ¬ tagP m (m.edns.flatMap fun e => preL e.2.2) x → Value.int .i64 4 = .int .i64 (restE m (m.edns.flatMap fun e => preL e.2.2)) := fun q => by
      rw [restE_bad (fun r => q (r.2 x (List.mem_of_getElem? hx)))]
    by_cases k0 : x.2.2.1 = em
    · have q0 : (x.2.2.1 = em) = True := eq_true k0
      simp +contextual (disch := omega) only [↓AM, ↓AV, AP, CQ, CM, ↓sb_eql, hjn, g1, hxr, e4, v2, q0]
      exact ⟨bad (fun q => q.1 k0), f04⟩
    simp +contextual (disch := omega) only [↓AM, ↓AV, AP, CQ, CM, ↓sb_eql, hjn, g1, hxr, e4, v2, k0]
    refine (c_isName xw1).use ?_
    rintro _ g9 w9' ⟨rfl, e9'⟩
    subst g9
    by_cases k3 : nameB x.2.2.1 = true
    case neg =>
      have k3' : nameB x.2.2.1 = false := by simpa using k3
      rw [k3']
      simp +contextual (disch := omega) only [↓AM, ↓AV, AP, CQ, CM]
      exact ⟨bad (fun q => k3 q.2.1), f04⟩
    rw [k3]
    simp +contextual (disch := omega) only [↓AM, ↓AV, AP, CQ, CM, e4, v3]
    refine (c_isName xw2).use ?_
    rintro _ g9 w9' ⟨rfl, e9'⟩
    subst g9
    by_cases k4 : nameB x.2.2.2 = true
    case neg =>
      have k4' : nameB x.2.2.2 = false := by simpa using k4
      rw [k4']
      simp +contextual (disch := omega) only [↓AM, ↓AV, AP, CQ, CM]
      exact ⟨bad (fun q => k4 q.2.2.1), f04⟩
    rw [k4]
    simp +contextual (disch := omega) only [↓AM, ↓AV, AP, CQ, CM, e4, v0, v1, vb]
    refine LkT.mk (d := kP) (k := (x.1, x.2.1)) rs4.map fun q hq => ?_
    have hq' : q = true ↔ ofP m (m.edns.flatMap fun e => preL e.2.2) (x.1, x.2.1) := by
      rw [hq, hS]
      exact Iff.rfl
    cases q with
    | false =>
      simp +contextual (disch := omega) only [↓AM, ↓AV, AP, CQ, CM]
      exact ⟨bad (fun q => by have := hq'.2 q.2.2.2; cases this), f04⟩
    | true =>
      simp +contextual (disch := omega) only [↓AM, ↓AV, AP, CQ, CM, i64]
      refine ⟨m.tags.length - (j + 1), by omega, j + 1, w4, f24, by omega, rfl, fun t ht => ?_, rfl⟩
      rw [List.take_add_one, hx] at ht
      rcases List.mem_append.1 ht with ht | ht
      · exact hT t ht
      · have ht : t ∈ [x] := ht
        rw [List.mem_singleton.1 ht]
        exact ⟨k0, k3, k4, hq'.1 rfl⟩
  have htk : m.tags.take j = m.tags := List.take_of_length_le (by omega)
  rw [htk] at hT
  simp +contextual (disch := omega) only [↓AM, ↓AV, AP, CQ, CM, hjn]
  exact ⟨by rw [restE_ok ⟨hF, hT⟩], f03⟩
end Go.Proofs.Ytbfbgkhlngkifaa.Mv

/- A movie checked by the program. Plain theorems over the abstract machine.
   Conditions: none. -/
namespace Go.Proofs.Ytbfbgkhlngkifaa.Mv
open Go Go.RowKit Go.Proofs.Ytbfbgkhlngkifaa.Am Go.Proofs.Ytbfbgkhlngkifaa.Af Go.Proofs.Ytbfbgkhlngkifaa.Md
set_option linter.unusedVariables false
set_option linter.unusedSimpArgs false
set_option linter.defProp false
set_option maxRecDepth 20000
set_option maxHeartbeats 4000000

def headP (m : Mov) : Prop := (1 ≤ m.scale ∧ m.scale ≤ 1000000) ∧ nameB m.title = true
def mlimP (m : Mov) : Prop := m.trks.length ≤ 8 ∧ m.edns.length ≤ 4 ∧ m.tags.length ≤ 20 ∧ m.fils.length ≤ 6
def tksE : List Trk → Int
  | [] => 0
  | t :: ts => if trkE t = 0 then tksE ts else trkE t
theorem tksE_step {L : List Trk} {i : Nat} {x : Trk} (h : L[i]? = some x) : tksE (L.drop i) = if trkE x = 0 then tksE (L.drop (i + 1)) else trkE x := by
  obtain ⟨h1, h2⟩ := List.getElem?_eq_some_iff.1 h
  rw [List.drop_eq_getElem_cons h1, h2]
  rfl
theorem tksE_0 : ∀ {L : List Trk}, tksE L = 0 → ∀ t ∈ L, trkE t = 0
  | [], _, t, ht => by cases ht
  | x :: L, h, t, ht => by
    rw [tksE] at h
    split at h
    · rcases List.mem_cons.1 ht with rfl | ht
      · assumption
      · exact tksE_0 h t ht
    · exact absurd h ‹_›
/-- Ids of tracks are told apart. -/
def UQ (L : List Trk) : Prop := ∀ (i : Nat) (x : Trk), L[i]? = some x → findT L x.id = (i : Int)
/-- References lead to other tracks. -/
def RF (L : List Trk) : Prop := ∀ (i : Nat) (x : Trk), L[i]? = some x → ∀ r ∈ x.refs, r.2 ≠ x.id ∧ 0 ≤ findT L r.2
abbrev chapsM (m : Mov) : List Int := m.edns.flatMap fun e => preL e.2.2
open Classical in
/-- The error of a movie. -/
noncomputable def chkE (m : Mov) : Int := if ¬ headP m then 1 else if ¬ mlimP m then 2 else if tksE m.trks ≠ 0 then tksE m.trks else if ¬ (UQ m.trks ∧ RF m.trks) then 30 else
  if ednE (ednB [] [] m.edns) ≠ 0 then ednE (ednB [] [] m.edns) else if restE m (chapsM m) ≠ 0 then restE m (chapsM m) else if 524288 < bytM m then 2 else 0
def ChkV (m : Mov) (u : Value) : Prop := ∃ ix : Int, u = .tuple #[.int .i64 (chkE m), .int .i64 ix]
theorem ChkV.mk {m : Mov} {e ix : Int} (h : chkE m = e) : ChkV m (.tuple #[.int .i64 e, .int .i64 ix]) := ⟨ix, by rw [h]⟩
theorem findT_le {L : List Trk} {i : Nat} {x : Trk} (h : L[i]? = some x) : 0 ≤ findT L x.id ∧ findT L x.id ≤ (i : Int) := by
  rcases fst_cases (p := isI x.id) L with ⟨_, h2⟩ | ⟨j, y, h1, h2, h3, h4⟩
  · have := h2 x (List.mem_of_getElem? h)
    simp [isI] at this
  · unfold findT
    rw [h3]
    refine ⟨by omega, ?_⟩
    rcases Nat.lt_or_ge i j with hlt | hge
    · have := h4 i x hlt h
      simp [isI] at this
    · omega
theorem wE_0 {L : List Smp} : ∀ (i : Nat) (xs : List Smp), wE L i xs = 0 → ∀ x ∈ xs, x.data.length ≤ 65536
  | i, [], _, x, hx => by cases hx
  | i, y :: ys, h, x, hx => by
    rw [wE] at h
    split at h
    · rename_i h0
      rcases List.mem_cons.1 hx with rfl | hx
      · unfold smE smpE at h0
        split at h0
        · cases h0
        · split at h0
          · cases h0
          · rename_i q
            omega
      · exact wE_0 (i + 1) ys h x hx
    · exact absurd h ‹_›
theorem sum_bound {α : Type} {f : α → Nat} {B : Nat} : ∀ {l : List α}, (∀ x ∈ l, f x ≤ B) → (l.map f).sum ≤ l.length * B
  | [], _ => by simp
  | x :: l, h => by
    rw [List.map_cons, List.sum_cons, List.length_cons, Nat.succ_mul]
    have h1 := h x (by simp)
    have h2 := sum_bound (l := l) (fun y hy => h y (by simp [hy]))
    omega
theorem trk_bytes {t : Trk} (h : trkE t = 0) : bytS t.smps ≤ 26214400 := by
  unfold trkE at h
  split at h
  · cases h
  · split at h
    · cases h
    · rename_i q
      have q := Classical.byContradiction q
      split at h
      · cases h
      · have h1 := sum_bound (f := fun x : Smp => x.data.length) (B := 65536) (wE_0 0 t.smps h)
        have h2 := q.2.2.2
        have h3 : t.smps.length * 65536 ≤ 400 * 65536 := Nat.mul_le_mul_right _ h2
        unfold bytS
        omega
theorem fil_bytes : ∀ {L : List Flx} {seen : List Int}, filB seen L = true → ∀ f ∈ L, f.2.2.2.length ≤ 65536
  | [], _, _, f, hf => by cases hf
  | x :: L, seen, h, f, hf => by
    rw [filB] at h
    split at h
    · rename_i q
      rcases List.mem_cons.1 hf with rfl | hf
      · exact q.2.2.2.2
      · exact fil_bytes h f hf
    · cases h
theorem mov_bytes {m : Mov} (h1 : mlimP m) (h2 : tksE m.trks = 0) (h3 : restE m (chapsM m) = 0) : bytM m ≤ 4611686018427387904 := by
  have hr : restP m (chapsM m) := Classical.byContradiction fun q => by rw [restE_bad q] at h3; cases h3
  have e1 := sum_bound (f := fun t : Trk => bytS t.smps) (B := 26214400) (fun t ht => trk_bytes (tksE_0 h2 t ht))
  have e2 := sum_bound (f := fun f : Flx => f.2.2.2.length) (B := 65536) (fil_bytes hr.1)
  have e3 : m.trks.length * 26214400 ≤ 8 * 26214400 := Nat.mul_le_mul_right _ h1.1
  have e4 : m.fils.length * 65536 ≤ 6 * 65536 := Nat.mul_le_mul_right _ h1.2.2.2
  unfold bytM bytT bytF
  omega
theorem ednE_cases (r : Option (List Int)) : ednE r = 0 ∨ ednE r = 34 := by cases r <;> simp [ednE]
theorem restE_cases (m : Mov) (c : List Int) : restE m c = 0 ∨ restE m c = 4 := by
  by_cases h : restP m c
  · exact .inl (restE_ok h)
  · exact .inr (restE_bad h)
theorem c_Check {h : Hp} {m : Mov} {v1 v2 v3 v4 : Value} (a1 : SlV h trkK m.trks v1) (a2 : SlV h ednK m.edns v2) (a3 : SlV h tagK m.tags v3) (a4 : SlV h filK m.fils v4) (hn : MovW m) :
    ACalls Try.prog 80 [.agg #[.int .i64 m.scale, .string m.title, v1, v2, v3, v4]] h fun u h' => ChkV m u ∧ Fm No h h' := by
  refine model_Check_ok.snd hm rfl fun w => ?_
  rw [WF_eq, model_Check]
  obtain ⟨ta, tc, rfl⟩ := a1.val
  obtain ⟨da, dc, rfl⟩ := a2.val
  obtain ⟨ga, gc, rfl⟩ := a3.val
  obtain ⟨fa, fc, rfl⟩ := a4.val
  obtain ⟨hB, eB⟩ : ∃ g, h.new ⟨[.int .i64 m.scale, .string m.title, .slice ta m.trks.length tc, .slice da m.edns.length dc, .slice ga m.tags.length gc, .slice fa m.fils.length fc], .own⟩ = g := ⟨_, rfl⟩
  have sB : hB.size = h.size + 1 := by rw [← eB]; rfl
  have wB : Wf hB := eB ▸ w.new
  have f0 : Fm No h hB := eB ▸ Fm.new Fm.refl
  have gB : hB.get h.size = some ⟨[.int .i64 m.scale, .string m.title, .slice ta m.trks.length tc, .slice da m.edns.length dc, .slice ga m.tags.length gc, .slice fa m.fils.length fc], .own⟩ := eB ▸ gnew
  have rds : ∀ g, Fm No hB g → (g.rd h.size 0 = some (.int .i64 m.scale) ∧ g.rd h.size 1 = some (.string m.title)) ∧ (g.rd h.size 2 = some (.slice ta m.trks.length tc) ∧ g.rd h.size 3 = some (.slice da m.edns.length dc)) ∧ (g.rd h.size 4 = some (.slice ga m.tags.length gc) ∧ g.rd h.size 5 = some (.slice fa m.fils.length fc)) ∧ g.rdN h.size 0 6 = some [.int .i64 m.scale, .string m.title, .slice ta m.trks.length tc, .slice da m.edns.length dc, .slice ga m.tags.length gc, .slice fa m.fils.length fc] := fun g fg => by
    have k := fg.keep wB gB (fun f => f)
    exact ⟨⟨rd_mk k, rd_mk k⟩, ⟨rd_mk k, rd_mk k⟩, ⟨rd_mk k, rd_mk k⟩, by rw [rdN_mk k (Nat.le_refl 6)]; rfl⟩
  have u := rds hB Fm.refl
  have hn1 := hn.trks
  simp +contextual (disch := omega) only [↓AM, ↓AV, AP, CQ, CR, eB, u]
  refine c_mwithin.use ?_
  rintro _ g9 w9 ⟨rfl, e9'⟩
  subst g9
  by_cases h1 : 1 ≤ m.scale ∧ m.scale ≤ 1000000
  case neg =>
    simp +contextual (disch := omega) only [↓AM, ↓AV, AP, CQ, CR, eB, h1]
    exact ⟨.mk (by unfold chkE; rw [if_pos (fun q => h1 q.1)]), f0⟩
  simp +contextual (disch := omega) only [↓AM, ↓AV, AP, CQ, CR, eB, h1, u]
  refine (c_isName hn.title).use ?_
  rintro _ g9 w9' ⟨rfl, e9'⟩
  subst g9
  by_cases h2 : nameB m.title = true
  case neg =>
    have h2' : nameB m.title = false := by simpa using h2
    rw [h2']
    simp +contextual (disch := omega) only [↓AM, ↓AV, AP, CQ, CR, eB]
    exact ⟨.mk (by unfold chkE; rw [if_pos (fun q => h2 q.2)]), f0⟩
  rw [h2]
  have hh : ¬ ¬ headP m := fun q => q ⟨h1, h2⟩
  by_cases l1 : (8 : Int) < (m.trks.length : Int)
  · simp +contextual (disch := omega) only [↓AM, ↓AV, AP, CQ, CR, eB, u, l1]
    exact ⟨.mk (by unfold chkE; rw [if_neg hh, if_pos (by unfold mlimP; omega)]), f0⟩
  by_cases l2 : (4 : Int) < (m.edns.length : Int)
  · simp +contextual (disch := omega) only [↓AM, ↓AV, AP, CQ, CR, eB, u, l1, l2]
    exact ⟨.mk (by unfold chkE; rw [if_neg hh, if_pos (by unfold mlimP; omega)]), f0⟩
  by_cases l3 : (20 : Int) < (m.tags.length : Int)
  · simp +contextual (disch := omega) only [↓AM, ↓AV, AP, CQ, CR, eB, u, l1, l2, l3]
    exact ⟨.mk (by unfold chkE; rw [if_neg hh, if_pos (by unfold mlimP; omega)]), f0⟩
  by_cases l4 : (6 : Int) < (m.fils.length : Int)
  · simp +contextual (disch := omega) only [↓AM, ↓AV, AP, CQ, CR, eB, u, l1, l2, l3, l4]
    exact ⟨.mk (by unfold chkE; rw [if_neg hh, if_pos (by unfold mlimP; omega)]), f0⟩
  have hlm : mlimP m := by unfold mlimP; omega
  have hl : ¬ ¬ mlimP m := fun q => q hlm
  simp +contextual (disch := omega) only [↓AM, ↓AV, AP, CQ, CR, eB, u, l1, l2, l3, l4]
  refine WL.mk (fun k t' h' => ∃ (j : Nat), Wf h' ∧ Fm No hB h' ∧ j ≤ m.trks.length ∧ k = m.trks.length - j ∧ tksE m.trks = tksE (m.trks.drop j) ∧
      t' = [(1, some (.pointer (some ⟨h.size, 0, none⟩))), (48, some (.slice ta m.trks.length tc)), (49, some (.int .i64 (m.trks.length : Int))), (50, some (.int .i64 (j : Int)))]) ⟨m.trks.length, 0, wB, Fm.refl, by omega, rfl, rfl, rfl⟩ ?_
  rintro k t' h1' ⟨j, w1, f1, hj, rfl, hE, rfl⟩
  have f01 := f0.trans f1 fun _ _ f => f
  by_cases hjn : j < m.trks.length
  · obtain ⟨b1, o1, s1, x, xc, rfl, g1, hx, hxa, hxr⟩ := (a1.keep w f01).el hjn
    obtain ⟨xv, xe, xr, xs, rfl, x1, x2, x3, x4⟩ := trk_open hxa
    obtain ⟨va, vc, rfl⟩ := x1.val
    obtain ⟨ea, ec, rfl⟩ := x2.val
    obtain ⟨ra, rc, rfl⟩ := x3.val
    obtain ⟨sa, sc, rfl⟩ := x4.val
    have hxr : h1'.rdN b1 (o1 + j * 11) 11 = some [.int .i64 x.id, .int .i64 x.kind, .string x.codec, .int .i64 x.scale, .slice va x.setup.length vc, .string x.lang, .string x.name, .int .i64 x.pre, .slice ea x.edits.length ec, .slice ra x.refs.length rc, .slice sa x.smps.length sc] := hxr
    obtain ⟨h2', e2⟩ : ∃ g, h1'.new ⟨[.int .i64 x.id, .int .i64 x.kind, .string x.codec, .int .i64 x.scale, .slice va x.setup.length vc, .string x.lang, .string x.name, .int .i64 x.pre, .slice ea x.edits.length ec, .slice ra x.refs.length rc, .slice sa x.smps.length sc], .own⟩ = g := ⟨_, rfl⟩
    have w2' : Wf h2' := e2 ▸ w1.new
    have f2 : Fm No h1' h2' := e2 ▸ Fm.new Fm.refl
    have g2 : h2'.get h1'.size = some ⟨[.int .i64 x.id, .int .i64 x.kind, .string x.codec, .int .i64 x.scale, .slice va x.setup.length vc, .string x.lang, .string x.name, .int .i64 x.pre, .slice ea x.edits.length ec, .slice ra x.refs.length rc, .slice sa x.smps.length sc], .own⟩ := e2 ▸ gnew
    have v0 : h2'.rd h1'.size 0 = some (.int .i64 x.id) := rd_mk g2
    have v11 : h2'.rdN h1'.size 0 11 = some [.int .i64 x.id, .int .i64 x.kind, .string x.codec, .int .i64 x.scale, .slice va x.setup.length vc, .string x.lang, .string x.name, .int .i64 x.pre, .slice ea x.edits.length ec, .slice ra x.refs.length rc, .slice sa x.smps.length sc] := by rw [rdN_mk g2 (Nat.le_refl 11)]; rfl
    rw [tksE_step hx] at hE
    simp +contextual (disch := omega) only [↓AM, ↓AV, AP, CQ, CR, hjn, g1, hxr, e2, v11]
    refine (c_mtrack (x1.keep w1 f2) (x2.keep w1 f2) (x3.keep w1 f2) (x4.keep w1 f2) (hn.trkw x (List.mem_of_getElem? hx))).use ?_
    rintro _ h5 w5 ⟨rfl, f5⟩
    have fB5 := (f1.trans f2 fun _ _ f => f).trans f5 fun _ _ f => f
    by_cases he : trkE x = 0
    · have e0 : EqI (trkE x) 0 = True := eq_true he
      simp +contextual (disch := omega) only [↓AM, ↓AV, AP, CQ, CR, e0, i64]
      rw [if_pos he] at hE
      exact ⟨m.trks.length - (j + 1), by omega, j + 1, w5, fB5, by omega, rfl, hE, rfl⟩
    · have e0 : EqI (trkE x) 0 = False := eq_false he
      simp +contextual (disch := omega) only [↓AM, ↓AV, AP, CQ, CR, e0]
      rw [if_neg he] at hE
      exact ⟨.mk (by unfold chkE; rw [if_neg hh, if_neg hl, if_pos (by rw [hE]; exact he), hE]), f0.trans fB5 fun _ _ f => f⟩
  rw [List.drop_eq_nil_of_le (by omega)] at hE
  have htk : ¬ tksE m.trks ≠ 0 := fun q => q hE
  have u := rds h1' f1
  simp +contextual (disch := omega) only [↓AM, ↓AV, AP, CQ, CR, hjn, u]
  refine WL.mk (fun k t' h' => ∃ (j : Nat), Wf h' ∧ Fm No hB h' ∧ j ≤ m.trks.length ∧ k = m.trks.length - j ∧ (∀ i x, i < j → m.trks[i]? = some x → findT m.trks x.id = (i : Int)) ∧
      t' = [(1, some (.pointer (some ⟨h.size, 0, none⟩))), (63, some (.slice ta m.trks.length tc)), (64, some (.int .i64 (m.trks.length : Int))), (65, some (.int .i64 (j : Int)))]) ⟨m.trks.length, 0, w1, f1, by omega, rfl, fun i x hi => by omega, rfl⟩ ?_
  clear hjn hj u
  rintro k t' h1' ⟨j, w1, f1, hj, rfl, hU, rfl⟩
  have f01 := f0.trans f1 fun _ _ f => f
  by_cases hjn : j < m.trks.length
  · obtain ⟨b1, o1, s1, x, xc, rfl, g1, hx, hxa, hxr⟩ := (a1.keep w f01).el hjn
    obtain ⟨xv, xe, xr, xs, rfl, x1, x2, x3, x4⟩ := trk_open hxa
    obtain ⟨va, vc, rfl⟩ := x1.val
    obtain ⟨ea, ec, rfl⟩ := x2.val
    obtain ⟨ra, rc, rfl⟩ := x3.val
    obtain ⟨sa, sc, rfl⟩ := x4.val
    have hxr : h1'.rdN b1 (o1 + j * 11) 11 = some [.int .i64 x.id, .int .i64 x.kind, .string x.codec, .int .i64 x.scale, .slice va x.setup.length vc, .string x.lang, .string x.name, .int .i64 x.pre, .slice ea x.edits.length ec, .slice ra x.refs.length rc, .slice sa x.smps.length sc] := hxr
    obtain ⟨h2', e2⟩ : ∃ g, h1'.new ⟨[.int .i64 x.id, .int .i64 x.kind, .string x.codec, .int .i64 x.scale, .slice va x.setup.length vc, .string x.lang, .string x.name, .int .i64 x.pre, .slice ea x.edits.length ec, .slice ra x.refs.length rc, .slice sa x.smps.length sc], .own⟩ = g := ⟨_, rfl⟩
    have w2' : Wf h2' := e2 ▸ w1.new
    have f2 : Fm No h1' h2' := e2 ▸ Fm.new Fm.refl
    have g2 : h2'.get h1'.size = some ⟨[.int .i64 x.id, .int .i64 x.kind, .string x.codec, .int .i64 x.scale, .slice va x.setup.length vc, .string x.lang, .string x.name, .int .i64 x.pre, .slice ea x.edits.length ec, .slice ra x.refs.length rc, .slice sa x.smps.length sc], .own⟩ := e2 ▸ gnew
    have v0 : h2'.rd h1'.size 0 = some (.int .i64 x.id) := rd_mk g2
    have v11 : h2'.rdN h1'.size 0 11 = some [.int .i64 x.id, .int .i64 x.kind, .string x.codec, .int .i64 x.scale, .slice va x.setup.length vc, .string x.lang, .string x.name, .int .i64 x.pre, .slice ea x.edits.length ec, .slice ra x.refs.length rc, .slice sa x.smps.length sc] := by rw [rdN_mk g2 (Nat.le_refl 11)]; rfl
    have fB2 := f1.trans f2 fun _ _ f => f
    have f02 := f0.trans fB2 fun _ _ f => f
    have u := rds h2' fB2
    simp +contextual (disch := omega) only [↓AM, ↓AV, AP, CQ, CR, hjn, g1, hxr, e2, v0, u]
    refine (c_find (id := x.id) (a1.keep w f02) (a2.keep w f02) (a3.keep w f02) (a4.keep w f02) hn1).use ?_
    rintro _ h5 w5 ⟨rfl, f5⟩
    have fB5 := fB2.trans f5 fun _ _ f => f
    obtain ⟨q1, q2⟩ := findT_le hx
    by_cases he : findT m.trks x.id < (j : Int)
    · simp +contextual (disch := omega) only [↓AM, ↓AV, AP, CQ, CR, he]
      exact ⟨.mk (by unfold chkE; rw [if_neg hh, if_neg hl, if_neg htk, if_pos (fun q => by have := q.1 j x hx; omega)]), f0.trans fB5 fun _ _ f => f⟩
    · simp +contextual (disch := omega) only [↓AM, ↓AV, AP, CQ, CR, he, i64]
      refine ⟨m.trks.length - (j + 1), by omega, j + 1, w5, fB5, by omega, rfl, fun i y hi hy => ?_, rfl⟩
      rcases Nat.lt_or_ge i j with h' | h'
      · exact hU i y h' hy
      · have : i = j := by omega
        subst this
        rw [hx] at hy
        cases hy
        omega
  have hUQ : UQ m.trks := fun i x hx => hU i x (by have := (List.getElem?_eq_some_iff.1 hx).1; omega) hx
  have u := rds h1' f1
  simp +contextual (disch := omega) only [↓AM, ↓AV, AP, CQ, CR, hjn, u]
  refine WL.mk (fun k t' h' => ∃ (j : Nat), Wf h' ∧ Fm No hB h' ∧ j ≤ m.trks.length ∧ k = m.trks.length - j ∧ (∀ i x, i < j → m.trks[i]? = some x → ∀ r ∈ x.refs, r.2 ≠ x.id ∧ 0 ≤ findT m.trks r.2) ∧
      t' = [(1, some (.pointer (some ⟨h.size, 0, none⟩))), (79, some (.slice ta m.trks.length tc)), (80, some (.int .i64 (m.trks.length : Int))), (81, some (.int .i64 (j : Int)))]) ⟨m.trks.length, 0, w1, f1, by omega, rfl, fun i x hi => by omega, rfl⟩ ?_
  clear hjn hj u hU
  rintro k t' h1' ⟨j, w1, f1, hj, rfl, hU, rfl⟩
  have f01 := f0.trans f1 fun _ _ f => f
  by_cases hjn : j < m.trks.length
  · obtain ⟨b1, o1, s1, x, xc, rfl, g1, hx, hxa, hxr⟩ := (a1.keep w f01).el hjn
    obtain ⟨xv, xe, xr, xs, rfl, x1, x2, x3, x4⟩ := trk_open hxa
    obtain ⟨va, vc, rfl⟩ := x1.val
    obtain ⟨ea, ec, rfl⟩ := x2.val
    obtain ⟨ra, rc, rfl⟩ := x3.val
    obtain ⟨sa, sc, rfl⟩ := x4.val
    have hxr : h1'.rdN b1 (o1 + j * 11) 11 = some [.int .i64 x.id, .int .i64 x.kind, .string x.codec, .int .i64 x.scale, .slice va x.setup.length vc, .string x.lang, .string x.name, .int .i64 x.pre, .slice ea x.edits.length ec, .slice ra x.refs.length rc, .slice sa x.smps.length sc] := hxr
    obtain ⟨h2', e2⟩ : ∃ g, h1'.new ⟨[.int .i64 x.id, .int .i64 x.kind, .string x.codec, .int .i64 x.scale, .slice va x.setup.length vc, .string x.lang, .string x.name, .int .i64 x.pre, .slice ea x.edits.length ec, .slice ra x.refs.length rc, .slice sa x.smps.length sc], .own⟩ = g := ⟨_, rfl⟩
    have w2' : Wf h2' := e2 ▸ w1.new
    have f2 : Fm No h1' h2' := e2 ▸ Fm.new Fm.refl
    have g2 : h2'.get h1'.size = some ⟨[.int .i64 x.id, .int .i64 x.kind, .string x.codec, .int .i64 x.scale, .slice va x.setup.length vc, .string x.lang, .string x.name, .int .i64 x.pre, .slice ea x.edits.length ec, .slice ra x.refs.length rc, .slice sa x.smps.length sc], .own⟩ := e2 ▸ gnew
    have v0 : h2'.rd h1'.size 0 = some (.int .i64 x.id) := rd_mk g2
    have v11 : h2'.rdN h1'.size 0 11 = some [.int .i64 x.id, .int .i64 x.kind, .string x.codec, .int .i64 x.scale, .slice va x.setup.length vc, .string x.lang, .string x.name, .int .i64 x.pre, .slice ea x.edits.length ec, .slice ra x.refs.length rc, .slice sa x.smps.length sc] := by rw [rdN_mk g2 (Nat.le_refl 11)]; rfl
    have fB2 := f1.trans f2 fun _ _ f => f
    have f02 := f0.trans fB2 fun _ _ f => f
    have hxw := hn.trkw x (List.mem_of_getElem? hx)
    have hrl := hxw.refs
    have v9 : h2'.rd h1'.size 9 = some (.slice ra x.refs.length rc) := rd_mk g2
    simp +contextual (disch := omega) only [↓AM, ↓AV, AP, CQ, CR, hjn, g1, hxr, e2, v9]
    refine WL.mk (fun k t' h' => ∃ (i : Nat), Wf h' ∧ Fm No h2' h' ∧ i ≤ x.refs.length ∧ k = x.refs.length - i ∧ (∀ r ∈ x.refs.take i, r.2 ≠ x.id ∧ 0 ≤ findT m.trks r.2) ∧
        t' = [(1, some (.pointer (some ⟨h.size, 0, none⟩))), (9, some (.int .i64 (j : Int))), (10, some (.pointer (some ⟨h1'.size, 0, none⟩))), (79, some (.slice (some ⟨b1, o1, s1⟩) m.trks.length tc)), (80, some (.int .i64 (m.trks.length : Int))), (81, some (.int .i64 (j : Int))), (87, some (.slice ra x.refs.length rc)), (88, some (.int .i64 (x.refs.length : Int))), (89, some (.int .i64 (i : Int)))]) ⟨x.refs.length, 0, w2', Fm.refl, by omega, rfl, fun r hr => (by cases hr), rfl⟩ ?_
    rintro k t' h3 ⟨i, w3, f3, hi, rfl, hR, rfl⟩
    have fB3 := fB2.trans f3 fun _ _ f => f
    have f03 := f0.trans fB3 fun _ _ f => f
    by_cases hin : i < x.refs.length
    · obtain ⟨b6, o6, s6, r, cs6, rfl, g6, hr, hra, hrr⟩ := ((x3.keep w1 f2).keep w2' f3).el hin
      have := ref_open hra
      subst this
      have hrr : h3.rdN b6 (o6 + i * 2) 2 = some [.string r.1, .int .i64 r.2] := hrr
      obtain ⟨h4, e4⟩ : ∃ g, h3.new ⟨[.string r.1, .int .i64 r.2], .own⟩ = g := ⟨_, rfl⟩
      have w4 : Wf h4 := e4 ▸ w3.new
      have f4 : Fm No h3 h4 := e4 ▸ Fm.new Fm.refl
      have g4 : h4.get h3.size = some ⟨[.string r.1, .int .i64 r.2], .own⟩ := e4 ▸ gnew
      have g24 := (f3.trans f4 fun _ _ f => f).keep w2' g2 (fun f => f)
      have y1 : h4.rd h3.size 1 = some (.int .i64 r.2) := rd_mk g4
      have y0 : h4.rd h1'.size 0 = some (.int .i64 x.id) := rd_mk g24
      have fB4 := fB3.trans f4 fun _ _ f => f
      have f04 := f0.trans fB4 fun _ _ f => f
      have u := rds h4 fB4
      have bad : ¬ (r.2 ≠ x.id ∧ 0 ≤ findT m.trks r.2) → chkE m = 30 := fun q => by
        unfold chkE
        rw [if_neg hh, if_neg hl, if_neg htk, if_pos (fun z => q (z.2 j x hx r (List.mem_of_getElem? hr)))]
      by_cases k1 : r.2 = x.id
      · have e0 : EqI r.2 x.id = True := eq_true k1
        simp +contextual (disch := omega) only [↓AM, ↓AV, AP, CQ, CR, hin, g6, hrr, e4, y1, y0, e0]
        exact ⟨.mk (bad fun q => q.1 k1), f04⟩
      have e0 : EqI r.2 x.id = False := eq_false k1
      simp +contextual (disch := omega) only [↓AM, ↓AV, AP, CQ, CR, hin, g6, hrr, e4, y1, y0, e0, u]
      refine (c_find (id := r.2) (a1.keep w f04) (a2.keep w f04) (a3.keep w f04) (a4.keep w f04) hn1).use ?_
      rintro _ h5 w5 ⟨rfl, f5⟩
      by_cases k2 : findT m.trks r.2 < 0
      · simp +contextual (disch := omega) only [↓AM, ↓AV, AP, CQ, CR, k2]
        exact ⟨.mk (bad fun q => by omega), f04.trans f5 fun _ _ f => f⟩
      · simp +contextual (disch := omega) only [↓AM, ↓AV, AP, CQ, CR, k2, i64]
        refine ⟨x.refs.length - (i + 1), by omega, i + 1, w5, (f3.trans f4 fun _ _ f => f).trans f5 fun _ _ f => f, by omega, rfl, fun r' hr' => ?_, rfl⟩
        rw [List.take_add_one, hr] at hr'
        rcases List.mem_append.1 hr' with hr' | hr'
        · exact hR r' hr'
        · have hr' : r' ∈ [r] := hr'
          rw [List.mem_singleton.1 hr']
          exact ⟨k1, by omega⟩
    · have hrt : x.refs.take i = x.refs := List.take_of_length_le (by omega)
      rw [hrt] at hR
      simp +contextual (disch := omega) only [↓AM, ↓AV, AP, CQ, CR, hin, i64]
      refine ⟨m.trks.length - (j + 1), by omega, j + 1, w3, fB3, by omega, rfl, fun i' y hi' hy => ?_, rfl⟩
      rcases Nat.lt_or_ge i' j with h' | h'
      · exact hU i' y h' hy
      · have : i' = j := by omega
        subst this
        rw [hx] at hy
        cases hy
        exact hR
  have hRF : RF m.trks := fun i x hx => hU i x (by have := (List.getElem?_eq_some_iff.1 hx).1; omega) hx
  have hur : ¬ ¬ (UQ m.trks ∧ RF m.trks) := fun q => q ⟨hUQ, hRF⟩
  have u := rds h1' f1
  simp +contextual (disch := omega) only [↓AM, ↓AV, AP, CQ, CR, hjn, u]
  refine (c_checkChapters (a1.keep w f01) (a2.keep w f01) (a3.keep w f01) (a4.keep w f01) hn).use ?_
  rintro _ h5 w5 ⟨rfl, f5⟩
  have fB5 := f1.trans f5 fun _ _ f => f
  have f05 := f0.trans fB5 fun _ _ f => f
  have u := rds h5 fB5
  by_cases hc : ednE (ednB [] [] m.edns) = 0
  case neg =>
    have e0 : EqI (ednE (ednB [] [] m.edns)) 0 = False := eq_false hc
    simp +contextual (disch := omega) only [↓AM, ↓AV, AP, CQ, CR, e0]
    exact ⟨.mk (by unfold chkE; rw [if_neg hh, if_neg hl, if_neg htk, if_neg hur, if_pos hc]), f05⟩
  have e0 : EqI (ednE (ednB [] [] m.edns)) 0 = True := eq_true hc
  have hc' : ¬ ednE (ednB [] [] m.edns) ≠ 0 := fun q => q hc
  simp +contextual (disch := omega) only [↓AM, ↓AV, AP, CQ, CR, e0, u]
  refine (c_checkRest (a1.keep w f05) (a2.keep w f05) (a3.keep w f05) (a4.keep w f05) hn).use ?_
  rintro _ h6 w6 ⟨rfl, f6⟩
  have fB6 := fB5.trans f6 fun _ _ f => f
  have f06 := f0.trans fB6 fun _ _ f => f
  have u := rds h6 fB6
  by_cases hr : restE m (chapsM m) = 0
  case neg =>
    have e0 : EqI (restE m (chapsM m)) 0 = False := eq_false hr
    simp +contextual (disch := omega) only [↓AM, ↓AV, AP, CQ, CR, e0]
    exact ⟨.mk (by unfold chkE; rw [if_neg hh, if_neg hl, if_neg htk, if_neg hur, if_neg hc', if_pos hr]), f06⟩
  have e0 : EqI (restE m (chapsM m)) 0 = True := eq_true hr
  have hr' : ¬ restE m (chapsM m) ≠ 0 := fun q => q hr
  simp +contextual (disch := omega) only [↓AM, ↓AV, AP, CQ, CR, e0, u]
  have hby := mov_bytes hlm hE hr
  refine (c_Bytes (a1.keep w f06) (a2.keep w f06) (a3.keep w f06) (a4.keep w f06) hby hn).use ?_
  rintro _ h7 w7 ⟨rfl, f7⟩
  have f07 := f06.trans f7 fun _ _ f => f
  by_cases hb : (524288 : Int) < ((bytM m : Nat) : Int)
  · simp +contextual (disch := omega) only [↓AM, ↓AV, AP, CQ, CR, hb]
    exact ⟨.mk (by unfold chkE; rw [if_neg hh, if_neg hl, if_neg htk, if_neg hur, if_neg hc', if_neg hr', if_pos (by omega)]), f07⟩
  · simp +contextual (disch := omega) only [↓AM, ↓AV, AP, CQ, CR, hb]
    exact ⟨.mk (by unfold chkE; rw [if_neg hh, if_neg hl, if_neg htk, if_neg hur, if_neg hc', if_neg hr', if_neg (by omega)]), f07⟩
end Go.Proofs.Ytbfbgkhlngkifaa.Mv

/- The sample at a media time: the program's. Plain theorems over the abstract machine.
   Conditions: none. -/
namespace Go.Proofs.Ytbfbgkhlngkifaa.Mv
open Go Go.RowKit Go.Proofs.Ytbfbgkhlngkifaa.Am Go.Proofs.Ytbfbgkhlngkifaa.Af Go.Proofs.Ytbfbgkhlngkifaa.Md Go.Proofs.Ytbfbgkhlngkifaa.Nu
set_option linter.unusedVariables false
set_option linter.unusedSimpArgs false
set_option linter.defProp false
set_option maxRecDepth 20000
set_option maxHeartbeats 4000000

theorem cmp_gt {a b : Int} : 0 < cmpZ a b ↔ b < a := by unfold cmpZ; split <;> (try split) <;> omega
theorem cmp_ge {a b : Int} : 0 ≤ cmpZ a b ↔ b ≤ a := by unfold cmpZ; split <;> (try split) <;> omega
theorem cmp_lt {a b : Int} : cmpZ a b < 0 ↔ a < b := by unfold cmpZ; split <;> (try split) <;> omega
/-- A sample is at a time. -/
def hitS (z : Int) (d : Nat) (sc : Int) (s : Smp) : Prop := s.pts * (d : Int) ≤ z * sc ∧ z * sc < (s.pts + s.dur) * (d : Int)
instance (z : Int) (d : Nat) (sc : Int) (s : Smp) : Decidable (hitS z d sc s) := by unfold hitS; infer_instance
def ptsAt (L : List Smp) (b : Int) : Int := ((L[b.toNat]?).map Smp.pts).getD 0
def bstI (z : Int) (d : Nat) (sc : Int) (L : List Smp) : Nat → Int
  | 0 => -1
  | j + 1 => match L[j]? with
    | none => bstI z d sc L j
    | some s => if hitS z d sc s ∧ (bstI z d sc L j < 0 ∨ ptsAt L (bstI z d sc L j) ≤ s.pts) then (j : Int) else bstI z d sc L j
theorem bstI_step {z : Int} {d : Nat} {sc : Int} {L : List Smp} {j : Nat} {s : Smp} (h : L[j]? = some s) :
    bstI z d sc L (j + 1) = if hitS z d sc s ∧ (bstI z d sc L j < 0 ∨ ptsAt L (bstI z d sc L j) ≤ s.pts) then (j : Int) else bstI z d sc L j := by
  show (match L[j]? with
    | none => bstI z d sc L j
    | some s => if hitS z d sc s ∧ (bstI z d sc L j < 0 ∨ ptsAt L (bstI z d sc L j) ≤ s.pts) then (j : Int) else bstI z d sc L j) = _
  rw [h]
theorem bstI_b (z : Int) (d : Nat) (sc : Int) (L : List Smp) : ∀ j, j ≤ L.length → -1 ≤ bstI z d sc L j ∧ bstI z d sc L j < (j : Int)
  | 0, _ => ⟨Int.le_refl _, by show (-1 : Int) < 0; omega⟩
  | j + 1, hj => by
    have ih := bstI_b z d sc L j (by omega)
    have hx : L[j]? = some L[j] := List.getElem?_eq_getElem (by omega)
    rw [bstI_step hx]
    split <;> omega
/-- Small enough to count with. -/
structure SmpS (s : Smp) : Prop where
  p : -1099511627776 ≤ s.pts ∧ s.pts ≤ 1099511627776
  d : 0 ≤ s.dur ∧ s.dur ≤ 1099511627776
abbrev Li90 : Nat := B32 ^ 90
theorem li_mul {z : Int} {n : Nat} (hz : z.natAbs < Li90) {k : Int} (hk : k.natAbs < B32 ^ 10) : (z * k).natAbs < Lim := by
  rw [Int.natAbs_mul]
  have : z.natAbs * k.natAbs < B32 ^ 90 * B32 ^ 10 := Nat.mul_lt_mul'' hz hk
  rwa [← Nat.pow_add] at this
theorem li_le {n : Nat} (h : n < Li90) : n < Lim := Nat.lt_of_lt_of_le h (Nat.pow_le_pow_right (by decide) (by decide))
theorem li_small {z : Int} (h : -9223372036854775808 ≤ z ∧ z ≤ 9223372036854775807) : z.natAbs < Lim :=
  Nat.lt_of_lt_of_le (show z.natAbs < B32 ^ 2 from Nat.lt_of_lt_of_le (show z.natAbs < 18446744073709551616 by omega) (by decide)) (Nat.pow_le_pow_right (by decide) (by decide))
theorem li_10 {z : Int} (h : -9223372036854775808 ≤ z ∧ z ≤ 9223372036854775807) : z.natAbs < B32 ^ 10 :=
  Nat.lt_of_lt_of_le (show z.natAbs < B32 ^ 2 from Nat.lt_of_lt_of_le (show z.natAbs < 18446744073709551616 by omega) (by decide)) (Nat.pow_le_pow_right (by decide) (by decide))
theorem c_mrat1 {h : Hp} {z : Int} (hz : -9223372036854775808 ≤ z ∧ z ≤ 9223372036854775807) :
    ACalls Try.prog 83 [.int .i64 z, .int .i64 1] h fun r h' => ∃ b, r = .pointer (some ⟨b, 0, none⟩) ∧ h.size ≤ b ∧ Rq h' b z 1 ∧ Fm No h h' := c_mrat (d := 1) hz (by decide) (by decide)
theorem lim1 : 1 < Lim := Nat.lt_of_lt_of_le (show 1 < B32 ^ 1 by decide) (Nat.pow_le_pow_right (by decide) (by decide))
theorem c_shownAt {h : Hp} {x : Trk} {v e r s : Value} (a5 : SlV h byteK x.setup v) (a9 : SlV h edtK x.edits e) (a10 : SlV h refK x.refs r) (a11 : SlV h smpK x.smps s) (hs : 1 ≤ x.scale ∧ x.scale ≤ 1000000) (hl : x.smps.length ≤ 1000) (hS : ∀ s ∈ x.smps, SmpS s)
    {b : Nat} {z : Int} {d : Nat} (q : Rq h b z d) (hz : z.natAbs < Li90) (hd : d < Li90) :
    ACalls Try.prog 82 [.agg #[.int .i64 x.id, .int .i64 x.kind, .string x.codec, .int .i64 x.scale, v, .string x.lang, .string x.name, .int .i64 x.pre, e, r, s], .pointer (some ⟨b, 0, none⟩)] h fun u h' => u = .int .i64 (bstI z d x.scale x.smps x.smps.length) ∧ Fm No h h' := by
  refine model_shownAt_ok.snd hm rfl fun w => ?_
  rw [WF_eq, model_shownAt]
  obtain ⟨va, vc, rfl⟩ := a5.val
  obtain ⟨ea, ec, rfl⟩ := a9.val
  obtain ⟨ra, rc, rfl⟩ := a10.val
  obtain ⟨sa, sc, rfl⟩ := a11.val
  obtain ⟨hB, eB⟩ : ∃ g, h.new ⟨[.int .i64 x.id, .int .i64 x.kind, .string x.codec, .int .i64 x.scale, (.slice va x.setup.length vc), .string x.lang, .string x.name, .int .i64 x.pre, .slice ea x.edits.length ec, .slice ra x.refs.length rc, .slice sa x.smps.length sc], .own⟩ = g := ⟨_, rfl⟩
  have wB : Wf hB := eB ▸ w.new
  have f0 : Fm No h hB := eB ▸ Fm.new Fm.refl
  have gB : hB.get h.size = some ⟨[.int .i64 x.id, .int .i64 x.kind, .string x.codec, .int .i64 x.scale, (.slice va x.setup.length vc), .string x.lang, .string x.name, .int .i64 x.pre, .slice ea x.edits.length ec, .slice ra x.refs.length rc, .slice sa x.smps.length sc], .own⟩ := eB ▸ gnew
  obtain ⟨hC, eC⟩ : ∃ g, hB.new ⟨[.bool false, .slice none 0 0, .bool false, .slice none 0 0], .own⟩ = g := ⟨_, rfl⟩
  have wC : Wf hC := eC ▸ wB.new
  have fC : Fm No hB hC := eC ▸ Fm.new Fm.refl
  have xC : XAt hC hB.size 2 := eC ▸ x_new4
  have gC := fC.keep wB gB (fun f => f)
  have u3 : hC.rd h.size 3 = some (.int .i64 x.scale) := rd_mk gC
  simp +contextual (disch := omega) only [↓AM, ↓AV, AP, CQ, eB, eC, u3]
  refine (c_mrat1 (z := x.scale) (by omega)).use ?_
  rintro _ hD wD ⟨bs, rfl, hbs, qs, fD⟩
  have f0D := (f0.trans fC fun _ _ f => f).trans fD fun _ _ f => f
  simp +contextual (disch := omega) only [↓AM, ↓AV, AP, CQ, eB, eC]
  refine (c_RMul (xC.keep wC fD) (q.keep w f0D) qs (li_le hz) (li_le hd) (li_small (by omega)) lim1).use ?_
  rintro _ hE wE ⟨rfl, wr, qa⟩
  have qa := qa.eq (z' := z * x.scale) (d' := d) q.1 (by rw [Nat.mul_one])
  have fBE : Fm No hB hE := (fC.trans fD fun _ _ f => f).trans wr.fm fun y hy q => by subst q; exact absurd hy (by omega)
  have f0E := f0.trans fBE fun _ _ f => f
  have rds : ∀ g, Fm No hE g → g.rd h.size 10 = some (.slice sa x.smps.length sc) := fun g fg => rd_mk ((fBE.trans fg fun _ _ f => f).keep wB gB (fun f => f))
  have u := rds hE Fm.refl
  simp +contextual (disch := omega) only [↓AM, ↓AV, AP, CQ, eB, eC, u]
  refine WL.mk (fun k t' h' => ∃ (j : Nat), Wf h' ∧ Fm No hE h' ∧ j ≤ x.smps.length ∧ k = x.smps.length - j ∧
      t' = [(2, some (.pointer (some ⟨h.size, 0, none⟩))), (5, some (.pointer (some ⟨hB.size, 0, none⟩))), (6, some (.int .i64 (bstI z d x.scale x.smps j))), (16, some (.slice sa x.smps.length sc)), (17, some (.int .i64 (x.smps.length : Int))), (18, some (.int .i64 (j : Int)))])
    ⟨x.smps.length, 0, wE, Fm.refl, by omega, rfl, rfl⟩ ?_
  rintro k t' h1 ⟨j, w1, f1, hj, rfl, rfl⟩
  have f01 := f0E.trans f1 fun _ _ f => f
  by_cases hjn : j < x.smps.length
  case neg =>
    have : j = x.smps.length := by omega
    subst this
    simp +contextual (disch := omega) only [↓AM, ↓AV, AP, CQ, hjn]
    exact f01
  obtain ⟨b1, o1, s1, y, yc, rfl, g1, hy, hya, hyr⟩ := (a11.keep w f01).el hjn
  obtain ⟨dv, wv, rfl, y1, y2⟩ := smp_open hya
  obtain ⟨da, dc, rfl⟩ := y1.val
  obtain ⟨wa, wc, rfl⟩ := y2.val
  have hyr : h1.rdN b1 (o1 + j * 6) 6 = some [.int .i64 y.dts, .int .i64 y.pts, .int .i64 y.dur, .bool y.sync, .slice da y.deps.length dc, .slice wa y.data.length wc] := hyr
  obtain ⟨ys1, ys2⟩ := hS y (List.mem_of_getElem? hy)
  obtain ⟨h2, e2⟩ : ∃ g, h1.new ⟨[.int .i64 y.dts, .int .i64 y.pts, .int .i64 y.dur, .bool y.sync, .slice da y.deps.length dc, .slice wa y.data.length wc], .own⟩ = g := ⟨_, rfl⟩
  have w2 : Wf h2 := e2 ▸ w1.new
  have f2 : Fm No h1 h2 := e2 ▸ Fm.new Fm.refl
  have g2 : h2.get h1.size = some ⟨[.int .i64 y.dts, .int .i64 y.pts, .int .i64 y.dur, .bool y.sync, .slice da y.deps.length dc, .slice wa y.data.length wc], .own⟩ := e2 ▸ gnew
  have p1 : h2.rd h1.size 1 = some (.int .i64 y.pts) := rd_mk g2
  obtain ⟨bb1, bb2⟩ := bstI_b z d x.scale x.smps j hj
  have hst := bstI_step (z := z) (d := d) (sc := x.scale) hy
  simp +contextual (disch := omega) only [↓AM, ↓AV, AP, CQ, hjn, g1, hyr, e2, p1]
  refine (c_mrat1 (z := y.pts) (by omega)).use ?_
  rintro _ h3 w3 ⟨b3, rfl, hb3, q3, f3⟩
  have fE3 := (f1.trans f2 fun _ _ f => f).trans f3 fun _ _ f => f
  simp +contextual (disch := omega) only [↓AM, ↓AV, AP, CQ, e2]
  refine (c_RCmp q3 (qa.keep wE fE3) (li_small (by omega)) lim1 (li_mul (n := 0) hz (li_10 (by omega))) (li_le hd)).use ?_
  rintro _ h4 w4 ⟨rfl, f4⟩
  have fE4 := fE3.trans f4 fun _ _ f => f
  have g4 := (f3.trans f4 fun _ _ f => f).keep w2 g2 (fun f => f)
  have p1 : h4.rd h1.size 1 = some (.int .i64 y.pts) := rd_mk g4
  have p2 : h4.rd h1.size 2 = some (.int .i64 y.dur) := rd_mk g4
  by_cases k1 : z * x.scale < y.pts * (d : Int)
  · have e1 : (0 < cmpZ (y.pts * (d : Int)) (z * x.scale * ((1 : Nat) : Int))) = True := eq_true (cmp_gt.2 (by rw [show z * x.scale * ((1 : Nat) : Int) = z * x.scale from Int.mul_one _]; exact k1))
    simp +contextual (disch := omega) only [↓AM, ↓AV, AP, CQ, e1, e2, i64]
    refine ⟨x.smps.length - (j + 1), by omega, j + 1, w4, fE4, by omega, rfl, ?_⟩
    rw [hst, if_neg (fun q => by have := q.1.1; omega)]
  have e1 : (0 < cmpZ (y.pts * (d : Int)) (z * x.scale * ((1 : Nat) : Int))) = False := eq_false (fun q => k1 (by have := cmp_gt.1 q; rwa [show z * x.scale * ((1 : Nat) : Int) = z * x.scale from Int.mul_one _] at this))
  simp +contextual (disch := omega) only [↓AM, ↓AV, AP, CQ, e1, e2, i64, p1, p2]
  refine (c_mrat1 (z := y.pts + y.dur) (by omega)).use ?_
  rintro _ h5 w5 ⟨b5, rfl, hb5, q5, f5⟩
  have fE5 := fE4.trans f5 fun _ _ f => f
  simp +contextual (disch := omega) only [↓AM, ↓AV, AP, CQ, e1, e2]
  refine (c_RCmp (qa.keep wE fE5) q5 (li_mul (n := 0) hz (li_10 (by omega))) (li_le hd) (li_small (by omega)) lim1).use ?_
  rintro _ h6 w6 ⟨rfl, f6⟩
  have fE6 := fE5.trans f6 fun _ _ f => f
  have g6 := (f5.trans f6 fun _ _ f => f).keep w4 g4 (fun f => f)
  have p1 : h6.rd h1.size 1 = some (.int .i64 y.pts) := rd_mk g6
  by_cases k2 : (y.pts + y.dur) * (d : Int) ≤ z * x.scale
  · have e3 : (0 ≤ cmpZ (z * x.scale * ((1 : Nat) : Int)) ((y.pts + y.dur) * (d : Int))) = True := eq_true (cmp_ge.2 (by rw [show z * x.scale * ((1 : Nat) : Int) = z * x.scale from Int.mul_one _]; exact k2))
    simp +contextual (disch := omega) only [↓AM, ↓AV, AP, CQ, e1, e2, e3, i64]
    refine ⟨x.smps.length - (j + 1), by omega, j + 1, w6, fE6, by omega, rfl, ?_⟩
    rw [hst, if_neg (fun q => by have := q.1.2; omega)]
  have e3 : (0 ≤ cmpZ (z * x.scale * ((1 : Nat) : Int)) ((y.pts + y.dur) * (d : Int))) = False := eq_false (fun q => k2 (by have := cmp_ge.1 q; rwa [show z * x.scale * ((1 : Nat) : Int) = z * x.scale from Int.mul_one _] at this))
  have hit : hitS z d x.scale y := ⟨by omega, by omega⟩
  have u := rds h6 fE6
  have go : ∀ t' : Tm, (∃ k, k < x.smps.length - j ∧ ∃ j', Wf h6 ∧ Fm No hE h6 ∧ j' ≤ x.smps.length ∧ k = x.smps.length - j' ∧ j' = j + 1) := fun _ => ⟨x.smps.length - (j + 1), by omega, j + 1, w6, fE6, by omega, rfl, rfl⟩
  generalize hb : bstI z d x.scale x.smps j = best at *
  by_cases k3 : best < 0
  · simp +contextual (disch := omega) only [↓AM, ↓AV, AP, CQ, e1, e2, e3, i64, k3]
    refine ⟨x.smps.length - (j + 1), by omega, j + 1, w6, fE6, by omega, rfl, ?_⟩
    rw [hst, if_pos ⟨hit, .inl k3⟩]
  obtain ⟨n, rfl⟩ : ∃ n : Nat, best = (n : Int) := ⟨best.toNat, by omega⟩
  obtain ⟨b7, o7, s7, y7, yc7, q7, g7, hy7, hya7, hyr7⟩ := (a11.keep w (f0E.trans fE6 fun _ _ f => f)).el (i := n) (by omega)
  cases q7
  obtain ⟨dv7, wv7, rfl, -, -⟩ := smp_open hya7
  have r7 := rdN_get (i := 1) (v := .int .i64 y7.pts) hyr7 rfl
  have r7 : h6.rd b1 (o1 + n * 6 + 1) = some (.int .i64 y7.pts) := r7
  have hpt : ptsAt x.smps (n : Int) = y7.pts := by unfold ptsAt; rw [show ((n : Nat) : Int).toNat = n from rfl, hy7]; rfl
  have hnl : n < x.smps.length := by omega
  have hng : ¬ ((n : Int) < 0) := by omega
  by_cases k4 : y7.pts ≤ y.pts
  · simp +contextual (disch := omega) only [↓AM, ↓AV, AP, CQ, e1, e2, e3, i64, hng, p1, u, g1, hnl, r7, k4]
    refine ⟨x.smps.length - (j + 1), by omega, j + 1, w6, fE6, by omega, rfl, ?_⟩
    rw [hst, if_pos ⟨hit, .inr (by omega)⟩]
  · simp +contextual (disch := omega) only [↓AM, ↓AV, AP, CQ, e1, e2, e3, i64, hng, p1, u, g1, hnl, r7, k4]
    refine ⟨x.smps.length - (j + 1), by omega, j + 1, w6, fE6, by omega, rfl, ?_⟩
    rw [hst, if_neg (fun q => by rcases q.2 with q | q <;> omega)]
end Go.Proofs.Ytbfbgkhlngkifaa.Mv

/- The sample at a movie time, where a track has no edits: the program's. Plain theorems over the abstract machine.
   Conditions: none. -/
namespace Go.Proofs.Ytbfbgkhlngkifaa.Mv
open Go Go.RowKit Go.Proofs.Ytbfbgkhlngkifaa.Am Go.Proofs.Ytbfbgkhlngkifaa.Af Go.Proofs.Ytbfbgkhlngkifaa.Md Go.Proofs.Ytbfbgkhlngkifaa.Nu
set_option linter.unusedVariables false
set_option linter.unusedSimpArgs false
set_option linter.defProp false
set_option maxRecDepth 20000
set_option maxHeartbeats 4000000

theorem sgn_lt {z : Int} : sgnZ z < 0 ↔ z < 0 := by unfold sgnZ; split <;> (try split) <;> omega
theorem sgn_ge {z : Int} : 0 ≤ sgnZ z ↔ 0 ≤ z := by unfold sgnZ; split <;> (try split) <;> omega
theorem rdN11_new {h : Hp} {a b c d e f g i j k l : Value} {md : Md} : (h.new ⟨[a, b, c, d, e, f, g, i, j, k, l], md⟩).rdN h.size 0 11 = some [a, b, c, d, e, f, g, i, j, k, l] := rdN_new rfl
theorem nil_p {a : Addr} : isNilV 0 (.pointer (some a)) = some false := rfl
theorem nil_n : isNilV 0 (.pointer none) = some true := rfl
theorem c_media0 {h : Hp} {m : Mov} {v1 v2 v3 v4 : Value} (a1 : SlV h trkK m.trks v1) (a2 : SlV h ednK m.edns v2) (a3 : SlV h tagK m.tags v3) (a4 : SlV h filK m.fils v4)
    {x : Trk} {v e r s : Value} (b5 : SlV h byteK x.setup v) (b9 : SlV h edtK x.edits e) (b10 : SlV h refK x.refs r) (b11 : SlV h smpK x.smps s) (he : x.edits = [])
    {b : Nat} {z : Int} {d : Nat} (q : Rq h b z d) (hz : 0 ≤ z) :
    ACalls Try.prog 81 [.agg #[.int .i64 m.scale, .string m.title, v1, v2, v3, v4], .agg #[.int .i64 x.id, .int .i64 x.kind, .string x.codec, .int .i64 x.scale, v, .string x.lang, .string x.name, .int .i64 x.pre, e, r, s], .pointer (some ⟨b, 0, none⟩)] h fun u h' => u = .pointer (some ⟨b, 0, none⟩) ∧ Fm No h h' := by
  refine model_media_ok.snd hm rfl fun w => ?_
  rw [WF_eq, model_media]
  obtain ⟨ta, tc, rfl⟩ := a1.val
  obtain ⟨da, dc, rfl⟩ := a2.val
  obtain ⟨ga, gc, rfl⟩ := a3.val
  obtain ⟨fa, fc, rfl⟩ := a4.val
  obtain ⟨va, vc, rfl⟩ := b5.val
  obtain ⟨ea, ec, rfl⟩ := b9.val
  obtain ⟨ra, rc, rfl⟩ := b10.val
  obtain ⟨sa, sc, rfl⟩ := b11.val
  obtain ⟨hB, eB⟩ : ∃ g, h.new ⟨[.int .i64 m.scale, .string m.title, .slice ta m.trks.length tc, .slice da m.edns.length dc, .slice ga m.tags.length gc, .slice fa m.fils.length fc], .own⟩ = g := ⟨_, rfl⟩
  have wB : Wf hB := eB ▸ w.new
  have f0 : Fm No h hB := eB ▸ Fm.new Fm.refl
  obtain ⟨hC, eC⟩ : ∃ g, hB.new ⟨[.int .i64 x.id, .int .i64 x.kind, .string x.codec, .int .i64 x.scale, .slice va x.setup.length vc, .string x.lang, .string x.name, .int .i64 x.pre, .slice ea x.edits.length ec, .slice ra x.refs.length rc, .slice sa x.smps.length sc], .own⟩ = g := ⟨_, rfl⟩
  have wC : Wf hC := eC ▸ wB.new
  have fC : Fm No hB hC := eC ▸ Fm.new Fm.refl
  have gC : hC.get hB.size = some ⟨[.int .i64 x.id, .int .i64 x.kind, .string x.codec, .int .i64 x.scale, .slice va x.setup.length vc, .string x.lang, .string x.name, .int .i64 x.pre, .slice ea x.edits.length ec, .slice ra x.refs.length rc, .slice sa x.smps.length sc], .own⟩ := eC ▸ gnew
  have u8 : hC.rd hB.size 8 = some (.slice ea x.edits.length ec) := rd_mk gC
  have f0C := f0.trans fC fun _ _ f => f
  simp +contextual (disch := omega) only [↓AM, ↓AV, AP, CQ, eB, eC]
  refine (c_RSign (q.keep w f0C)).use ?_
  rintro _ _ w3 ⟨rfl, rfl⟩
  have e1 : (sgnZ z < 0) = False := eq_false (fun q => by have := sgn_lt.1 q; omega)
  have e2 : EqI (x.edits.length : Int) 0 = True := eq_true (by rw [he]; rfl)
  simp +contextual (disch := omega) only [↓AM, ↓AV, AP, CQ, eB, eC, e1, u8, e2]
  exact f0C
theorem c_shown0 {h : Hp} {m : Mov} {v1 v2 v3 v4 : Value} (a1 : SlV h trkK m.trks v1) (a2 : SlV h ednK m.edns v2) (a3 : SlV h tagK m.tags v3) (a4 : SlV h filK m.fils v4)
    {x : Trk} {v e r s : Value} (b5 : SlV h byteK x.setup v) (b9 : SlV h edtK x.edits e) (b10 : SlV h refK x.refs r) (b11 : SlV h smpK x.smps s) (he : x.edits = [])
    (hs : 1 ≤ x.scale ∧ x.scale ≤ 1000000) (hl : x.smps.length ≤ 1000) (hS : ∀ s ∈ x.smps, SmpS s)
    {b : Nat} {z : Int} {d : Nat} (q : Rq h b z d) (hz : 0 ≤ z) (hz2 : z.natAbs < Li90) (hd : d < Li90) :
    ACalls Try.prog 50 [.agg #[.int .i64 m.scale, .string m.title, v1, v2, v3, v4], .agg #[.int .i64 x.id, .int .i64 x.kind, .string x.codec, .int .i64 x.scale, v, .string x.lang, .string x.name, .int .i64 x.pre, e, r, s], .pointer (some ⟨b, 0, none⟩)] h fun u h' => u = .int .i64 (bstI z d x.scale x.smps x.smps.length) ∧ Fm No h h' := by
  refine model_shown_ok.snd hm rfl fun w => ?_
  rw [WF_eq, model_shown]
  obtain ⟨ta, tc, rfl⟩ := a1.val
  obtain ⟨da, dc, rfl⟩ := a2.val
  obtain ⟨ga, gc, rfl⟩ := a3.val
  obtain ⟨fa, fc, rfl⟩ := a4.val
  obtain ⟨va, vc, rfl⟩ := b5.val
  obtain ⟨ea, ec, rfl⟩ := b9.val
  obtain ⟨ra, rc, rfl⟩ := b10.val
  obtain ⟨sa, sc, rfl⟩ := b11.val
  obtain ⟨hB, eB⟩ : ∃ g, h.new ⟨[.int .i64 m.scale, .string m.title, .slice ta m.trks.length tc, .slice da m.edns.length dc, .slice ga m.tags.length gc, .slice fa m.fils.length fc], .own⟩ = g := ⟨_, rfl⟩
  have wB : Wf hB := eB ▸ w.new
  have f0 : Fm No h hB := eB ▸ Fm.new Fm.refl
  have gB : hB.get h.size = some ⟨[.int .i64 m.scale, .string m.title, .slice ta m.trks.length tc, .slice da m.edns.length dc, .slice ga m.tags.length gc, .slice fa m.fils.length fc], .own⟩ := eB ▸ gnew
  obtain ⟨hC, eC⟩ : ∃ g, hB.new ⟨[.int .i64 x.id, .int .i64 x.kind, .string x.codec, .int .i64 x.scale, .slice va x.setup.length vc, .string x.lang, .string x.name, .int .i64 x.pre, .slice ea x.edits.length ec, .slice ra x.refs.length rc, .slice sa x.smps.length sc], .own⟩ = g := ⟨_, rfl⟩
  have wC : Wf hC := eC ▸ wB.new
  have fC : Fm No hB hC := eC ▸ Fm.new Fm.refl
  have gC : hC.get hB.size = some ⟨[.int .i64 x.id, .int .i64 x.kind, .string x.codec, .int .i64 x.scale, .slice va x.setup.length vc, .string x.lang, .string x.name, .int .i64 x.pre, .slice ea x.edits.length ec, .slice ra x.refs.length rc, .slice sa x.smps.length sc], .own⟩ := eC ▸ gnew
  have u6 : hC.rdN h.size 0 6 = some [.int .i64 m.scale, .string m.title, .slice ta m.trks.length tc, .slice da m.edns.length dc, .slice ga m.tags.length gc, .slice fa m.fils.length fc] := by rw [rdN_mk (fC.keep wB gB (fun f => f)) (Nat.le_refl 6)]; rfl
  have u11 : ∀ g, Fm No hC g → g.rdN hB.size 0 11 = some [.int .i64 x.id, .int .i64 x.kind, .string x.codec, .int .i64 x.scale, .slice va x.setup.length vc, .string x.lang, .string x.name, .int .i64 x.pre, .slice ea x.edits.length ec, .slice ra x.refs.length rc, .slice sa x.smps.length sc] := fun g fg => by rw [rdN_mk (fg.keep wC gC (fun f => f)) (Nat.le_refl 11)]; rfl
  have f0C := f0.trans fC fun _ _ f => f
  have u1 := u11 hC Fm.refl
  simp +contextual (disch := omega) only [↓AM, ↓AV, AP, CQ, eB, eC, u6, u1]
  refine (c_media0 (a1.keep w f0C) (a2.keep w f0C) (a3.keep w f0C) (a4.keep w f0C) (b5.keep w f0C) (b9.keep w f0C) (b10.keep w f0C) (b11.keep w f0C) he (q.keep w f0C) hz).use ?_
  rintro _ h3 w3 ⟨rfl, f3⟩
  have f03 := f0C.trans f3 fun _ _ f => f
  have u1 := u11 h3 f3
  simp +contextual (disch := omega) only [↓AM, ↓AV, AP, CQ, eB, eC, u1, nil_p, nil_n]
  refine (c_shownAt (b5.keep w f03) (b9.keep w f03) (b10.keep w f03) (b11.keep w f03) hs hl hS (q.keep w f03) hz2 hd).use ?_
  rintro _ h4 w4 ⟨rfl, f4⟩
  simp +contextual (disch := omega) only [↓AM, ↓AV, AP, CQ]
  exact f03.trans f4 fun _ _ f => f
end Go.Proofs.Ytbfbgkhlngkifaa.Mv

/- The sample that is shown, where a track has no edits and all is valid: the program's. Plain theorems over the abstract machine.
   Conditions: none. -/
namespace Go.Proofs.Ytbfbgkhlngkifaa.Mv
open Go Go.RowKit Go.Proofs.Ytbfbgkhlngkifaa.Am Go.Proofs.Ytbfbgkhlngkifaa.Af Go.Proofs.Ytbfbgkhlngkifaa.Md Go.Proofs.Ytbfbgkhlngkifaa.Nu
set_option linter.unusedVariables false
set_option linter.unusedSimpArgs false
set_option linter.defProp false
set_option maxRecDepth 20000
set_option maxHeartbeats 4000000

/-- A track's cells, as a value. -/
def TrkV (h : Hp) (x : Trk) (u : Value) : Prop := ∃ v e r s, u = .agg #[.int .i64 x.id, .int .i64 x.kind, .string x.codec, .int .i64 x.scale, v, .string x.lang, .string x.name, .int .i64 x.pre, e, r, s] ∧ SlV h byteK x.setup v ∧ SlV h edtK x.edits e ∧ SlV h refK x.refs r ∧ SlV h smpK x.smps s
def AskP (h : Hp) (x : Trk) (u : Value) : Prop := ∃ t, u = .tuple #[t, .int .i64 0] ∧ TrkV h x t
theorem rdp11 {h : Hp} {p : Nat} {a b c d e f g i j k l : Value} {md : Md} : (h.put p ⟨[a, b, c, d, e, f, g, i, j, k, l], md⟩).rdN p 0 11 = some [a, b, c, d, e, f, g, i, j, k, l] := by
  rw [rdN_mk gput (Nat.le_refl 11)]; rfl
theorem c_asked {h : Hp} {m : Mov} {v1 v2 v3 v4 : Value} (a1 : SlV h trkK m.trks v1) (a2 : SlV h ednK m.edns v2) (a3 : SlV h tagK m.tags v3) (a4 : SlV h filK m.fils v4) (hn : MovW m)
    {id z d : Int} (hc : chkE m = 0) (hv : (1 ≤ d ∧ d ≤ 1152921504606846976) ∧ (-1152921504606846976 ≤ z ∧ z ≤ 1152921504606846976)) {i : Nat} {x : Trk} (hi : findT m.trks id = (i : Int)) (hx : m.trks[i]? = some x) :
    ACalls Try.prog 49 [.agg #[.int .i64 m.scale, .string m.title, v1, v2, v3, v4], .int .i64 id, .agg #[.int .i64 z, .int .i64 d]] h fun u h' => AskP h x u ∧ Fm No h h' := by
  refine model_asked_ok.snd hm rfl fun w => ?_
  rw [WF_eq, model_asked]
  have hnt := hn.trks
  obtain ⟨ta, tc, rfl⟩ := a1.val
  obtain ⟨da, dc, rfl⟩ := a2.val
  obtain ⟨ga, gc, rfl⟩ := a3.val
  obtain ⟨fa, fc, rfl⟩ := a4.val
  obtain ⟨hB, eB⟩ : ∃ g, h.new ⟨[.int .i64 m.scale, .string m.title, .slice ta m.trks.length tc, .slice da m.edns.length dc, .slice ga m.tags.length gc, .slice fa m.fils.length fc], .own⟩ = g := ⟨_, rfl⟩
  have sB : hB.size = h.size + 1 := by rw [← eB]; rfl
  have wB : Wf hB := eB ▸ w.new
  have f0 : Fm No h hB := eB ▸ Fm.new Fm.refl
  have gB : hB.get h.size = some ⟨[.int .i64 m.scale, .string m.title, .slice ta m.trks.length tc, .slice da m.edns.length dc, .slice ga m.tags.length gc, .slice fa m.fils.length fc], .own⟩ := eB ▸ gnew
  obtain ⟨hC, eC⟩ : ∃ g, hB.new ⟨[.int .i64 z, .int .i64 d], .own⟩ = g := ⟨_, rfl⟩
  have sC : hC.size = hB.size + 1 := by rw [← eC]; rfl
  have wC : Wf hC := eC ▸ wB.new
  have fC : Fm No hB hC := eC ▸ Fm.new Fm.refl
  have gC : hC.get hB.size = some ⟨[.int .i64 z, .int .i64 d], .own⟩ := eC ▸ gnew
  obtain ⟨hD, eD⟩ : ∃ g, hC.new ⟨[.int .i64 0, .int .i64 0, .string ⟨#[]⟩, .int .i64 0, .slice none 0 0, .string ⟨#[]⟩, .string ⟨#[]⟩, .int .i64 0, .slice none 0 0, .slice none 0 0, .slice none 0 0], .own⟩ = g := ⟨_, rfl⟩
  have wD : Wf hD := eD ▸ wC.new
  have fD : Fm No hC hD := eD ▸ Fm.new Fm.refl
  have gD : hD.get hC.size = some ⟨[.int .i64 0, .int .i64 0, .string ⟨#[]⟩, .int .i64 0, .slice none 0 0, .string ⟨#[]⟩, .string ⟨#[]⟩, .int .i64 0, .slice none 0 0, .slice none 0 0, .slice none 0 0], .own⟩ := eD ▸ gnew
  have gBD := (fC.trans fD fun _ _ f => f).keep wB gB (fun f => f)
  have gCD := fD.keep wC gC (fun f => f)
  have f0D := (f0.trans fC fun _ _ f => f).trans fD fun _ _ f => f
  have rds : ∀ g, Fm No hD g → (g.rdN h.size 0 6 = some [.int .i64 m.scale, .string m.title, .slice ta m.trks.length tc, .slice da m.edns.length dc, .slice ga m.tags.length gc, .slice fa m.fils.length fc] ∧ g.rd h.size 2 = some (.slice ta m.trks.length tc)) ∧ g.rdN hB.size 0 2 = some [.int .i64 z, .int .i64 d] ∧ g.get hC.size = some ⟨[.int .i64 0, .int .i64 0, .string ⟨#[]⟩, .int .i64 0, .slice none 0 0, .string ⟨#[]⟩, .string ⟨#[]⟩, .int .i64 0, .slice none 0 0, .slice none 0 0, .slice none 0 0], .own⟩ := fun g fg => by
    refine ⟨⟨?_, rd_mk (fg.keep wD gBD (fun f => f))⟩, ?_, fg.keep wD gD (fun f => f)⟩
    · rw [rdN_mk (fg.keep wD gBD (fun f => f)) (Nat.le_refl 6)]; rfl
    · rw [rdN_mk (fg.keep wD gCD (fun f => f)) (Nat.le_refl 2)]; rfl
  have u := rds hD Fm.refl
  simp +contextual (disch := omega) only [↓AM, ↓AV, AP, CQ, eB, eC, eD, u]
  refine (c_Check (a1.keep w f0D) (a2.keep w f0D) (a3.keep w f0D) (a4.keep w f0D) hn).use ?_
  rintro _ h1 w1 ⟨⟨ix, rfl⟩, f1⟩
  have f01 := f0D.trans f1 fun _ _ f => f
  have u := rds h1 f1
  have e1 : EqI (chkE m) 0 = True := eq_true hc
  simp +contextual (disch := omega) only [↓AM, ↓AV, AP, CQ, eB, eC, eD, u, e1]
  refine c_Valid.use ?_
  rintro _ h2 w2 ⟨rfl, f2⟩
  have f12 := f1.trans f2 fun _ _ f => f
  have f02 := f0D.trans f12 fun _ _ f => f
  have u := rds h2 f12
  simp +contextual (disch := omega) only [↓AM, ↓AV, AP, CQ, eB, eC, eD, u, e1, hv]
  refine (c_find (id := id) (a1.keep w f02) (a2.keep w f02) (a3.keep w f02) (a4.keep w f02) hnt).use ?_
  rintro _ h3 w3 ⟨rfl, f3⟩
  have f13 := f12.trans f3 fun _ _ f => f
  have f03 := f0D.trans f13 fun _ _ f => f
  have hil := (List.getElem?_eq_some_iff.1 hx).1
  obtain ⟨b1, o1, s1, y, yc, rfl, g1, hy, hya, hyr⟩ := (a1.keep w f03).el hil
  obtain ⟨b1', o1', s1', y', yc', q1, g1', hy', hya', hyr'⟩ := a1.el hil
  cases q1
  rw [hx] at hy hy'
  cases hy
  cases hy'
  have hsame : yc' = yc := by
    have t : h3.rdN b1 (o1 + i * trkK.sz) trkK.sz = h.rdN b1 (o1 + i * trkK.sz) trkK.sz := rdN_keep (f03.get _ (rdN_wf w hyr') (fun f => f))
    rw [t, hyr'] at hyr
    exact Option.some.inj hyr
  subst hsame
  obtain ⟨xv, xe, xr, xs, rfl, x1, x2, x3, x4⟩ := trk_open hya'
  have tv : TrkV h x (.agg #[.int .i64 x.id, .int .i64 x.kind, .string x.codec, .int .i64 x.scale, xv, .string x.lang, .string x.name, .int .i64 x.pre, xe, xr, xs]) := ⟨xv, xe, xr, xs, rfl, x1, x2, x3, x4⟩
  obtain ⟨va, vc, rfl⟩ := x1.val
  obtain ⟨ea, ec, rfl⟩ := x2.val
  obtain ⟨ra, rc, rfl⟩ := x3.val
  obtain ⟨sa, sc, rfl⟩ := x4.val
  have hyr : h3.rdN b1 (o1 + i * 11) 11 = some [.int .i64 x.id, .int .i64 x.kind, .string x.codec, .int .i64 x.scale, .slice va x.setup.length vc, .string x.lang, .string x.name, .int .i64 x.pre, .slice ea x.edits.length ec, .slice ra x.refs.length rc, .slice sa x.smps.length sc] := hyr
  have u := rds h3 f13
  have hng : ¬ ((i : Int) < 0) := by omega
  rw [hi]
  simp +contextual (disch := omega) only [↓AM, ↓AV, AP, CQ, eB, eC, eD, u, hng, g1, hil, hyr, rdp11]
  exact ⟨⟨_, rfl, tv⟩, f03.put fun hlt => absurd hlt (by have := f0.size; have := fC.size; omega)⟩
theorem c_Shown0 {h : Hp} {m : Mov} {v1 v2 v3 v4 : Value} (a1 : SlV h trkK m.trks v1) (a2 : SlV h ednK m.edns v2) (a3 : SlV h tagK m.tags v3) (a4 : SlV h filK m.fils v4) (hn : MovW m)
    {id : Int} {z d : Nat} (hc : chkE m = 0) (hv : (1 ≤ (d : Int) ∧ (d : Int) ≤ 1152921504606846976) ∧ (-1152921504606846976 ≤ (z : Int) ∧ (z : Int) ≤ 1152921504606846976)) {i : Nat} {x : Trk} (hi : findT m.trks id = (i : Int)) (hx : m.trks[i]? = some x)
    (he : x.edits = []) (hs : 1 ≤ x.scale ∧ x.scale ≤ 1000000) (hl : x.smps.length ≤ 1000) (hS : ∀ s ∈ x.smps, SmpS s) :
    ACalls Try.prog 24 [.agg #[.int .i64 m.scale, .string m.title, v1, v2, v3, v4], .int .i64 id, .agg #[.int .i64 (z : Int), .int .i64 (d : Int)]] h fun u h' => u = .tuple #[.int .i64 (bstI (z : Int) d x.scale x.smps x.smps.length), .int .i64 0] ∧ Fm No h h' := by
  refine model_Shown_ok.snd hm rfl fun w => ?_
  rw [WF_eq, model_Shown]
  obtain ⟨ta, tc, rfl⟩ := a1.val
  obtain ⟨da, dc, rfl⟩ := a2.val
  obtain ⟨ga, gc, rfl⟩ := a3.val
  obtain ⟨fa, fc, rfl⟩ := a4.val
  obtain ⟨hB, eB⟩ : ∃ g, h.new ⟨[.int .i64 m.scale, .string m.title, .slice ta m.trks.length tc, .slice da m.edns.length dc, .slice ga m.tags.length gc, .slice fa m.fils.length fc], .own⟩ = g := ⟨_, rfl⟩
  have wB : Wf hB := eB ▸ w.new
  have f0 : Fm No h hB := eB ▸ Fm.new Fm.refl
  have gB : hB.get h.size = some ⟨[.int .i64 m.scale, .string m.title, .slice ta m.trks.length tc, .slice da m.edns.length dc, .slice ga m.tags.length gc, .slice fa m.fils.length fc], .own⟩ := eB ▸ gnew
  obtain ⟨hC, eC⟩ : ∃ g, hB.new ⟨[.int .i64 (z : Int), .int .i64 (d : Int)], .own⟩ = g := ⟨_, rfl⟩
  have wC : Wf hC := eC ▸ wB.new
  have fC : Fm No hB hC := eC ▸ Fm.new Fm.refl
  have gC : hC.get hB.size = some ⟨[.int .i64 (z : Int), .int .i64 (d : Int)], .own⟩ := eC ▸ gnew
  have gBC := fC.keep wB gB (fun f => f)
  have f0C := f0.trans fC fun _ _ f => f
  have rds : ∀ g, Fm No hC g → g.rdN h.size 0 6 = some [.int .i64 m.scale, .string m.title, .slice ta m.trks.length tc, .slice da m.edns.length dc, .slice ga m.tags.length gc, .slice fa m.fils.length fc] ∧ g.rdN hB.size 0 2 = some [.int .i64 (z : Int), .int .i64 (d : Int)] := fun g fg => by
    refine ⟨?_, ?_⟩
    · rw [rdN_mk (fg.keep wC gBC (fun f => f)) (Nat.le_refl 6)]; rfl
    · rw [rdN_mk (fg.keep wC gC (fun f => f)) (Nat.le_refl 2)]; rfl
  have u := rds hC Fm.refl
  simp +contextual (disch := omega) only [↓AM, ↓AV, AP, CQ, eB, eC, u]
  refine (c_asked (id := id) (a1.keep w f0C) (a2.keep w f0C) (a3.keep w f0C) (a4.keep w f0C) hn hc hv hi hx).use ?_
  rintro _ h1 w1 ⟨⟨t, rfl, tv⟩, f1⟩
  obtain ⟨xv, xe, xr, xs, rfl, x1, x2, x3, x4⟩ := tv
  obtain ⟨va, vc, rfl⟩ := x1.val
  obtain ⟨ea, ec, rfl⟩ := x2.val
  obtain ⟨ra, rc, rfl⟩ := x3.val
  obtain ⟨sa, sc, rfl⟩ := x4.val
  obtain ⟨hE, eE⟩ : ∃ g, h1.new ⟨[.int .i64 x.id, .int .i64 x.kind, .string x.codec, .int .i64 x.scale, .slice va x.setup.length vc, .string x.lang, .string x.name, .int .i64 x.pre, .slice ea x.edits.length ec, .slice ra x.refs.length rc, .slice sa x.smps.length sc], .own⟩ = g := ⟨_, rfl⟩
  have wE : Wf hE := eE ▸ w1.new
  have fE : Fm No h1 hE := eE ▸ Fm.new Fm.refl
  have gE : hE.get h1.size = some ⟨[.int .i64 x.id, .int .i64 x.kind, .string x.codec, .int .i64 x.scale, .slice va x.setup.length vc, .string x.lang, .string x.name, .int .i64 x.pre, .slice ea x.edits.length ec, .slice ra x.refs.length rc, .slice sa x.smps.length sc], .own⟩ := eE ▸ gnew
  have f1E := f1.trans fE fun _ _ f => f
  have u := rds hE f1E
  have u11 : ∀ g, Fm No hE g → g.rdN h1.size 0 11 = some [.int .i64 x.id, .int .i64 x.kind, .string x.codec, .int .i64 x.scale, .slice va x.setup.length vc, .string x.lang, .string x.name, .int .i64 x.pre, .slice ea x.edits.length ec, .slice ra x.refs.length rc, .slice sa x.smps.length sc] := fun g fg => by rw [rdN_mk (fg.keep wE gE (fun f => f)) (Nat.le_refl 11)]; rfl
  have u1 := u11 hE Fm.refl
  simp +contextual (disch := omega) only [↓AM, ↓AV, AP, CQ, eB, eC, eE, u, u1]
  refine (c_mratOf (z := (z : Int)) (d := d) (by omega) (by omega) (by omega)).use ?_
  rintro _ h3 w3 ⟨b, rfl, hb, q, f3⟩
  have f13 := f1E.trans f3 fun _ _ f => f
  have f03 := f0C.trans f13 fun _ _ f => f
  have fC3 := f13
  have u := rds h3 f13
  have u1 := u11 h3 f3
  simp +contextual (disch := omega) only [↓AM, ↓AV, AP, CQ, eB, eC, eE, u, u1]
  have hz2 : ((z : Nat) : Int).natAbs < Li90 := Nat.lt_of_lt_of_le (show ((z : Nat) : Int).natAbs < B32 ^ 2 from Nat.lt_of_lt_of_le (show ((z : Nat) : Int).natAbs < 18446744073709551616 by omega) (by decide)) (Nat.pow_le_pow_right (by decide) (by decide))
  have hd2 : d < Li90 := Nat.lt_of_lt_of_le (show d < B32 ^ 2 from Nat.lt_of_lt_of_le (show d < 18446744073709551616 by omega) (by decide)) (Nat.pow_le_pow_right (by decide) (by decide))
  refine ⟨⟨_, rfl, rfl⟩, ⟨_, rfl, rfl⟩, ?_⟩
  refine (c_shown0 (a1.keep w f03) (a2.keep w f03) (a3.keep w f03) (a4.keep w f03) (x1.keep wC fC3) (x2.keep wC fC3) (x3.keep wC fC3) (x4.keep wC fC3) he hs hl hS q (by omega) hz2 hd2).use ?_
  rintro _ h4 w4 ⟨rfl, f4⟩
  simp +contextual (disch := omega) only [↓AM, ↓AV, AP, CQ, u, u1]
  exact f03.trans f4 fun _ _ f => f
end Go.Proofs.Ytbfbgkhlngkifaa.Mv

/- Tracks of codes checked. Plain theorems over the abstract machine.
   Conditions: none. -/
namespace Go.Proofs.Ytbfbgkhlngkifaa.Md
open Go Go.RowKit Go.Proofs.Ytbfbgkhlngkifaa.Am Go.Proofs.Ytbfbgkhlngkifaa.Af
set_option linter.unusedVariables false
set_option linter.unusedSimpArgs false
set_option linter.defProp false
set_option maxRecDepth 20000
set_option maxHeartbeats 1000000

def awakeTab : List (Nat × AF) := [(9, dioramalaw20_awake), (13, code_Add), (21, code_Check), (22, code_steps__day), (28, code_steps__code), (29, code_checked), (30, code_within), (31, code_steps__around), (32, code_steps__count), (44, code_steps__ten), (69, code_steps__dropped), (70, code_steps__right)]
theorem awakeTab_ok : TabL Try.prog awakeTab := ⟨dioramalaw20_awake_ok, code_Add_ok, code_Check_ok, code_steps__day_ok, code_steps__code_ok, code_checked_ok, code_within_ok, code_steps__around_ok, code_steps__count_ok, code_steps__ten_ok, code_steps__dropped_ok, code_steps__right_ok, trivial⟩
theorem awake_runs : xIs (xCall (tabOf awakeTab) 200 9 []) (.bool true) = true := by kernel_rfl
theorem c_awake {h : Hp} : ACalls Try.prog 9 [] h fun v h' => v = .bool true ∧ h' = h :=
  xCall_ok hm awakeTab_ok.tab awake_runs rfl rfl h
def lettersTab : List (Nat × AF) := [(46, model_letters), (47, model_isName)]
theorem lettersTab_ok : TabL Try.prog lettersTab := ⟨model_letters_ok, model_isName_ok, trivial⟩
abbrev tmc : Value := .string ⟨#[116, 109, 99, 49]⟩
abbrev und : Value := .string ⟨#[117, 110, 100]⟩
theorem c_l1 {h : Hp} : ACalls Try.prog 46 [.string ⟨#[116, 109, 99, 49]⟩, .int .i64 4, .bool true] h fun v h' => v = .bool true ∧ h' = h :=
  xCall_ok hm lettersTab_ok.tab (n := 200) (by kernel_rfl) rfl rfl h
theorem c_l2 {h : Hp} : ACalls Try.prog 46 [.string ⟨#[117, 110, 100]⟩, .int .i64 3, .bool false] h fun v h' => v = .bool true ∧ h' = h :=
  xCall_ok hm lettersTab_ok.tab (n := 200) (by kernel_rfl) rfl rfl h
theorem c_l3 {h : Hp} : ACalls Try.prog 47 [.string ⟨#[]⟩] h fun v h' => v = .bool true ∧ h' = h :=
  xCall_ok hm lettersTab_ok.tab (n := 200) (by kernel_rfl) rfl rfl h
/-! ### samples of codes -/
/-- A sample: when, how long, and the number that it holds. -/
abbrev Sp := Int × Int × Int
def dataN (n : Int) : List Int := [n / 16777216 % 256, n / 65536 % 256, n / 256 % 256, n % 256]
def spC (x : Sp) (b : Nat) : List Value := [.int .i64 x.1, .int .i64 x.1, .int .i64 x.2.1, .bool true, .slice none 0 0, .slice (some ⟨b, 0, none⟩) 4 4]
def SpA (h : Hp) (x : Sp) (cs : List Value) : Prop := ∃ b, cs = spC x b ∧ h.get b = some ⟨(dataN x.2.2).map (Value.int .u8), .own⟩
theorem SpA.len {h : Hp} {x : Sp} {cs : List Value} (a : SpA h x cs) : cs.length = 6 := by obtain ⟨b, rfl, _⟩ := a; rfl
theorem row_el {α : Type} {A : α → List Value → Prop} {z : Nat} (hz : ∀ x cs, A x cs → cs.length = z) {h : Hp} {oa : Option Addr} {n : Nat} {r : List Value} {xs : List α} (rd : Rd h z oa n r) (row : AKd.Row A xs r) (hl : xs.length = n) {i : Nat} (hi : i < n) :
    ∃ b off sp x c, oa = some ⟨b, off, sp⟩ ∧ flagOk sp = true ∧ xs[i]? = some x ∧ A x c ∧ h.rdN b (off + i * z) z = some c ∧ ∀ j v, c[j]? = some v → h.rd b (off + i * z + j) = some v := by
  obtain ⟨b, off, sp, e, h1, h2⟩ := rd.pos (by omega)
  have hx : xs[i]? = some xs[i] := List.getElem?_eq_getElem (by omega)
  have hc := AKd.Row.get hz row hx
  have h3 := rdN_sub (k := i * z) (l := z) h2 (by rw [← Nat.succ_mul]; exact Nat.mul_le_mul_right _ hi)
  exact ⟨b, off, sp, _, _, e, h1, hx, hc, h3, fun j v hv => rdN_get h3 hv⟩
/-- The track that the samples make. -/
def trC (id sc : Int) (sa qa : Option Addr) (n qc : Nat) : List Value := [.int .i64 id, .int .i64 6, .string ⟨#[116, 109, 99, 49]⟩, .int .i64 sc, .slice sa 2 2, .string ⟨#[117, 110, 100]⟩, .string ⟨#[]⟩, .int .i64 0, .slice none 0 0, .slice none 0 0, .slice qa n qc]
def okX (x : Sp) : Prop := (-1099511627776 ≤ x.1 ∧ x.1 ≤ 1099511627776) ∧ (0 ≤ x.2.1 ∧ x.2.1 ≤ 1099511627776)
instance (x : Sp) : Decidable (okX x) := by unfold okX; infer_instance
def sE (p : Option Int) (x : Sp) : Int := if okX x then (match p with | none => 0 | some q => if x.1 ≤ q then 31 else 0) else 1
def wE : Option Int → List Sp → Int
  | _, [] => 0
  | p, x :: xs => if sE p x = 0 then wE (some x.1) xs else sE p x
def prevP (xs : List Sp) : Nat → Option Int
  | 0 => none
  | i + 1 => (xs[i]?).map (·.1)
def trE (id sc : Int) (xs : List Sp) : Int := if (1 ≤ id ∧ id ≤ 1000) ∧ (1 ≤ sc ∧ sc ≤ 1000000) then (if 400 < xs.length then 2 else wE none xs) else 1
theorem n65536 : ((65536 : Int) < ((4 : Nat) : Int)) = False := by simp
theorem n4 : ((4 : Int) < ((0 : Nat) : Int)) = False := by simp
theorem n1000 : ((1000 : Int) < ((2 : Nat) : Int)) = False := by simp
theorem n20 : ((20 : Int) < ((0 : Nat) : Int)) = False := by simp
theorem n8 : ((8 : Int) < ((0 : Nat) : Int)) = False := by simp
theorem rd_new2 {h : Hp} {o o' : Ob} {i : Nat} : ((h.new o).new o').rd h.size i = o.cs[i]? := by
  rw [rd_keep (get_new (Nat.lt_succ_self _)), rnew]
def CR := And.intro @rd_new2 <| And.intro @n65536 <| And.intro @n4 <| And.intro @n1000 <| And.intro @n20 @n8
theorem c_chkS {h : Hp} {id sc : Int} {sa qa : Option Addr} {n qc i b : Nat} {xs : List Sp} {qr : List Value} {x : Sp} (rd : Rd h 6 qa n qr) (row : AKd.Row (SpA h) xs qr) (hl : xs.length = n) (hi : xs[i]? = some x) (hn : n ≤ 1000000) :
    ACalls Try.prog 48 [.agg (trC id sc sa qa n qc).toArray, .int .i64 i, .agg (spC x b).toArray] h fun v h' => v = .int .i64 (sE (prevP xs i) x) ∧ Fm No h h' := by
  refine model_checkSample_ok.snd hm rfl fun w => ?_
  rw [WF_eq, model_checkSample, trC, spC]
  have hin : i < n := by have := (List.getElem?_eq_some_iff.1 hi).1; omega
  simp +contextual (disch := omega) only [↓AM, ↓AV, AP, CQ, i64]
  refine c_tick.use ?_
  rintro _ _ w1 ⟨rfl, rfl⟩
  have fm : Fm No h ((h.new ⟨trC id sc sa qa n qc, .own⟩).new ⟨spC x b, .own⟩) := Fm.new (Fm.new Fm.refl)
  by_cases h1 : -1099511627776 ≤ x.1 ∧ x.1 ≤ 1099511627776
  case neg =>
    simp +contextual (disch := omega) only [↓AM, ↓AV, AP, CQ, i64, h1]
    exact ⟨by simp [sE, okX, h1], fm⟩
  simp +contextual (disch := omega) only [↓AM, ↓AV, AP, CQ, i64, h1]
  refine c_tick.use ?_
  rintro _ _ w1 ⟨rfl, rfl⟩
  simp +contextual (disch := omega) only [↓AM, ↓AV, AP, CQ, i64, h1]
  refine c_mwithin.use ?_
  rintro _ _ w1 ⟨rfl, rfl⟩
  by_cases h2 : 0 ≤ x.2.1 ∧ x.2.1 ≤ 1099511627776
  case neg =>
    simp +contextual (disch := omega) only [↓AM, ↓AV, AP, CQ, i64, h2]
    exact ⟨by simp [sE, okX, h2], fm⟩
  have hok : okX x := ⟨h1, h2⟩
  cases i with
  | zero =>
    have e0 : ((0 : Int) < (((0 : Nat) : Int))) = False := by simp
    simp +contextual (disch := omega) only [↓AM, ↓AV, AP, CQ, CR, i64, h2, e0]
    refine WL.mk (fun k t h' => h' = (h.new ⟨trC id sc sa qa n qc, .own⟩).new ⟨spC x b, .own⟩ ∧ t = [(1, some (.int .i64 ((0 : Nat) : Int))), (7, some (.int .i64 (-1))), (63, some (.slice none 0 0)), (64, some (.int .i64 ((0 : Nat) : Int))), (65, some (.int .i64 0))])
      ⟨0, rfl, rfl⟩ ?_
    rintro k t _ ⟨rfl, rfl⟩
    simp +contextual (disch := omega) only [↓AM, ↓AV, AP, CQ, CR, i64, e0]
    exact ⟨by simp [sE, hok, prevP], fm⟩
  | succ i =>
    obtain ⟨b1, o1, s1, y, c, rfl, f1, hy, ⟨b2, rfl, g2⟩, r1, r2⟩ := row_el (A := SpA h) (fun x cs a => a.len) (rd.keepW w fm (fun _ _ f => f)) row hl (i := i) (by omega)
    have e0 : ((0 : Int) < ((((i + 1 : Nat)) : Int))) = True := by simp
    have hr := r2 0 (.int .i64 y.1) rfl
    simp only [trC, spC, Nat.add_zero] at hr
    have hp : prevP xs (i + 1) = some y.1 := by simp [prevP, hy]
    by_cases h3 : x.1 ≤ y.1
    · simp +contextual (disch := omega) only [↓AM, ↓AV, AP, CQ, CR, i64, h2, e0, f1, hr, h3]
      exact ⟨by omega, by simp [sE, hok, hp, h3], fm⟩
    · simp +contextual (disch := omega) only [↓AM, ↓AV, AP, CQ, CR, i64, h2, e0, f1, hr, h3]
      refine ⟨by omega, ?_⟩
      refine WL.mk (fun k t h' => h' = (h.new ⟨trC id sc sa (some ⟨b1, o1, s1⟩) n qc, .own⟩).new ⟨spC x b, .own⟩ ∧ t = [(1, some (.int .i64 ((i + 1 : Nat) : Int))), (7, some (.int .i64 (-1))), (63, some (.slice none 0 0)), (64, some (.int .i64 ((0 : Nat) : Int))), (65, some (.int .i64 0))])
        ⟨0, rfl, rfl⟩ ?_
      rintro k t _ ⟨rfl, rfl⟩
      have e0 : ((0 : Int) < (((0 : Nat) : Int))) = False := by simp
      simp +contextual (disch := omega) only [↓AM, ↓AV, AP, CQ, CR, i64, e0]
      exact ⟨by simp [sE, hok, hp, h3], fm⟩
end Go.Proofs.Ytbfbgkhlngkifaa.Md

/- The rate and the numbers of a track: the program's. Plain theorems over the abstract machine.
   Conditions: none. -/
namespace Go.Proofs.Ytbfbgkhlngkifaa.Mv
open Go Go.RowKit Go.Proofs.Ytbfbgkhlngkifaa.Am Go.Proofs.Ytbfbgkhlngkifaa.Af Go.Proofs.Ytbfbgkhlngkifaa.Md Go.Proofs.Ytbfbgkhlngkifaa.Nu
set_option linter.unusedVariables false
set_option linter.unusedSimpArgs false
set_option linter.defProp false
set_option maxRecDepth 20000
set_option maxHeartbeats 4000000

abbrev tmcB : ByteArray := ⟨#[116, 109, 99, 49]⟩
def byB (l : List Int) : Prop := ∀ b ∈ l, 0 ≤ b ∧ b ≤ 255
/-- The rate of a track: an error, or frames and drop. -/
def rateE (x : Trk) : Int := if x.codec ≠ tmcB ∨ x.kind ≠ 6 then 7 else match x.setup with
  | [f, d] => if 1 < d then 4 else chkR f (decide (d = 1))
  | _ => 4
def rateF (x : Trk) : Int × Bool := match x.setup with
  | [f, d] => if rateE x = 0 then (f, decide (d = 1)) else (0, false)
  | _ => (0, false)
def RatP (x : Trk) (u : Value) : Prop := u = .tuple #[.agg #[.int .i64 (rateF x).1, .bool (rateF x).2], .int .i64 (rateE x)]
theorem rateE_len {x : Trk} (h1 : x.codec = tmcB) (h2 : x.kind = 6) (h : x.setup.length ≠ 2) : rateE x = 4 := by
  unfold rateE
  rw [if_neg (by rintro (q | q); exact q h1; exact q h2)]
  split
  · rename_i e; rw [e] at h; exact absurd rfl h
  · rfl
theorem rateF_bad {x : Trk} (h : rateE x ≠ 0) : rateF x = (0, false) := by
  unfold rateF
  split
  · rw [if_neg h]
  · rfl
theorem RatP.bad {x : Trk} {e : Int} (h : rateE x = e) (he : e ≠ 0) : RatP x (.tuple #[.agg #[.int .i64 0, .bool false], .int .i64 e]) := by
  unfold RatP
  rw [rateF_bad (by rw [h]; exact he), h]
theorem rdp2 {h : Hp} {p : Nat} {a b : Value} {md : Md} : (h.put p ⟨[a, b], md⟩).rdN p 0 2 = some [a, b] := by
  rw [rdN_mk gput (Nat.le_refl 2)]; rfl
theorem eql_u8 (a b : Int) : (a == b) = decide (a = b) := by by_cases h : a = b <;> simp [h]
theorem c_Rate {h : Hp} {x : Trk} {v e r s : Value} (a5 : SlV h byteK x.setup v) (a9 : SlV h edtK x.edits e) (a10 : SlV h refK x.refs r) (a11 : SlV h smpK x.smps s) (hb : byB x.setup) :
    ACalls Try.prog 53 [.agg #[.int .i64 x.id, .int .i64 x.kind, .string x.codec, .int .i64 x.scale, v, .string x.lang, .string x.name, .int .i64 x.pre, e, r, s]] h fun u h' => RatP x u ∧ Fm No h h' := by
  refine code_Rate_ok.snd hm rfl fun w => ?_
  rw [WF_eq, code_Rate]
  obtain ⟨va, vc, rfl⟩ := a5.val
  obtain ⟨ea, ec, rfl⟩ := a9.val
  obtain ⟨ra, rc, rfl⟩ := a10.val
  obtain ⟨sa, sc, rfl⟩ := a11.val
  obtain ⟨hB, eB⟩ : ∃ g, h.new ⟨[.int .i64 x.id, .int .i64 x.kind, .string x.codec, .int .i64 x.scale, .slice va x.setup.length vc, .string x.lang, .string x.name, .int .i64 x.pre, .slice ea x.edits.length ec, .slice ra x.refs.length rc, .slice sa x.smps.length sc], .own⟩ = g := ⟨_, rfl⟩
  have sB : hB.size = h.size + 1 := by rw [← eB]; rfl
  have wB : Wf hB := eB ▸ w.new
  have f0 : Fm No h hB := eB ▸ Fm.new Fm.refl
  have gB : hB.get h.size = some ⟨[.int .i64 x.id, .int .i64 x.kind, .string x.codec, .int .i64 x.scale, .slice va x.setup.length vc, .string x.lang, .string x.name, .int .i64 x.pre, .slice ea x.edits.length ec, .slice ra x.refs.length rc, .slice sa x.smps.length sc], .own⟩ := eB ▸ gnew
  obtain ⟨hC, eC⟩ : ∃ g, hB.new ⟨[.int .i64 0, .bool false], .own⟩ = g := ⟨_, rfl⟩
  have sC : hC.size = hB.size + 1 := by rw [← eC]; rfl
  have wC : Wf hC := eC ▸ wB.new
  have fC : Fm No hB hC := eC ▸ Fm.new Fm.refl
  have gC : hC.get hB.size = some ⟨[.int .i64 0, .bool false], .own⟩ := eC ▸ gnew
  have f0C := f0.trans fC fun _ _ f => f
  have gBC := fC.keep wB gB (fun f => f)
  have u1 : hC.rd h.size 1 = some (.int .i64 x.kind) := rd_mk gBC
  have u2 : hC.rd h.size 2 = some (.string x.codec) := rd_mk gBC
  have u4 : hC.rd h.size 4 = some (.slice va x.setup.length vc) := rd_mk gBC
  have fput : ∀ o g, Fm No h g → Fm No h (g.put hB.size o) := fun o g fg => fg.put fun hlt => absurd hlt (by omega)
  by_cases k1 : x.codec = tmcB
  case neg =>
    simp +contextual (disch := omega) only [↓AM, ↓AV, AP, CQ, ↓sb_neq, eB, eC, gC, u1, u2, u4, k1, rdp2]
    exact ⟨.bad (by unfold rateE; rw [if_pos (.inl k1)]) (by decide), fput _ _ f0C⟩
  have q1 : (x.codec = tmcB) = True := eq_true k1
  by_cases k2 : x.kind = 6
  case neg =>
    have q2 : EqI x.kind 6 = False := eq_false k2
    simp +contextual (disch := omega) only [↓AM, ↓AV, AP, CQ, ↓sb_neq, eB, eC, gC, u1, u2, u4, q1, q2, rdp2]
    exact ⟨.bad (by unfold rateE; rw [if_pos (.inr k2)]) (by decide), fput _ _ f0C⟩
  have q2 : EqI x.kind 6 = True := eq_true k2
  by_cases k3 : x.setup.length = 2
  case neg =>
    have q3 : EqI (x.setup.length : Int) 2 = False := eq_false (fun q => k3 (by unfold EqI at q; omega))
    simp +contextual (disch := omega) only [↓AM, ↓AV, AP, CQ, ↓sb_neq, eB, eC, gC, u1, u2, u4, q1, q2, q3, rdp2]
    exact ⟨.bad (rateE_len k1 k2 k3) (by decide), fput _ _ f0C⟩
  have q3 : EqI (x.setup.length : Int) 2 = True := eq_true (by unfold EqI; omega)
  obtain ⟨f, d, hfd⟩ : ∃ f d, x.setup = [f, d] := by
    match hh : x.setup with
    | [f, d] => exact ⟨f, d, rfl⟩
    | [] => rw [hh] at k3; cases k3
    | [_] => rw [hh] at k3; cases k3
    | _ :: _ :: _ :: _ => rw [hh] at k3; simp at k3
  have hbf := hb f (by rw [hfd]; simp)
  have hbd := hb d (by rw [hfd]; simp)
  have rdv := SlV.ints (a5.keep w f0C)
  obtain ⟨b0, o0, s0, rfl, g0, y0, hy0, r0⟩ := Rd.int rdv (i := 0) (by omega)
  obtain ⟨b0', o0', s0', qq, g0', y1, hy1, r1⟩ := Rd.int rdv (i := 1) (by omega)
  cases qq
  rw [hfd] at hy0 hy1
  have hy0 : f = y0 := Option.some.inj hy0
  have hy1 : d = y1 := Option.some.inj hy1
  subst hy0 hy1
  have r0 : hC.rd b0 o0 = some (.int .u8 f) := r0
  have il : ((1 : Int) < (x.setup.length : Int)) = True := eq_true (by omega)
  have il0 : ((0 : Int) < (x.setup.length : Int)) = True := eq_true (by omega)
  have hrE : rateE x = if 1 < d then 4 else chkR f (decide (d = 1)) := by
    unfold rateE
    rw [if_neg (by rintro (q | q); exact q k1; exact q k2), hfd]
  by_cases k4 : 1 < d
  · simp +contextual (disch := omega) only [↓AM, ↓AV, AP, CQ, ↓sb_neq, eB, eC, gC, u1, u2, u4, q1, q2, q3, g0, il, il0, r1, k4, rdp2]
    exact ⟨.bad (by rw [hrE, if_pos k4]) (by decide), fput _ _ f0C⟩
  rw [if_neg k4] at hrE
  obtain ⟨D, hD⟩ : ∃ D, decide (d = 1) = D := ⟨_, rfl⟩
  have hD2 : decide (EqI d 1) = D := hD
  rw [hD] at hrE
  obtain ⟨hE, eE⟩ : ∃ g, hC.new ⟨[.int .i64 f, .bool D], .own⟩ = g := ⟨_, rfl⟩
  have wE : Wf hE := eE ▸ wC.new
  have fE : Fm No hC hE := eE ▸ Fm.new Fm.refl
  have gE : hE.get hC.size = some ⟨[.int .i64 f, .bool D], .own⟩ := eE ▸ gnew
  have f0E := f0C.trans fE fun _ _ f => f
  have gE0 : hE.rdN hC.size 0 2 = some [.int .i64 f, .bool D] := rdN_mk gE (Nat.le_refl 2)
  simp +contextual (disch := omega) only [↓AM, ↓AV, AP, CQ, ↓sb_neq, eB, eC, gC, u1, u2, u4, q1, q2, q3, g0, il, il0, r0, r1, k4, rdp2, i64, hD2, eE, gE0]
  refine (c_chk (F := f) (D := D)).use ?_
  rintro _ h1 w1 ⟨rfl, f1⟩
  have f01 := f0E.trans f1 fun _ _ f => f
  have gC1 := (fE.trans f1 fun _ _ f => f).keep wC gC (fun f => f)
  have gE1 : h1.rdN hC.size 0 2 = some [.int .i64 f, .bool D] := rdN_mk (f1.keep wE gE (fun f => f)) (Nat.le_refl 2)
  by_cases k5 : chkR f D = 0
  · have e5 : EqI (chkR f D) 0 = True := eq_true k5
    simp +contextual (disch := omega) only [↓AM, ↓AV, AP, CQ, e5, gC1, gE1, rdp2]
    refine ⟨?_, fput _ _ f01⟩
    unfold RatP rateF
    rw [hfd]
    show _ = Value.tuple #[.agg #[.int .i64 (if rateE x = 0 then (f, decide (d = 1)) else (0, false)).1, .bool (if rateE x = 0 then (f, decide (d = 1)) else (0, false)).2], _]
    rw [if_pos (hrE.trans k5), hrE, k5, hD]
  · have e5 : EqI (chkR f D) 0 = False := eq_false k5
    simp +contextual (disch := omega) only [↓AM, ↓AV, AP, CQ, e5, gC1, gE1, rdp2]
    exact ⟨.bad hrE k5, fput _ _ f01⟩
/-! ### numbers -/
def numB (l : List Int) : Int := l.foldl (fun n b => n * 256 + b) 0
theorem numB_app (l : List Int) (b : Int) : numB (l ++ [b]) = numB l * 256 + b := by unfold numB; rw [List.foldl_append]; rfl
theorem numB_b : ∀ (n : Nat) (l : List Int), byB l → l.length = n → 0 ≤ numB l ∧ numB l < (256 : Int) ^ n
  | 0, l, _, h => by
    have : l = [] := List.length_eq_zero_iff.1 h
    subst this
    exact ⟨Int.le_refl _, by show (0 : Int) < 1; omega⟩
  | n + 1, l, hb, h => by
    obtain ⟨m, b, rfl⟩ : ∃ m b, l = m ++ [b] := ⟨l.dropLast, l.getLast (by intro q; subst q; cases h), (List.dropLast_concat_getLast _).symm⟩
    have ih := numB_b n m (fun x hx => hb x (List.mem_append_left _ hx)) (by simpa using h)
    have hb' := hb b (by simp)
    rw [numB_app, Int.pow_succ]
    omega
theorem or_lowI {x y : Int} (hx : 0 ≤ x ∧ x ≤ 72057594037927) (hy : 0 ≤ y ∧ y ≤ 255) : IntKind.i64.wrap ((BitVec.ofInt IntKind.i64.bits (x * 256) ||| BitVec.ofInt IntKind.i64.bits y).toNat : Int) = x * 256 + y := by
  obtain ⟨m, rfl⟩ : ∃ m : Nat, x = m := ⟨x.toNat, by omega⟩
  obtain ⟨n, rfl⟩ : ∃ n : Nat, y = n := ⟨y.toNat, by omega⟩
  have e : (BitVec.ofInt IntKind.i64.bits ((m : Int) * 256) ||| BitVec.ofInt IntKind.i64.bits (n : Int)).toNat = m * 256 + n := by
    show (BitVec.ofInt 64 ((m : Int) * 256) ||| BitVec.ofInt 64 (n : Int)).toNat = _
    rw [BitVec.toNat_or]
    have h1 : (BitVec.ofInt 64 ((m : Int) * 256)).toNat = m <<< 8 := by
      rw [Nat.shiftLeft_eq, BitVec.toNat_ofInt]; omega
    have h2 : (BitVec.ofInt 64 (n : Int)).toNat = n := by simp [BitVec.toNat_ofInt]; omega
    rw [h1, h2, ← Nat.shiftLeft_add_eq_or_of_lt (by omega), Nat.shiftLeft_eq]
  rw [e, i64 (by omega)]
  omega
/-- The numbers of samples, or an error. -/
def numsB (day : Int) : List Int → List Smp → Option (List Int)
  | acc, [] => some acc
  | acc, s :: ss => if day ≤ numB s.data then none else numsB day (acc ++ [numB s.data]) ss
def has4 (ss : List Smp) : Bool := ss.any fun s => decide (s.data.length ≠ 4)
theorem c_Numbers1 {h : Hp} {s : Smp} {cs : List Value} (a : smpK.A h s cs) :
    ACalls Try.prog 87 [.agg cs.toArray] h fun v h' => v = .bool (decide (s.data.length ≠ 4)) ∧ Fm No h h' := by
  refine code_Numbers_1_ok.snd hm rfl fun w => ?_
  rw [WF_eq, code_Numbers_1]
  obtain ⟨dv, wv, rfl, y1, y2⟩ := smp_open a
  obtain ⟨da, dc, rfl⟩ := y1.val
  obtain ⟨wa, wc, rfl⟩ := y2.val
  have g : (h.new ⟨[.int .i64 s.dts, .int .i64 s.pts, .int .i64 s.dur, .bool s.sync, .slice da s.deps.length dc, .slice wa s.data.length wc], .own⟩).rd h.size 5 = some (.slice wa s.data.length wc) := rd_mk gnew
  have f0 : Fm No h (h.new ⟨[.int .i64 s.dts, .int .i64 s.pts, .int .i64 s.dur, .bool s.sync, .slice da s.deps.length dc, .slice wa s.data.length wc], .own⟩) := Fm.new Fm.refl
  simp +contextual (disch := omega) only [↓AM, ↓AV, AP, CQ, g]
  by_cases q : s.data.length = 4
  · have e : EqI (s.data.length : Int) 4 = True := eq_true (by unfold EqI; omega)
    simp +contextual (disch := omega) only [e]
    exact ⟨by simp [q], f0⟩
  · have e : EqI (s.data.length : Int) 4 = False := eq_false (by unfold EqI; omega)
    simp +contextual (disch := omega) only [e]
    exact ⟨by simp [q], f0⟩
theorem c_IdxSmp {h : Hp} {a : Option Addr} {c f : Nat} {us vs : Array Value} {ls : List Smp} {p : Smp → Bool} (ha : SlV h smpK ls (.slice a ls.length c)) (hn : ls.length ≤ 140737488351232) (hf : okF Try.prog f = true)
    (hp : ∀ x ∈ ls, ∀ cs h1, Fm No h h1 → Wf h1 → smpK.A h1 x cs → ACalls Try.prog f (us.toList ++ [.agg cs.toArray] ++ vs.toList) h1 fun v h' => v = .bool (p x) ∧ Fm No h1 h') :
    ACalls Try.prog 113 [.slice a ls.length c, .func (.func f) us vs] h fun v h' => v = .int .i64 (fst p 0 ls) ∧ Fm No h h' := by
  refine slices_IndexFunc___api_Sample_api_Sample__ok.snd hm rfl fun w => ?_
  rw [WF_eq, slices_IndexFunc___api_Sample_api_Sample_]
  simp +contextual only [↓AM, ↓AV, AP]
  refine WL.mk (fun k t h' => Wf h' ∧ Fm No h h' ∧ ∃ i : Nat, i ≤ ls.length ∧ k = ls.length - i ∧ (ls.take i).all (fun x => !p x) = true ∧ t = [(0, some (.slice a ls.length c)), (1, some (.func (.func f) us vs)), (7, some (.int .i64 ls.length)), (8, some (.int .i64 i))]) ⟨ls.length, w, Fm.refl, 0, by omega, rfl, rfl, rfl⟩ ?_
  rintro k t h1 ⟨w1, fm, i, hi, rfl, hall, rfl⟩
  by_cases hin : i < ls.length
  · obtain ⟨b1, o1, s1, x, cs, rfl, f1, hl, hxa, hxr⟩ := (ha.keep w fm).el hin
    have hq := hp x (List.mem_of_getElem? hl) cs _ fm w1 hxa
    have hxr : h1.rdN b1 (o1 + i * 6) 6 = some cs := hxr
    simp +contextual only [↓AM, ↓AV, AP, f1, hxr, hin]
    refine ⟨hf, hq.use ?_⟩
    rintro _ h2 w2 ⟨rfl, fm2⟩
    have fm' := fm.trans fm2 (fun _ _ x => x)
    simp +contextual only [↓AM, ↓AV, AP]
    refine ⟨fun hpu => ⟨?_, fm'⟩, fun hpu => ⟨_, ?_, w2, fm', i + 1, hin, rfl, ?_, ?_⟩⟩
    · rw [fst_hit hall hl hpu, Nat.zero_add]
    · omega
    · exact all_tk hall hl (by simp [hpu])
    · rw [i64 (by omega)]; rfl
  · simp +contextual only [↓AM, ↓AV, AP, hin]
    rw [List.take_of_length_le (by omega)] at hall
    exact ⟨by rw [fst_none hall], fm⟩
theorem fst_any {α : Type} {p : α → Bool} (ls : List α) : decide (0 ≤ fst p 0 ls) = ls.any p := by
  rcases fst_cases (p := p) ls with ⟨h1, h2⟩ | ⟨i, x, h1, h2, h3, _⟩
  · rw [h1]
    have : ls.any p = false := by
      rw [List.any_eq_false]
      intro x hx
      rw [h2 x hx]
      simp
    rw [this]; rfl
  · rw [h3]
    have : ls.any p = true := List.any_eq_true.2 ⟨x, List.mem_of_getElem? h1, h2⟩
    rw [this]
    simp
theorem c_HasSmp {h : Hp} {a : Option Addr} {c f : Nat} {us vs : Array Value} {ls : List Smp} {p : Smp → Bool} (ha : SlV h smpK ls (.slice a ls.length c)) (hn : ls.length ≤ 140737488351232) (hf : okF Try.prog f = true)
    (hp : ∀ x ∈ ls, ∀ cs h1, Fm No h h1 → Wf h1 → smpK.A h1 x cs → ACalls Try.prog f (us.toList ++ [.agg cs.toArray] ++ vs.toList) h1 fun v h' => v = .bool (p x) ∧ Fm No h1 h') :
    ACalls Try.prog 86 [.slice a ls.length c, .func (.func f) us vs] h fun v h' => v = .bool (ls.any p) ∧ Fm No h h' := by
  refine slices_ContainsFunc___api_Sample_api_Sample__ok.snd hm rfl fun w => ?_
  rw [WF_eq, slices_ContainsFunc___api_Sample_api_Sample_]
  simp +contextual only [↓AM, ↓AV, AP]
  refine (c_IdxSmp ha hn hf hp).use ?_
  rintro _ h1 w1 ⟨rfl, fm⟩
  have e := fst_any (p := p) ls
  simp +contextual only [↓AM, ↓AV, AP, e]
  exact fm
end Go.Proofs.Ytbfbgkhlngkifaa.Mv
