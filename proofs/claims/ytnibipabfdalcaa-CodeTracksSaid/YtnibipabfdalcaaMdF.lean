/- Tracks of codes made by the document's answer. Plain theorems over the abstract machine.
   Conditions: none. -/
import Derived.Test.YtnibipabfdalcaaMdE
namespace Go.Proofs.Ytnibipabfdalcaa.Md
open Go Go.RowKit Go.Proofs.Ytnibipabfdalcaa.Am Go.Proofs.Ytnibipabfdalcaa.Af
set_option linter.unusedVariables false
set_option linter.unusedSimpArgs false
set_option linter.defProp false
set_option maxRecDepth 20000
set_option maxHeartbeats 2000000

theorem c_rTrack {h : Hp} {F : Int} {D : Bool} {id sc : Int} {a : Option Addr} {n c : Nat} {ss : List Smp} {r : List Value} (rd : Rd h 6 a n r) (row : AKd.Row (smpK.A h) ss r) (hl : ss.length = n) (hn : n ≤ 1000) :
    ACalls Try.prog 8 [rateV F D, .int .i64 id, .int .i64 sc, .slice a n c] h fun v h' => TrPost F D id sc ss h v h' := by
  refine dioramaref20_Track_ok.snd hm rfl fun w => ?_
  rw [WF_eq, dioramaref20_Track, rateV]
  obtain ⟨p8, hp8⟩ : ∃ p, (h.new ⟨[.int .i64 F, .bool D], .own⟩).size = p := ⟨_, rfl⟩
  have h8 : h.size ≤ p8 := by rw [← hp8]; exact Nat.le_succ _
  have h48 : h.size ≠ p8 := by rw [← hp8]; exact Nat.ne_of_lt (Nat.lt_succ_self _)
  have rd_b : ((h.new ⟨[.int .i64 F, .bool D], .own⟩).new ⟨zC, .own⟩).rdN h.size 0 2 = some [.int .i64 F, .bool D] := by
    rw [rdN_keep (get_new (Nat.lt_succ_self _))]; exact rdN_new rfl
  simp only [zC] at rd_b
  simp +contextual (disch := omega) only [↓AM, ↓AV, AP, CQ, i64, hp8, rd_b]
  refine c_rDay.use ?_
  rintro _ h1 w1 ⟨rfl, fm1⟩
  have fm : Fm No h h1 := (Fm.new (Fm.new Fm.refl)).trans fm1 fun _ _ f => f
  have g4 := fm1.keep w.new.new ((get_new (Nat.lt_succ_self _)).trans gnew) (fun f => f)
  have g8 := fm1.keep w.new.new gnew (fun f => f)
  rw [hp8] at g8
  have s8 := w1.lt g8
  clear rd_b
  by_cases hok : okR F D
  case neg =>
    have e1 : chkR F D = 1 := if_neg hok
    simp +contextual (disch := omega) only [↓AM, ↓AV, AP, CQ, i64, hp8, e1, g8, rdp_n11]
    exact TrPost.no (by simp [TE, hok]) (by decide) (fm.put fun hlt => absurd hlt (by omega))
  have e1 : chkR F D = 0 := if_pos hok
  have hF := hok.1
  have r4 := rd_mk g4 (i := 0)
  have eF : IntKind.u8.wrap F = F := u8 (by omega)
  simp only [List.getElem?_cons_zero, List.getElem?_cons_succ] at r4
  rw [if_pos hok, show 144 * (600 * F - 9 * missN F D) = dayN F D from rfl]
  obtain ⟨p12, hp12⟩ : ∃ p, (h1.new ⟨[.int .u8 F, .int .u8 0], .own⟩).size = p := ⟨_, rfl⟩
  have sA : h1.size < p12 := by rw [← hp12]; exact Nat.lt_succ_self _
  simp +contextual (disch := omega) only [↓AM, ↓AV, AP, CQ, i64, hp8, e1, r4, eF]
  simp only [hp12]
  have gk : ∀ x o o', x < h1.size → ((h1.new o).new o').get x = h1.get x := fun x o o' hx => (get_new (Nat.lt_succ_of_lt hx)).trans (get_new hx)
  have g12 : ((h1.new ⟨[.int .u8 F, .int .u8 0], .own⟩).new ⟨trC id sc (some ⟨h1.size, 0, none⟩) none 0 0, .own⟩).get p12 = some ⟨trC id sc (some ⟨h1.size, 0, none⟩) none 0 0, .own⟩ := by rw [← hp12]; exact gnew
  have gS : ((h1.new ⟨[.int .u8 F, .int .u8 0], .own⟩).new ⟨trC id sc (some ⟨h1.size, 0, none⟩) none 0 0, .own⟩).get h1.size = some ⟨[.int .u8 F, .int .u8 0], .own⟩ := (get_new (Nat.lt_succ_self _)).trans gnew
  have wC := w1.new (o := ⟨[.int .u8 F, .int .u8 0], .own⟩) |>.new (o := ⟨trC id sc (some ⟨h1.size, 0, none⟩) none 0 0, .own⟩)
  have fmC : Fm No h ((h1.new ⟨[.int .u8 F, .int .u8 0], .own⟩).new ⟨trC id sc (some ⟨h1.size, 0, none⟩) none 0 0, .own⟩) := fm.new.new
  have g4 := (gk h.size ⟨[.int .u8 F, .int .u8 0], .own⟩ ⟨trC id sc (some ⟨h1.size, 0, none⟩) none 0 0, .own⟩ (by omega)).trans g4
  have g8 := (gk p8 ⟨[.int .u8 F, .int .u8 0], .own⟩ ⟨trC id sc (some ⟨h1.size, 0, none⟩) none 0 0, .own⟩ (by omega)).trans g8
  simp only [trC] at g12 gS g4 g8 wC fmC ⊢
  generalize (h1.new ⟨[.int .u8 F, .int .u8 0], .own⟩).new ⟨_, .own⟩ = hC at *
  have r4 := rd_mk g4 (i := 1)
  have q4 := rd_mk g12 (i := 4)
  simp only [List.getElem?_cons_zero, List.getElem?_cons_succ] at r4 q4
  refine WC.mk (fun t' h' => Wf h' ∧ Fm No h h' ∧ h'.get p8 = some ⟨zC, .own⟩ ∧ h'.get h1.size = some ⟨[F, dropI D].map (Value.int .u8), .own⟩ ∧ h'.get p12 = some ⟨trC id sc (some ⟨h1.size, 0, none⟩) none 0 0, .own⟩ ∧
      t' = [(3, some (.slice a n c)), (8, some (.pointer (some ⟨p8, 0, none⟩))), (10, some (.int .i64 (dayN F D))), (12, some (.pointer (some ⟨p12, 0, none⟩)))]) ?_ ?_
  · cases D
    · simp +contextual (disch := omega) only [↓AM, ↓AV, AP, CQ, i64, r4]
      exact ⟨wC, fmC, g8, gS, g12⟩
    · simp +contextual (disch := omega) only [↓AM, ↓AV, AP, CQ, i64, r4, q4, gS]
      exact ⟨by decide, wC.put (wC.lt gS), fmC.put (fun hlt => absurd hlt (by omega)), (get_put (by omega)).trans g8, rfl, (get_put (by omega)).trans g12⟩
  rintro t hA ⟨wA, fmA, g8, gS, g12, rfl⟩
  simp +contextual (disch := omega) only [↓AM, ↓AV, AP, CQ, i64]
  refine WL.mk (fun k t h' => Wf h' ∧ Fm No h h' ∧ h'.get p8 = some ⟨zC, .own⟩ ∧ h'.get h1.size = some ⟨[F, dropI D].map (Value.int .u8), .own⟩ ∧
      ∃ i : Nat, i ≤ n ∧ k = n - i ∧ gE (dayN F D) ss = gE (dayN F D) (ss.drop i) ∧ ∃ qa qc qr, h'.get p12 = some ⟨trC id sc (some ⟨h1.size, 0, none⟩) qa i qc, .own⟩ ∧ (∀ x, At qa x → p12 < x) ∧ Ow h' 6 qa i qc qr ∧ AKd.Row (SpB h' qa) ((xsOf ss).take i) qr ∧
      t = [(3, some (.slice a n c)), (8, some (.pointer (some ⟨p8, 0, none⟩))), (10, some (.int .i64 (dayN F D))), (12, some (.pointer (some ⟨p12, 0, none⟩))), (13, some (.int .i64 i))])
    ⟨n, wA, fmA, g8, gS, 0, by omega, rfl, rfl, none, 0, [], g12, fun x hx => absurd hx At.none, Ow.mk0, rfl, rfl⟩ ?_
  rintro k t hL ⟨wL, fmL, g8, gS, i, hi, rfl, hgE, qa, qc, qr, g12, hq, ow, rows, rfl⟩
  have l8 := wL.lt g8
  have l12 := wL.lt g12
  have hd := miss_b D hF
  have hdN : dayN F D = 144 * (600 * F - 9 * missN F D) := rfl
  by_cases hin : i < n
  · obtain ⟨b1, o1, s1, y, cy, rfl, f1, hy, ay, r1, r2⟩ := row_el (A := smpK.A h) (z := 6) (fun x cs a => smpK.alen a) (rd.keepW w fmL nNo) row hl hin
    obtain ⟨pa, pc, da, dc, rfl, -, -, -, -⟩ := smp_open ay
    rw [gE_step hy] at hgE
    have r0 := r2 0 _ rfl
    simp only [Nat.add_zero] at r0
    simp +contextual (disch := omega) only [↓AM, ↓AV, AP, CQ, CR, i64, hin, f1, r0]
    refine c_in20.use ?_
    rintro _ hM wM ⟨rfl, rfl⟩
    have g8n := g8
    simp only [zC] at g8n
    by_cases hday : 0 ≤ y.dts ∧ y.dts ≤ dayN F D - 1
    case neg =>
      simp +contextual (disch := omega) only [↓AM, ↓AV, AP, CQ, CR, i64, hday, g8n, rdp_n11]
      rw [if_pos (by omega)] at hgE
      exact TrPost.no (by simp [TE, hok, hgE]) (by decide) (fmL.put fun hlt => absurd hlt (by omega))
    have q5 := r2 5 _ rfl
    have q1 := r2 1 _ rfl
    have q2 := r2 2 _ rfl
    have q10 := rd_mk g12 (i := 10)
    simp only [trC, List.getElem?_cons_zero, List.getElem?_cons_succ] at q10
    by_cases hdat : (0 : Int) < (y.data.length : Int)
    · simp +contextual (disch := omega) only [↓AM, ↓AV, AP, CQ, CR, i64, hday, hin, f1, hdat, q5, g8n, rdp_n11]
      rw [if_neg (by omega), if_pos (by omega)] at hgE
      exact TrPost.no (by simp [TE, hok, hgE]) (by decide) (fmL.put fun hlt => absurd hlt (by omega))
    rw [if_neg (by omega), if_neg (by omega)] at hgE
    have hge : 0 ≤ y.dts := hday.1
    have b1L : b1 < hM.size := rdN_wf wL r1
    have q1n : ∀ o, (hM.new o).rd b1 (o1 + i * 6 + 1) = some (.int .i64 y.pts) := fun o => (rd_keep (get_new b1L)).trans q1
    have q2n : ∀ o, (hM.new o).rd b1 (o1 + i * 6 + 2) = some (.int .i64 y.dur) := fun o => (rd_keep (get_new b1L)).trans q2
    have q10n : ∀ o, (hM.new o).rd p12 10 = some (.slice qa i qc) := fun o => (rd_keep (get_new l12)).trans q10
    simp +contextual (disch := omega) only [↓AM, ↓AV, AP, CQ, CR, i64, hday, hin, f1, hdat, q5, q1n, q2n, q10n, shr_24, shr_16, shr_8, u8_mod]
    refine (ow.keep (F := No) wM (Fm.new Fm.refl) (fun _ _ f => f)).push (m := 1) wM.new rfl ?_ fun oa' cap' h6 o6 w6 f6 n6 => ?_
    · omega
    have nq : ∀ x, x ≤ p12 → ¬ At qa x := fun x hx ha => absurd (hq x ha) (by omega)
    have g12n := f6.keep wM.new ((get_new l12).trans g12) (nq _ (Nat.le_refl _))
    simp only [trC] at g12n
    have q10m := rd_mk g12n (i := 10)
    simp only [List.getElem?_cons_zero, List.getElem?_cons_succ] at q10m
    simp +contextual (disch := omega) only [↓AM, ↓AV, AP, CQ, CR, i64, g12n, q10m]
    have fmK : ∀ x o, x < hM.size → ¬ At qa x → x ≠ p12 → hM.get x = some o → ∀ o', (h6.put p12 o').get x = some o := fun x o hx ha hp hg o' =>
      (get_put hp).trans (f6.keep wM.new ((get_new hx).trans hg) ha)
    have nq' : ∀ x, At oa' x → At qa x ∨ hM.size < x := fun x hx => (n6 x hx).imp (fun f => f) fun hs => hs
    refine ⟨_, by omega, w6.put (w6.lt g12n), ?_, fmK _ _ l8 (nq _ (by omega)) (by omega) g8 _, fmK _ _ (wM.lt gS) (nq _ (by omega)) (by omega) gS _, i + 1, by omega, rfl, hgE, oa', cap', qr ++ spC (y.pts, y.dur, y.dts) hM.size, rfl, ?_, ?_, ?_, rfl⟩
    · exact ((fmL.new).trans f6 fun x hx ha => absurd ha (nq x (by omega))).put fun hlt => absurd hlt (by omega)
    · intro x hx
      rcases nq' x hx with ha | hs
      · exact hq x ha
      · omega
    · refine o6.keep (F := fun x => x = p12) w6 (Fm.put Fm.refl fun _ => rfl) ?_
      rintro x hx rfl
      rcases nq' _ hx with ha | hs
      · exact nq _ (Nat.le_refl _) ha
      · omega
    · have hxs : (xsOf ss).take (i + 1) = (xsOf ss).take i ++ [(y.pts, y.dur, y.dts)] := by
        rw [List.take_add_one]; simp [xsOf, hy]
      rw [hxs]
      refine row_snoc (rows.mono ?_) ?_
      · rintro x cs ⟨b, rfl, hb, hnb⟩
        have hlt := wM.lt hb
        refine ⟨b, rfl, fmK b _ hlt hnb ?_ hb _, ?_⟩
        · rintro rfl
          rw [g12] at hb
          cases hb
        · intro hx
          rcases nq' b hx with ha | hs
          · exact hnb ha
          · omega
      · refine ⟨hM.size, rfl, (get_put (by omega)).trans (f6.keep wM.new gnew ?_), ?_⟩
        · intro ha
          have := ow.lt wM _ ha
          omega
        · intro hx
          rcases nq' _ hx with ha | hs
          · have := ow.lt wM _ ha
            omega
          · omega
  · have r12 : hL.rdN p12 0 11 = some (trC id sc (some ⟨h1.size, 0, none⟩) qa i qc) := rdN_mk g12 (off := 0) (m := 11) (Nat.le_refl 11)
    have : i = n := by omega
    subst this
    have hx : (xsOf ss).take i = xsOf ss := List.take_of_length_le (by simp [xsOf]; omega)
    rw [hx] at rows
    simp only [trC] at r12
    simp +contextual (disch := omega) only [↓AM, ↓AV, AP, CQ, CR, i64, hin, r12]
    refine (c_rtrack ow.rd (rows.mono fun x cs a => a.a) (by simp [xsOf]; omega) (by omega)).use ?_
    rintro _ h4 w4 ⟨rfl, fm4⟩
    have g8' := fm4.keep wL g8 (fun f => f)
    have g12' := fm4.keep wL g12 (fun f => f)
    simp only [zC] at g8'
    have fmh := fmL.trans fm4 fun _ _ f => f
    have hTE : trE id sc (xsOf ss) = TE F D id sc ss := by
      rw [List.drop_eq_nil_of_le (by omega)] at hgE
      simp only [TE, if_pos hok, hgE]
      rfl
    by_cases he : trE id sc (xsOf ss) = 0
    · have r12' : h4.rdN p12 0 11 = some (trC id sc (some ⟨h1.size, 0, none⟩) qa i qc) := rdN_mk g12' (off := 0) (m := 11) (Nat.le_refl 11)
      simp only [trC] at r12'
      simp +contextual (disch := omega) only [↓AM, ↓AV, AP, CQ, CR, i64, he, r12', g8', rdp_n11]
      have fmF := fmh.put (o := ⟨trC id sc (some ⟨h1.size, 0, none⟩) qa i qc, .own⟩) (b := p8) fun hlt => absurd hlt (by omega)
      have keepA : ∀ {x o}, hL.get x = some o → x ≠ p8 → ∀ o', (h4.put p8 o').get x = some o := fun hg hx o' => (get_put hx).trans (fm4.keep wL hg (fun f => f))
      refine ⟨trC id sc (some ⟨h1.size, 0, none⟩) qa i qc, 0, rfl, by rw [← hTE, he], fmF, fun h => absurd rfl h, fun _ => ⟨some ⟨h1.size, 0, none⟩, qa, qc, qr, by rw [hl], ?_, ?_, ?_⟩⟩
      · exact Rd.of rfl (rdN_mk (keepA gS (by omega) _) (Nat.le_refl 2))
      · rw [hl]
        refine (ow.rd.keepW wL fm4 nNo).keep (F := fun x => x = p8) w4 (Fm.put Fm.refl fun _ => rfl) ?_
        rintro x hx rfl
        have := hq _ hx
        omega
      · refine rows.mono ?_
        rintro x cs ⟨b, rfl, hb, _⟩
        refine ⟨b, rfl, keepA hb ?_ _⟩
        rintro rfl
        rw [g8] at hb
        cases hb
    · have he' : EqI (trE id sc (xsOf ss)) 0 = False := eq_false he
      simp +contextual (disch := omega) only [↓AM, ↓AV, AP, CQ, CR, i64, he', g8', rdp_n11]
      exact TrPost.no hTE he (fmh.put fun hlt => absurd hlt (by omega))
end Go.Proofs.Ytnibipabfdalcaa.Md
