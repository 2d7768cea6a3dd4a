/- Tracks of codes checked: the whole. Plain theorems over the abstract machine.
   Conditions: none. -/
import Derived.Test.YtnibipabfdalcaaMdC
namespace Go.Proofs.Ytnibipabfdalcaa.Md
open Go Go.RowKit Go.Proofs.Ytnibipabfdalcaa.Am Go.Proofs.Ytnibipabfdalcaa.Af
set_option linter.unusedVariables false
set_option linter.unusedSimpArgs false
set_option linter.defProp false
set_option maxRecDepth 20000
set_option maxHeartbeats 2000000

theorem drop_el {α : Type} {xs : List α} {i : Nat} {x : α} (h : xs[i]? = some x) : xs.drop i = x :: xs.drop (i + 1) := by
  obtain ⟨h1, h2⟩ := List.getElem?_eq_some_iff.1 h
  rw [List.drop_eq_getElem_cons h1, h2]
theorem wE_step {xs : List Sp} {i : Nat} {x : Sp} (h : xs[i]? = some x) : wE (prevP xs i) (xs.drop i) = if sE (prevP xs i) x = 0 then wE (prevP xs (i + 1)) (xs.drop (i + 1)) else sE (prevP xs i) x := by
  rw [drop_el h, show prevP xs (i + 1) = some x.1 by simp [prevP, h]]
  rfl
theorem SpA.ex {h h' : Hp} {x : Sp} {cs : List Value} (x0 : Ex h h') (a : SpA h x cs) : SpA h' x cs := by
  obtain ⟨b, e, g⟩ := a
  exact ⟨b, e, x0 _ _ g⟩
theorem nNo {h : Hp} : ∀ x, x < h.size → ¬ No x := fun _ _ f => f
theorem c_mtrack {h : Hp} {id sc : Int} {sa qa : Option Addr} {n qc : Nat} {xs : List Sp} {qr : List Value} (rd : Rd h 6 qa n qr) (row : AKd.Row (SpA h) xs qr) (hl : xs.length = n) (hn : n ≤ 1000000) :
    ACalls Try.prog 17 [.agg (trC id sc sa qa n qc).toArray] h fun v h' => v = .int .i64 (trE id sc xs) ∧ Fm No h h' := by
  refine model_CheckTrack_ok.snd hm rfl fun w => ?_
  rw [WF_eq, model_CheckTrack, trC]
  simp +contextual (disch := omega) only [↓AM, ↓AV, AP, CQ, i64]
  refine c_mwithin.use ?_
  rintro _ _ w1 ⟨rfl, rfl⟩
  have fm : Fm No h (h.new ⟨trC id sc sa qa n qc, .own⟩) := Fm.new Fm.refl
  by_cases h1 : 1 ≤ id ∧ id ≤ 1000
  case neg =>
    simp +contextual (disch := omega) only [↓AM, ↓AV, AP, CQ, i64, h1]
    exact ⟨by simp [trE, h1], fm⟩
  have d6 : ((1 : Int) ≤ 6 ∧ (6 : Int) ≤ 7) = True := by simp
  have d0 : ((0 : Int) ≤ 1099511627776) = True := by simp
  simp +contextual (disch := omega) only [↓AM, ↓AV, AP, CQ, i64, h1]
  refine c_mwithin.use ?_
  rintro _ _ w1 ⟨rfl, rfl⟩
  simp +contextual (disch := omega) only [↓AM, ↓AV, AP, CQ, i64, d6]
  refine c_l1.use ?_
  rintro _ _ w1 ⟨rfl, rfl⟩
  simp +contextual (disch := omega) only [↓AM, ↓AV, AP, CQ, i64]
  refine c_mwithin.use ?_
  rintro _ _ w1 ⟨rfl, rfl⟩
  by_cases h2 : 1 ≤ sc ∧ sc ≤ 1000000
  case neg =>
    simp +contextual (disch := omega) only [↓AM, ↓AV, AP, CQ, i64, h2]
    exact ⟨by simp [trE, h2], fm⟩
  simp +contextual (disch := omega) only [↓AM, ↓AV, AP, CQ, i64, h2]
  refine c_l2.use ?_
  rintro _ _ w1 ⟨rfl, rfl⟩
  simp +contextual (disch := omega) only [↓AM, ↓AV, AP, CQ, i64]
  refine c_l3.use ?_
  rintro _ _ w1 ⟨rfl, rfl⟩
  simp +contextual (disch := omega) only [↓AM, ↓AV, AP, CQ, i64]
  refine c_mwithin.use ?_
  rintro _ _ w1 ⟨rfl, rfl⟩
  simp +contextual (disch := omega) only [↓AM, ↓AV, AP, CQ, i64, d0]
  have e00 : ((0 : Int) < (((0 : Nat) : Int))) = False := by simp
  refine WL.mk (fun k t h' => h' = h.new ⟨trC id sc sa qa n qc, .own⟩ ∧ t = [(1, some (.pointer (some ⟨h.size, 0, none⟩))), (53, some (.slice none 0 0)), (54, some (.int .i64 ((0 : Nat) : Int))), (55, some (.int .i64 0))])
    ⟨0, rfl, rfl⟩ ?_
  rintro k t _ ⟨rfl, rfl⟩
  by_cases h4 : (400 : Int) < (n : Int)
  · simp +contextual (disch := omega) only [↓AM, ↓AV, AP, CQ, CR, i64, e00, trC, h4]
    exact ⟨by simp [trE, h1, h2, show 400 < xs.length by omega], fm⟩
  simp +contextual (disch := omega) only [↓AM, ↓AV, AP, CQ, CR, i64, e00, trC, h4]
  refine WL.mk (fun k t h' => h' = h.new ⟨trC id sc sa qa n qc, .own⟩ ∧ t = [(1, some (.pointer (some ⟨h.size, 0, none⟩))), (5, some (.int .i64 0)), (87, some (.slice none 0 0)), (88, some (.int .i64 ((0 : Nat) : Int))), (89, some (.int .i64 0))])
    ⟨0, rfl, rfl⟩ ?_
  rintro k t _ ⟨rfl, rfl⟩
  have e40 : ((1099511627776 : Int) < 0) = False := by simp
  simp +contextual (disch := omega) only [↓AM, ↓AV, AP, CQ, CR, i64, e00, e40, trC]
  have hE : trE id sc xs = wE (prevP xs 0) (xs.drop 0) := by simp [trE, h1, h2, show ¬ 400 < xs.length by omega, prevP]
  refine WL.mk (fun k t h' => Wf h' ∧ Fm No (h.new ⟨trC id sc sa qa n qc, .own⟩) h' ∧ ∃ i : Nat, i ≤ n ∧ k = n - i ∧ trE id sc xs = wE (prevP xs i) (xs.drop i) ∧
      t = [(1, some (.pointer (some ⟨h.size, 0, none⟩))), (140, some (.slice qa n qc)), (141, some (.int .i64 (n : Int))), (142, some (.int .i64 i))])
    ⟨n, w.new, Fm.refl, 0, by omega, rfl, hE, rfl⟩ ?_
  rintro k t hL ⟨wL, fm1, i, hi, rfl, hE, rfl⟩
  have hg := fm1.keep w.new gnew (fun f => f)
  have hr : hL.rdN h.size 0 11 = some (trC id sc sa qa n qc) := rdN_mk hg (Nat.le_refl 11)
  have fm2 := fm.trans fm1 (fun _ _ f => f)
  by_cases hin : i < n
  · obtain ⟨b1, o1, s1, y, c, rfl, f1, hy, ⟨b2, rfl, g2⟩, r1, r2⟩ := row_el (A := SpA h) (fun x cs a => a.len) (rd.keepW w fm2 (fun _ _ f => f)) row hl hin
    simp only [spC] at r1
    simp only [trC] at hr
    have hr2 : ∀ o, (hL.new o).rdN h.size 0 11 = some (trC id sc sa (some ⟨b1, o1, s1⟩) n qc) := fun o => by rw [rdN_keep (get_new (wL.lt hg))]; exact hr
    simp only [trC] at hr2
    simp +contextual (disch := omega) only [↓AM, ↓AV, AP, CQ, CR, i64, hin, f1, r1, hr2]
    have fm3 : Fm No h (hL.new ⟨spC y b2, .own⟩) := Fm.new fm2
    refine (c_chkS (b := b2) (i := i) (rd.keepW w fm3 nNo) (row.mono fun x cs a => a.ex (fm3.exF w nNo)) hl hy hn).use ?_
    rintro _ h2 w2 ⟨rfl, fm4⟩
    rw [wE_step hy] at hE
    have fm5 := fm3.trans fm4 fun _ _ f => f
    by_cases he : sE (prevP xs i) y = 0
    · simp +contextual (disch := omega) only [↓AM, ↓AV, AP, CQ, CR, i64, he]
      rw [if_pos he] at hE
      exact ⟨_, by omega, w2, (Fm.new fm1).trans fm4 fun _ _ f => f, i + 1, by omega, rfl, hE, rfl⟩
    · rw [if_neg he] at hE
      have he' : EqI (sE (prevP xs i) y) 0 = False := eq_false he
      simp +contextual (disch := omega) only [↓AM, ↓AV, AP, CQ, CR, i64, he']
      exact ⟨by rw [hE], fm5⟩
  · simp +contextual (disch := omega) only [↓AM, ↓AV, AP, CQ, CR, i64, hin]
    have : xs.drop i = [] := List.drop_eq_nil_of_le (by omega)
    rw [this] at hE
    exact ⟨by rw [hE]; rfl, fm2⟩
theorem c_rfields {h : Hp} {id sc : Int} {sa qa : Option Addr} {n qc : Nat} :
    ACalls Try.prog 53 [.agg (trC id sc sa qa n qc).toArray] h fun v h' => v = .bool (decide ((1 ≤ id ∧ id ≤ 1000) ∧ (1 ≤ sc ∧ sc ≤ 1000000))) ∧ Fm No h h' := by
  refine dioramaref03_fields_ok.snd hm rfl fun w => ?_
  rw [WF_eq, dioramaref03_fields, trC]
  simp +contextual (disch := omega) only [↓AM, ↓AV, AP, CQ, i64]
  refine c_in03.use ?_
  rintro _ _ w1 ⟨rfl, rfl⟩
  have fm : Fm No h (h.new ⟨trC id sc sa qa n qc, .own⟩) := Fm.new Fm.refl
  by_cases h1 : 1 ≤ id ∧ id ≤ 1000
  case neg =>
    simp +contextual (disch := omega) only [↓AM, ↓AV, AP, CQ, i64, h1]
    exact fm
  have d6 : ((1 : Int) ≤ 6 ∧ (6 : Int) ≤ 7) = True := by simp
  have d0 : ((0 : Int) ≤ 1099511627776) = True := by simp
  simp +contextual (disch := omega) only [↓AM, ↓AV, AP, CQ, i64, h1]
  refine c_in03.use ?_
  rintro _ _ w1 ⟨rfl, rfl⟩
  simp +contextual (disch := omega) only [↓AM, ↓AV, AP, CQ, i64, d6]
  refine c_l4.use ?_
  rintro _ _ w1 ⟨rfl, rfl⟩
  simp +contextual (disch := omega) only [↓AM, ↓AV, AP, CQ, i64]
  refine c_in03.use ?_
  rintro _ _ w1 ⟨rfl, rfl⟩
  by_cases h2 : 1 ≤ sc ∧ sc ≤ 1000000
  case neg =>
    simp +contextual (disch := omega) only [↓AM, ↓AV, AP, CQ, i64, h2]
    exact fm
  simp +contextual (disch := omega) only [↓AM, ↓AV, AP, CQ, i64, h2]
  refine c_l5.use ?_
  rintro _ _ w1 ⟨rfl, rfl⟩
  simp +contextual (disch := omega) only [↓AM, ↓AV, AP, CQ, i64]
  refine c_l6.use ?_
  rintro _ _ w1 ⟨rfl, rfl⟩
  simp +contextual (disch := omega) only [↓AM, ↓AV, AP, CQ, i64]
  refine c_in03.use ?_
  rintro _ _ w1 ⟨rfl, rfl⟩
  simp +contextual (disch := omega) only [↓AM, ↓AV, AP, CQ, i64, d0]
  have e00 : ((0 : Int) < (((0 : Nat) : Int))) = False := by simp
  refine WL.mk (fun k t h' => h' = h.new ⟨trC id sc sa qa n qc, .own⟩ ∧ t = [(1, some (.pointer (some ⟨h.size, 0, none⟩))), (3, some (.int .i64 0))])
    ⟨0, rfl, rfl⟩ ?_
  rintro k t _ ⟨rfl, rfl⟩
  simp +contextual (disch := omega) only [↓AM, ↓AV, AP, CQ, CR, i64, e00, trC]
  exact ⟨by simp [h1, h2], fm⟩
theorem c_redits {h : Hp} : ACalls Try.prog 54 [.slice none 0 0] h fun v h' => v = .bool true ∧ h' = h := by
  refine dioramaref03_edits_ok.snd hm rfl fun w => ?_
  rw [WF_eq, dioramaref03_edits]
  simp +contextual (disch := omega) only [↓AM, ↓AV, AP, CQ, i64]
  have e00 : ((0 : Int) < (((0 : Nat) : Int))) = False := by simp
  have d0 : ((0 : Int) ≤ 1099511627776) = True := by simp
  refine WL.mk (fun k t h' => h' = h ∧ t = [(0, some (.slice none 0 0)), (3, some (.int .i64 0)), (4, some (.int .i64 0))])
    ⟨0, rfl, rfl⟩ ?_
  rintro k t _ ⟨rfl, rfl⟩
  simp +contextual (disch := omega) only [↓AM, ↓AV, AP, CQ, CR, i64, e00]
  simp
theorem c_rtrack {h : Hp} {id sc : Int} {sa qa : Option Addr} {n qc : Nat} {xs : List Sp} {qr : List Value} (rd : Rd h 6 qa n qr) (row : AKd.Row (SpA h) xs qr) (hl : xs.length = n) (hn : n ≤ 1000000) :
    ACalls Try.prog 20 [.agg (trC id sc sa qa n qc).toArray] h fun v h' => v = .int .i64 (trE id sc xs) ∧ Fm No h h' := by
  refine dioramaref03_CheckTrack_ok.snd hm rfl fun w => ?_
  rw [WF_eq, dioramaref03_CheckTrack, trC]
  simp +contextual (disch := omega) only [↓AM, ↓AV, AP, CQ, i64]
  refine c_rfields.use ?_
  rintro _ h0 w0 ⟨rfl, fm0⟩
  have fm : Fm No h h0 := (Fm.new (o := ⟨trC id sc sa qa n qc, .own⟩) (Fm.refl (F := No) (h := h))).trans fm0 fun _ _ f => f
  have hg0 := fm0.keep w.new gnew (fun f => f)
  have hs0 := w0.lt hg0
  by_cases h1 : (1 ≤ id ∧ id ≤ 1000) ∧ (1 ≤ sc ∧ sc ≤ 1000000)
  case neg =>
    simp +contextual (disch := omega) only [↓AM, ↓AV, AP, CQ, i64, h1]
    exact ⟨by simp only [trE, if_neg h1], fm⟩
  have q4 := rd_mk hg0 (i := 4)
  have q8 := rd_mk hg0 (i := 8)
  have q9 := rd_mk hg0 (i := 9)
  have q10 := rd_mk hg0 (i := 10)
  simp only [trC, List.getElem?_cons_zero, List.getElem?_cons_succ] at q4 q8 q9 q10
  by_cases h4 : (400 : Int) < (n : Int)
  · simp +contextual (disch := omega) only [↓AM, ↓AV, AP, CQ, CR, i64, h1, q4, q8, q9, q10, h4]
    exact ⟨by simp [trE, h1, show 400 < xs.length by omega], fm⟩
  simp +contextual (disch := omega) only [↓AM, ↓AV, AP, CQ, CR, i64, h1, q4, q8, q9, q10, h4]
  refine c_redits.use ?_
  rintro _ _ w1 ⟨rfl, rfl⟩
  simp +contextual (disch := omega) only [↓AM, ↓AV, AP, CQ, CR, i64]
  have hE : trE id sc xs = wE (prevP xs 0) (xs.drop 0) := by simp [trE, h1, show ¬ 400 < xs.length by omega, prevP]
  refine WL.mk (fun k t h' => Wf h' ∧ Fm No (h.new ⟨trC id sc sa qa n qc, .own⟩) h' ∧ ∃ i : Nat, i ≤ n ∧ k = n - i ∧ trE id sc xs = wE (prevP xs i) (xs.drop i) ∧ ∃ q : Int, prevP xs i = (if i = 0 then none else some q) ∧
      t = [(1, some (.pointer (some ⟨h.size, 0, none⟩))), (3, some (.int .i64 q)), (4, some (.int .i64 i))])
    ⟨n, w0, fm0, 0, by omega, rfl, hE, 0, rfl, rfl⟩ ?_
  rintro k t hL ⟨wL, fm1, i, hi, rfl, hE, q, hq, rfl⟩
  have hg := fm1.keep w.new gnew (fun f => f)
  have fmn : Fm No h (h.new ⟨trC id sc sa qa n qc, .own⟩) := Fm.new Fm.refl
  have fm2 := fmn.trans fm1 (fun _ _ f => f)
  have q10 := rd_mk hg (i := 10)
  simp only [trC, List.getElem?_cons_zero, List.getElem?_cons_succ] at q10
  by_cases hin : i < n
  · obtain ⟨b1, o1, s1, y, c, rfl, f1, hy, ⟨b2, rfl, g2⟩, r1, r2⟩ := row_el (A := SpA h) (fun x cs a => a.len) (rd.keepW w fm2 nNo) row hl hin
    simp only [spC] at r1
    simp +contextual (disch := omega) only [↓AM, ↓AV, AP, CQ, CR, i64, hin, f1, r1, q10]
    refine (c_rsmp (b := b2) (i := i) hq (by omega)).use ?_
    rintro _ h3 w3 ⟨rfl, fm4⟩
    rw [wE_step hy] at hE
    have fm5 := fm2.trans fm4 fun _ _ f => f
    have fm6 := fm1.trans fm4 fun _ _ f => f
    by_cases he : sE (prevP xs i) y = 0
    · have q10 := rd_mk (fm6.keep w.new gnew (fun f => f)) (i := 10)
      simp only [trC, List.getElem?_cons_zero, List.getElem?_cons_succ] at q10
      have hr0 := fm4.exF wL nNo |>.rd (r2 0 (.int .i64 y.1) rfl)
      simp only [Nat.add_zero] at hr0
      simp +contextual (disch := omega) only [↓AM, ↓AV, AP, CQ, CR, i64, he, q10, hin, f1, hr0]
      rw [if_pos he] at hE
      exact ⟨_, by omega, w3, fm6, i + 1, by omega, rfl, hE, y.1, by simp [prevP, hy], rfl⟩
    · rw [if_neg he] at hE
      have he' : EqI (sE (prevP xs i) y) 0 = False := eq_false he
      simp +contextual (disch := omega) only [↓AM, ↓AV, AP, CQ, CR, i64, he']
      exact ⟨by rw [hE], fm5⟩
  · simp +contextual (disch := omega) only [↓AM, ↓AV, AP, CQ, CR, i64, hin, q10]
    have : xs.drop i = [] := List.drop_eq_nil_of_le (by omega)
    rw [this] at hE
    exact ⟨by rw [hE]; rfl, fm2⟩
end Go.Proofs.Ytnibipabfdalcaa.Md
