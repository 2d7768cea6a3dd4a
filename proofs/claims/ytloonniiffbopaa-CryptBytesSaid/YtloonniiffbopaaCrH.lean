/- The document's marks. Plain theorems over the abstract machine.
   Conditions: none. -/
import Derived.Test.YtloonniiffbopaaCrG
namespace Go.Proofs.Ytloonniiffbopaa.Cr
open Go Go.RowKit Go.Proofs.Ytloonniiffbopaa.Am Go.Proofs.Ytloonniiffbopaa.Af
set_option linter.unusedVariables false
set_option linter.unusedSimpArgs false
set_option maxRecDepth 20000

theorem mint (l : List Int) (x : Int) : (l ++ [x]).map (Value.int .i64) = l.map (Value.int .i64) ++ [.int .i64 x] := by simp
theorem sum_mono (ps : List (Nat × Nat)) (i : Nat) : sumP (ps.take i) ≤ sumP ps := by
  have : sumP ps = sumP (ps.take i) + sumP (ps.drop i) := by
    have e := List.take_append_drop i ps
    generalize ps.take i = a at e ⊢
    generalize ps.drop i = b at e ⊢
    subst e
    simp [sumP]
  omega
theorem c_marks {h : Hp} {l : Lk} {oa : Option Addr} {cc c t n : Nat} {ps : List (Nat × Nat)} (r : Rd h 2 oa l.parts.length (l.parts.flatMap partC)) (g : Gk l c t ps) (hn : n ≤ 1000000) :
    ACalls Try.prog 32 [lockV l oa cc, .int .i64 n] h fun v h' => ∃ a k cap, v = .tuple #[.slice a k cap, .bool (decide (sumP (prts ps n) = n))] ∧
      (sumP (prts ps n) = n → k = n ∧ Ow h' 1 a n cap ((mparts c t (prts ps n)).1.map (Value.int .i64))) ∧ Nw h a ∧ Fm No h h' := by
  refine dioramaref21_marks_ok.snd hm rfl fun w => ?_
  rw [WF_eq, dioramaref21_marks, lockV]
  have hlen := g.len
  have hpl : l.parts.length = ps.length := by rw [g.parts]; simp
  have hpc : l.parts.flatMap partC = ps.flatMap natC := by rw [g.parts, part_nat]
  rw [hpl, hpc] at r
  have hc10 := g.c10
  have ht10 := g.t10
  simp +contextual only [↓AM, ↓AV, AP, hpl, g.crypt, g.skip]
  have wi : Within (prts ps n) 1000000 := prts_within g.len (fun p hp => by have := g.bd p hp; omega) hn
  refine WC.mk (fun t' h' => Wf h' ∧ Fm No h h' ∧ h'.get h.size = some ⟨[.int .i64 l.key, .int .i64 l.nonce, .int .i64 c, .int .i64 t, .slice oa ps.length cc], .own⟩ ∧ ∃ pa pc, Rd h' 2 pa (prts ps n).length ((prts ps n).flatMap natC) ∧ t' = [(1, some (.int .i64 n)), (2, some (.pointer (some ⟨h.size, 0, none⟩))), (6, some (.slice pa (prts ps n).length pc))]) ?_ ?_
  · simp +contextual only [↓AM, ↓AV, AP]
    refine ⟨fun h0 => ?_, fun h0 => ?_⟩
    · have : ps = [] := List.length_eq_zero_iff.1 (by unfold EqI at h0; omega)
      subst this
      have w1 : Wf (h.new ⟨[.int .i64 l.key, .int .i64 l.nonce, .int .i64 c, .int .i64 t, .slice oa ([] : List (Nat × Nat)).length cc], .own⟩) := w.new
      refine ⟨w1.new, Fm.new (Fm.new Fm.refl), ?_, some ⟨h.size + 1, 0, none⟩, 1, ?_, rfl⟩
      · exact (get_new (Nat.lt_succ_self _)).trans gnew
      · have := (Ow.new (h := h.new ⟨[.int .i64 l.key, .int .i64 l.nonce, .int .i64 c, .int .i64 t, .slice oa ([] : List (Nat × Nat)).length cc], .own⟩) (z := 2) (n := 1) (m := 1) (cs := [.int .i64 0, .int .i64 n]) rfl (Nat.le_refl _)).rd
        exact this
    · have : ps ≠ [] := fun e => h0 (by subst e; rfl)
      have fm0 : Fm No h (h.new ⟨[.int .i64 l.key, .int .i64 l.nonce, .int .i64 c, .int .i64 t, .slice oa ps.length cc], .own⟩) := Fm.new Fm.refl
      refine ⟨w.new, fm0, oa, cc, ?_, ?_⟩
      · rw [prts, if_neg this]; exact r.keep w fm0 (fun _ _ => id)
      · rw [prts, if_neg this]
  rintro t0 h1 ⟨w1, fm1, hg1, pa, pc, rp, rfl⟩
  simp +contextual only [↓AM, ↓AV, AP]
  generalize hps : prts ps n = P at rp wi
  have hP40 := wi.len
  refine WL.mk (fun k t' h' => Wf h' ∧ Fm No h1 h' ∧ ∃ i : Nat, i ≤ P.length ∧ k = P.length - i ∧ (i < P.length ∨ sumP P ≤ n) ∧ ∃ a cap, Nw h1 a ∧ Ow h' 1 a (sumP (P.take i)) cap ((mparts c t (P.take i)).1.map (Value.int .i64)) ∧ (mparts c t (P.take i)).2 ≤ i * 1000000 ∧
      t' = [(1, some (.int .i64 n)), (2, some (.pointer (some ⟨h.size, 0, none⟩))), (6, some (.slice pa P.length pc)), (7, some (.slice a (sumP (P.take i)) cap)), (8, some (.int .i64 (mparts c t (P.take i)).2)), (9, some (.int .i64 i))])
    ⟨_, w1, Fm.refl, 0, by omega, rfl, ?_, none, 0, Nw.none, Ow.mk0, by simp [mparts], rfl⟩ ?_
  · cases P with
    | nil => exact .inr (by simp [sumP])
    | cons p P => exact .inl (by simp)
  rintro k t0 h2 ⟨w2, fm2, i, hi, rfl, hor, a, cap, nw, ow, hj, rfl⟩
  by_cases hin : i < P.length
  case neg =>
    have : i = P.length := by omega
    subst this
    have e1 : P.take P.length = P := List.take_length
    rw [e1] at ow hj ⊢
    simp +contextual only [↓AM, ↓AV, AP, hin]
    refine ⟨a, sumP P, cap, ?_, ?_, fun x hx => Nat.le_trans fm1.size (nw x hx), fm1.trans fm2 fun _ _ x => x⟩
    · rw [show decide (EqI (sumP P : Int) n) = decide (sumP P = n) from decide_eq_decide.2 (by unfold EqI; omega)]
    · intro hs; rw [hs] at ow; exact ⟨hs, ow⟩
  obtain ⟨b1, o1, s1, u, rfl, f1, hu, -, rr⟩ := (rp.keep w1 fm2 (fun _ _ => id)).elem natC_len rfl hin
  have hub := wi.bd u (List.mem_of_getElem? hu)
  have hsum := sum_take_le wi i
  have hsum1 := sum_take_le wi (i + 1)
  have htk : mparts c t (P.take (i + 1)) = mpart c t (mparts c t (P.take i)) u := by
    rw [List.take_add_one, hu]; simp only [Option.toList_some]; rw [mparts_snoc]
  have hsk : sumP (P.take (i + 1)) = sumP (P.take i) + (u.1 + u.2) := by
    rw [List.take_add_one, hu]; simp only [Option.toList_some]; rw [sumP_snoc]
  have hml := mparts_len c t (P.take i)
  generalize hst : mparts c t (P.take i) = st at *
  obtain ⟨o0, j0⟩ := st
  generalize hq : sumP (P.take i) = q at *
  simp only at hj ow htk hml ⊢
  have hb2 : j0 ≤ 40000000 := by have : i * 1000000 ≤ 40 * 1000000 := Nat.mul_le_mul_right _ (by omega); omega
  clear hsum hsum1
  have hq8 : q + (u.1 + u.2) ≤ 80000000 := by have := sum_take_le wi (i + 1); omega
  simp +contextual (disch := omega) only [↓AM, ↓AV, AP, hin, f1]
  -- the clear bytes
  refine WL.mk (fun k' t' h' => Wf h' ∧ Fm No h1 h' ∧ ∃ k : Nat, k ≤ u.1 ∧ k' = u.1 - k ∧ ∃ a cap, Nw h1 a ∧ Ow h' 1 a (q + k) cap ((o0 ++ List.replicate k (-1)).map (Value.int .i64)) ∧
      t' = [(1, some (.int .i64 n)), (2, some (.pointer (some ⟨h.size, 0, none⟩))), (6, some (.slice (some ⟨b1, o1, s1⟩) P.length pc)), (7, some (.slice a (q + k) cap)), (8, some (.int .i64 j0)), (9, some (.int .i64 i)), (10, some (.int .i64 k))])
    ⟨_, w2, fm2, 0, by omega, rfl, a, cap, nw, by simpa using ow, rfl⟩ ?_
  rintro k' t0 h3 ⟨w3, fm3, k, hk, rfl, a3, cap3, nw3, ow3, rfl⟩
  have rr3 : ∀ j v, (natC u)[j]? = some v → h3.rd b1 (o1 + i * 2 + j) = some v := fun j v hv => by
    obtain ⟨b2, o2, s2, u2, e2, -, hu2, -, rr2⟩ := (rp.keep w1 fm3 (fun _ _ => id)).elem natC_len rfl hin
    cases e2
    rw [hu] at hu2
    cases hu2
    exact rr2 j v hv
  have r3 : h3.rd b1 (o1 + i * 2) = some (.int .i64 u.1) := rr3 0 _ rfl
  have r4 : h3.rd b1 (o1 + i * 2 + 1) = some (.int .i64 u.2) := rr3 1 _ rfl
  clear rr3
  by_cases hku : k < u.1
  case pos =>
    simp +contextual (disch := omega) only [↓AM, ↓AV, AP, hin, f1, r3, hku, src_n1]
    refine ow3.push (m := 1) w3 (by rfl) (by omega) fun a' cap' h4 o4 w4 f4 n4 => ?_
    obtain ⟨g1, g2⟩ := grown fm3 nw3 f4 n4
    simp +contextual (disch := omega) only [↓AM, ↓AV, AP, nadd1, i64]
    refine ⟨_, ?_, w4, g1, k + 1, hku, rfl, a', cap', g2, ?_, rfl⟩
    · omega
    · rw [List.replicate_succ', ← List.append_assoc, mint]
      exact o4
  have : k = u.1 := by omega
  subst this
  simp +contextual (disch := omega) only [↓AM, ↓AV, AP, hin, f1, r3, hku, r4]
  have h0 : mpart c t (o0, j0) u = mrun (sec c t u.2) (o0 ++ List.replicate u.1 (-1), j0) u.2 := rfl
  rw [h0] at htk
  -- the secret ones
  refine WL.mk (fun k' t' h' => Wf h' ∧ Fm No h1 h' ∧ ∃ k : Nat, k ≤ u.2 ∧ k' = u.2 - k ∧ ∃ a cap, Nw h1 a ∧ (mrun (sec c t u.2) (o0 ++ List.replicate u.1 (-1), j0) k).2 ≤ j0 + k ∧ Ow h' 1 a (q + u.1 + k) cap ((mrun (sec c t u.2) (o0 ++ List.replicate u.1 (-1), j0) k).1.map (Value.int .i64)) ∧
      t' = [(1, some (.int .i64 n)), (2, some (.pointer (some ⟨h.size, 0, none⟩))), (6, some (.slice (some ⟨b1, o1, s1⟩) P.length pc)), (7, some (.slice a (q + u.1 + k) cap)), (8, some (.int .i64 (mrun (sec c t u.2) (o0 ++ List.replicate u.1 (-1), j0) k).2)), (9, some (.int .i64 i)), (11, some (.int .i64 u.2)), (12, some (.int .i64 k))])
    ⟨_, w3, fm3, 0, by omega, rfl, a3, cap3, nw3, by simp [mrun_0], by rw [mrun_0]; exact ow3, rfl⟩ ?_
  clear ow3 nw3 a3 cap3 hku r3 r4 hk
  rintro k' t0 h4 ⟨w4, fm4, k, hk, rfl, a4, cap4, nw4, hj4, ow4, rfl⟩
  by_cases hku : k < u.2
  case neg =>
    have : k = u.2 := by omega
    subst this
    simp +contextual (disch := omega) only [↓AM, ↓AV, AP, hku, nadd1, i64]
    refine ⟨fun hbig => ?_, fun hsm => ?_⟩
    · have hne : ¬ sumP P = n := by have := sum_mono P (i + 1); omega
      refine ⟨none, 0, 0, ?_, fun e => absurd e hne, Nw.none, fm1.trans fm4 fun _ _ x => x⟩
      simp [hne]
    · refine ⟨_, ?_, w4, fm4, i + 1, hin, rfl, ?_, a4, cap4, nw4, ?_, ?_, ?_⟩
      · omega
      · by_cases hlast : i + 1 < P.length
        · exact .inl hlast
        · refine .inr ?_
          rw [← List.take_of_length_le (l := P) (i := i + 1) (by omega), hsk]
          omega
      · rw [htk, hsk, show q + (u.1 + u.2) = q + u.1 + u.2 by omega]; exact ow4
      · rw [htk, Nat.add_mul]; omega
      · rw [htk, hsk, show q + (u.1 + u.2) = q + u.1 + u.2 by omega]
  have hg4 := fm4.keep w1 hg1 id
  have hS := mrun_S (sec c t u.2) (o0 ++ List.replicate u.1 (-1), j0) k
  generalize hst2 : mrun (sec c t u.2) (o0 ++ List.replicate u.1 (-1), j0) k = st at *
  obtain ⟨o4, j4⟩ := st
  simp only at hj4 ow4 hS ⊢
  have hfin : (c = 0) ∨ (c ≠ 0 ∧ k / 16 < u.2 / 16 ∧ k / 16 % (c + t) < c) ∨ (c ≠ 0 ∧ ¬ k / 16 < u.2 / 16) ∨ (c ≠ 0 ∧ k / 16 < u.2 / 16 ∧ ¬ k / 16 % (c + t) < c) := by omega
  have ect : ((c + t : Nat) : Int) = 0 ↔ c + t = 0 := by omega
  have fy : sec c t u.2 k = true → mrun (sec c t u.2) (o0 ++ List.replicate u.1 (-1), j0) (k + 1) = (o4 ++ [(j4 : Int)], j4 + 1) := fun e => by rw [hS, mstep, if_pos e]
  have fn : sec c t u.2 k = false → mrun (sec c t u.2) (o0 ++ List.replicate u.1 (-1), j0) (k + 1) = (o4 ++ [-1], j4) := fun e => by rw [hS, mstep, if_neg (by simp [e])]
  rcases hfin with hc | ⟨hc, hw, hb⟩ | ⟨hc, hw⟩ | ⟨hc, hw, hb⟩
  case' inl =>
    have e0 : EqI (c : Int) 0 = True := eq_true (by unfold EqI; omega)
    have hm := fy (by simp [sec, hc])
    simp +contextual (disch := omega) only [↓AM, ↓AV, AP, hku, nadd, i64, rd_mk hg4, ldOk, n16_0, e16_0, i64_rem, i64_div, ndiv16, nmod, e0, src_n1]
  case' inr.inl =>
    have e0 : EqI (c : Int) 0 = False := eq_false (by unfold EqI; omega)
    have hm := fy (by simp [sec, hc, hw, hb])
    simp +contextual (disch := omega) only [↓AM, ↓AV, AP, hku, nadd, i64, rd_mk hg4, ldOk, n16_0, e16_0, i64_rem, i64_div, ndiv16, nmod, e0, src_n1, hw, hb]
    refine ⟨by omega, ?_⟩
  case' inr.inr.inl =>
    have e0 : EqI (c : Int) 0 = False := eq_false (by unfold EqI; omega)
    have hm := fn (by simp [sec, hc, hw])
    simp +contextual (disch := omega) only [↓AM, ↓AV, AP, hku, nadd, i64, rd_mk hg4, ldOk, n16_0, e16_0, i64_rem, i64_div, ndiv16, nmod, e0, src_n1, hw]
  case' inr.inr.inr =>
    have e0 : EqI (c : Int) 0 = False := eq_false (by unfold EqI; omega)
    have hm := fn (by simp [sec, hc, hw, hb])
    simp +contextual (disch := omega) only [↓AM, ↓AV, AP, hku, nadd, i64, rd_mk hg4, ldOk, n16_0, e16_0, i64_rem, i64_div, ndiv16, nmod, e0, src_n1, hw, hb]
    refine ⟨by omega, ?_⟩
  all_goals refine ow4.push (m := 1) w4 (by rfl) (by omega) fun a' cap' h5 o5 w5 f5 n5 => ?_
  all_goals obtain ⟨g1, g2⟩ := grown fm4 nw4 f5 n5
  all_goals simp +contextual (disch := omega) only [↓AM, ↓AV, AP, nadd1, i64]
  all_goals refine ⟨_, ?_, w5, g1, k + 1, hku, rfl, a', cap', g2, ?_, ?_, ?_⟩
  all_goals first
    | omega
    | (rw [hm]; rfl)
    | (rw [hm]; simp only; omega)
    | (rw [hm, mint]; exact o5)
end Go.Proofs.Ytloonniiffbopaa.Cr
