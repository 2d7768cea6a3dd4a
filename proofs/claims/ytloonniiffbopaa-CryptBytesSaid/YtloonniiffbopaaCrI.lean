/- Which bytes are protected, by either text. Plain theorems over the abstract machine.
   Conditions: none. -/
import Derived.Test.YtloonniiffbopaaCrH
namespace Go.Proofs.Ytloonniiffbopaa.Cr
open Go Go.RowKit Go.Proofs.Ytloonniiffbopaa.Am Go.Proofs.Ytloonniiffbopaa.Af
set_option linter.unusedVariables false
set_option linter.unusedSimpArgs false
set_option maxRecDepth 20000
set_option linter.defProp false

theorem tn_1 : Int.toNat 1 = 1 := rfl
theorem le01 : ((0 : Int) ≤ 1) = True := by simp
theorem lt12 : ((1 : Int) < ((2 : Nat) : Int)) = True := by simp
theorem lt02 : ((0 : Int) < ((2 : Nat) : Int)) = True := by simp
theorem lt00 : ((0 : Int) < ((0 : Nat) : Int)) = False := by simp
theorem nsub1 (a : Nat) : ((a + 1 : Nat) : Int) - 1 = (a : Int) := by omega
theorem addr0 {b n : Nat} {s : Option Nat} : (⟨b, n + 0, s⟩ : Addr) = ⟨b, n, s⟩ := rfl
def CQ := And.intro @tn_1 (And.intro @le01 (And.intro @lt12 (And.intro @lt02 (And.intro @lt00 (And.intro @nsub1 (And.intro @nadd1 (And.intro @nadd16 (And.intro @nadd (And.intro @src_n1 (And.intro @src_n2 (And.intro @src_n4 (And.intro @new_put
  (And.intro @n16_0 (And.intro @e16_0 (And.intro @ndiv16 (And.intro @nmod16 @nmod))))))))))))))))
theorem c_EqPairs {h : Hp} {a b : Option Addr} {n m c d : Nat} {xs ys : List (Nat × Nat)} (ha : Rd h 2 a n (xs.flatMap natC)) (hb : Rd h 2 b m (ys.flatMap natC)) (la : xs.length = n) (lb : ys.length = m) (hn : n ≤ 140737488351232) :
    ACalls Try.prog 14 [.slice a n c, .slice b m d] h fun v h' => v = .bool (decide (xs = ys)) ∧ h' = h := by
  refine dioramaref00_EqPairs_ok.snd hm rfl fun w => ?_
  rw [WF_eq, dioramaref00_EqPairs]
  simp +contextual only [↓AM, ↓AV, AP]
  refine ⟨fun hne => ?_, fun hm => ?_⟩
  · simp [EqI] at hne ⊢
    intro e; subst e; omega
  have hm := eqI_n hm
  subst hm
  refine WL.mk (fun k t h' => h' = h ∧ ∃ i : Nat, i ≤ n ∧ k = n - i ∧ xs.take i = ys.take i ∧ t = [(0, some (.slice a n c)), (1, some (.slice b n d)), (5, some (.int .i64 i))]) ⟨n, rfl, 0, by simp, rfl, rfl, rfl⟩ ?_
  rintro k t _ ⟨rfl, i, hi, rfl, heq, rfl⟩
  by_cases hin : i < n
  · obtain ⟨b1, o1, s1, u, rfl, f1, hu, r1, -⟩ := ha.elem natC_len la hin
    obtain ⟨b2, o2, s2, v, rfl, f2, hv, r2, -⟩ := hb.elem natC_len lb hin
    simp only [natC] at r1 r2
    simp +contextual only [↓AM, ↓AV, AP, f1, f2, r1, r2, hin, ldOk, eqCells, eqCell]
    have hcmp : (decide (u.1 = v.1) && decide (u.2 = v.2)) = decide (u = v) := by
      rw [Bool.eq_iff_iff]; simp [Prod.ext_iff]
    by_cases huv : u = v
    · subst huv
      simp +contextual only [↓AM, ↓AV, AP, beq_self_eq_true, Bool.and_self, i64s (i := i) (by omega)]
      refine ⟨_, ?_, i + 1, hin, rfl, ?_, rfl⟩
      · omega
      · rw [List.take_add_one, List.take_add_one, heq, hu, hv]
    · have hne : ((u.1 : Int) == (v.1 : Int) && ((u.2 : Int) == (v.2 : Int) && true)) = false := by
        rw [Bool.eq_false_iff]
        intro e
        simp only [Bool.and_true, Bool.and_eq_true, beq_iff_eq] at e
        exact huv (Prod.ext (by omega) (by omega))
      simp +contextual only [↓AM, ↓AV, AP, hne]
      have : xs ≠ ys := fun e => huv (by subst e; rw [hu] at hv; exact Option.some.inj hv)
      simp [this]
  · simp +contextual only [↓AM, ↓AV, AP, hin]
    rw [List.take_of_length_le (by omega), List.take_of_length_le (by omega)] at heq
    simp [heq]

/-- The error of a lock over so many bytes, and which are protected. -/
def secE (l : Lk) (n : Int) : Int := if chkI l ≠ 0 then chkI l else if ¬ (0 ≤ n ∧ n ≤ 65536) then 1 else if sumP (prts (lps l) n.toNat) ≠ n.toNat then 211 else 0
def marksL (l : Lk) (n : Nat) : List Int := (mparts l.crypt.toNat l.skip.toNat (prts (lps l) n)).1
def secR (l : Lk) (n : Int) : List (Nat × Nat) := if secE l n = 0 then ((pm 0 (marksL l n.toNat)).map (·.1)).foldl addP [] else []
def SecPost (l : Lk) (n : Int) (h : Hp) (v : Value) (h' : Hp) : Prop := ∃ a cap, v = .tuple #[.slice a (secR l n).length cap, .int .i64 (secE l n)] ∧ Rd h' 2 a (secR l n).length ((secR l n).flatMap natC) ∧ Nw h a ∧ Fm No h h'
theorem SecPost.no {l : Lk} {n : Int} {h h' : Hp} {v : Value} {e : Int} (he : secE l n = e) (hne : e ≠ 0) (hv : v = .tuple #[.slice none 0 0, .int .i64 e]) (fm : Fm No h h') : SecPost l n h v h' := by
  have hr : secR l n = [] := by rw [secR, if_neg (by rw [he]; exact hne)]
  refine ⟨none, 0, ?_, ?_, Nw.none, fm⟩
  · rw [hr, he]; exact hv
  · rw [hr]; exact Rd.mk0
theorem get_last (o : List (Nat × Nat)) (p : Nat × Nat) : ((o ++ [p]).flatMap natC)[o.length * 2 + 1]? = some (.int .i64 p.2) := by
  rw [List.flatMap_append, List.getElem?_append_right (by rw [flat_len natC_len]; omega), flat_len natC_len, show o.length * 2 + 1 - o.length * 2 = 1 by omega]
  rfl
theorem spl_last (o : List (Nat × Nat)) (p : Nat × Nat) (x : Nat) : spl ((o ++ [p]).flatMap natC) (o.length * 2 + 1) [.int .i64 x] = (o ++ [(p.1, x)]).flatMap natC := by
  have hl := flat_len natC_len o
  unfold spl
  rw [List.flatMap_append, List.flatMap_append, ← hl, List.take_append, List.take_of_length_le (by omega), List.drop_eq_nil_of_le (by simp [natC])]
  rw [show (o.flatMap natC).length + 1 - (o.flatMap natC).length = 1 by omega]
  simp [natC]
theorem addP_len (out : List (Nat × Nat)) (i : Nat) : (addP out i).length ≤ out.length + 1 := by
  unfold addP
  split
  · split <;> simp
  · simp
theorem addS_len (out : List (Nat × Nat)) (s : Str) : (addS out s).length ≤ out.length + 1 := by
  unfold addS
  split
  · split <;> simp
  · simp
theorem addS_fold_len : ∀ (S : List Str) (out : List (Nat × Nat)), (S.foldl addS out).length ≤ out.length + S.length
  | [], out => by simp
  | s :: S, out => by
    have h1 := addS_fold_len S (addS out s)
    have h2 := addS_len out s
    simp only [List.foldl_cons, List.length_cons]; omega
theorem addP_fold_len : ∀ (S : List Nat) (out : List (Nat × Nat)), (S.foldl addP out).length ≤ out.length + S.length
  | [], out => by simp
  | s :: S, out => by
    have h1 := addP_fold_len S (addP out s)
    have h2 := addP_len out s
    simp only [List.foldl_cons, List.length_cons]; omega
theorem strs_len {c t n : Nat} {ps : List (Nat × Nat)} (w : Within (prts ps n) 1000000) : (strs c t ps n).length ≤ 80000000 := by
  have h1 : (strs c t ps n).length ≤ (sparts c t (prts ps n)).1.length := List.length_filter_le _ _
  have h2 := (sparts_le (c := c) (t := t) w (prts ps n).length (Nat.le_refl _)).1
  rw [List.take_length] at h2
  have h3 := w.len
  have : (prts ps n).length * (1000000 + 1) ≤ 40 * (1000000 + 1) := Nat.mul_le_mul_right _ h3
  omega
theorem sblks_bd {c t a M : Nat} {st : List Str × Nat} (h : ∀ s ∈ st.1, s.2.1 ≤ M) : ∀ n, a + 16 * n ≤ M → ∀ s ∈ (sblks c t a st n).1, s.2.1 ≤ M
  | 0, _ => h
  | n + 1, hn => by
    rw [sblks_S, sblk]
    split
    · intro s hs
      rcases List.mem_append.1 hs with hs | hs
      · exact sblks_bd h n (by omega) s hs
      · obtain rfl := List.mem_singleton.1 hs
        simp only; omega
    · exact sblks_bd h n (by omega)
/-- Stretches have the places within. -/
theorem sparts_bd {c t : Nat} {ps : List (Nat × Nat)} : ∀ s ∈ (sparts c t ps).1, s.2.1 ≤ sumP ps := by
  have key : ∀ (ps : List (Nat × Nat)) (st : List Str × Nat × Nat), (∀ s ∈ st.1, s.2.1 ≤ st.2.1) → ∀ s ∈ (ps.foldl (spart c t) st).1, s.2.1 ≤ (ps.foldl (spart c t) st).2.1 := by
    intro ps
    induction ps with
    | nil => exact fun st h => h
    | cons p ps ih =>
      intro st h
      refine ih _ ?_
      unfold spart
      split
      · intro s hs
        rcases List.mem_append.1 hs with hs | hs
        · have := h s hs; simp only; omega
        · obtain rfl := List.mem_singleton.1 hs
          simp only; omega
      · exact sblks_bd (fun s hs => by have := h s hs; simp only; omega) _ (by simp only; omega)
  intro s hs
  have := key ps ([], 0, 0) (fun s hs => by cases hs) s hs
  have h2 := sparts_at c t ps
  unfold sparts at h2
  omega
theorem Gk.wi {l : Lk} {c t n : Nat} {ps : List (Nat × Nat)} (g : Gk l c t ps) (hn : n ≤ 1000000) : Within (prts ps n) 1000000 := prts_within g.len (fun p hp => by have := g.bd p hp; omega) hn
theorem c_Secret {h : Hp} {l : Lk} {oa : Option Addr} {cc : Nat} {n : Int} (r : Rd h 2 oa l.parts.length (l.parts.flatMap partC)) (hl : l.parts.length ≤ 140737488351232) :
    ACalls Try.prog 12 [lockV l oa cc, .int .i64 n] h (SecPost l n h) := by
  refine crypt_Secret_ok.snd hm rfl fun w => ?_
  rw [WF_eq, crypt_Secret, lockV]
  simp +contextual only [↓AM, ↓AV, AP, rdN_n5]
  have fm0 : Fm No h (h.new ⟨[.int .i64 l.key, .int .i64 l.nonce, .int .i64 l.crypt, .int .i64 l.skip, .slice oa l.parts.length cc], .own⟩) := Fm.new Fm.refl
  have r0 := r.keep w fm0 (fun _ _ => id)
  refine (c_Check r0 hl).use ?_
  rintro _ h1 w1 ⟨rfl, fm1⟩
  have fm1' := fm0.trans fm1 (fun _ _ x => x)
  have hg1 := fm1.keep w.new gnew id
  have r1 := r0.keep w.new fm1 (fun _ _ => id)
  by_cases he : chkI l = 0
  case neg =>
    have e0 : EqI (chkI l) 0 = False := eq_false he
    simp +contextual only [↓AM, ↓AV, AP, e0]
    exact SecPost.no (by rw [secE, if_pos he]) he rfl fm1'
  have e0 : EqI (chkI l) 0 = True := eq_true he
  simp +contextual only [↓AM, ↓AV, AP, e0]
  refine c_within.use ?_
  rintro _ h1 w1 ⟨rfl, rfl⟩
  by_cases hn : 0 ≤ n ∧ n ≤ 65536
  case neg =>
    simp +contextual only [↓AM, ↓AV, AP, hn]
    exact SecPost.no (by rw [secE, if_neg (by simp [he]), if_pos hn]) (by decide) rfl fm1'
  have g := chk_gk he
  obtain ⟨m, rfl⟩ : ∃ m : Nat, n = m := ⟨n.toNat, by omega⟩
  have hr1 : h1.rdN h.size 0 5 = some [.int .i64 l.key, .int .i64 l.nonce, .int .i64 l.crypt, .int .i64 l.skip, .slice oa l.parts.length cc] := by rw [rdN_mk hg1 (by simp)]; rfl
  simp +contextual only [↓AM, ↓AV, AP, hn, hr1]
  refine (c_stretches (n := m) r1 g (by omega)).use ?_
  rintro _ h2 w2 ⟨a, cap, rfl, ow, nw, fm2⟩
  have fm2' := fm1'.trans fm2 (fun _ _ x => x)
  have hslen := strs_len (c := l.crypt.toNat) (t := l.skip.toNat) (g.wi (n := m) (by omega))
  by_cases hs : sumP (prts (lps l) m) = m
  case neg =>
    simp +contextual only [↓AM, ↓AV, AP, hs]
    exact SecPost.no (by rw [secE, if_neg (by simp [he]), if_neg (by simp [hn]), if_pos (by simpa using hs)]) (by decide) rfl fm2'
  have hsec : secE l m = 0 := by rw [secE, if_neg (by simp [he]), if_neg (by simp [hn]), if_neg (by simpa using hs)]
  have hR : secR l m = (strs l.crypt.toNat l.skip.toNat (lps l) m).foldl addS [] := by
    rw [secR, if_pos hsec, strs, runs_eq _ _ (keepS_lt (sparts_ok _ _ _)), flat_keep, (parts_agr _ _ _).flat]
    rfl
  simp +contextual only [↓AM, ↓AV, AP, hs]
  have hbd : ∀ s ∈ strs l.crypt.toNat l.skip.toNat (lps l) m, s.2.1 ≤ m := fun s hs' => by
    have := sparts_bd s (List.mem_filter.1 hs').1
    omega
  generalize strs l.crypt.toNat l.skip.toNat (lps l) m = S at hslen hR ow hbd
  refine WL.mk (fun k t' h' => Wf h' ∧ Fm No h2 h' ∧ ∃ i : Nat, i ≤ S.length ∧ k = S.length - i ∧ ∃ oa2 cap2, Nw h2 oa2 ∧ Ow h' 2 oa2 ((S.take i).foldl addS []).length cap2 (((S.take i).foldl addS []).flatMap natC) ∧
      t' = [(9, some (.slice oa2 ((S.take i).foldl addS []).length cap2)), (29, some (.slice a S.length cap)), (30, some (.int .i64 S.length)), (31, some (.int .i64 i))])
    ⟨_, w2, Fm.refl, 0, by omega, rfl, none, 0, Nw.none, Ow.mk0, rfl⟩ ?_
  rintro k t0 h3 ⟨w3, fm3, i, hi, rfl, oa2, cap2, nw2, ow2, rfl⟩
  by_cases hin : i < S.length
  case neg =>
    have : i = S.length := by omega
    subst this
    rw [List.take_length] at ow2 ⊢
    simp +contextual only [↓AM, ↓AV, AP, hin]
    refine ⟨oa2, cap2, ?_, ?_, fun x hx => Nat.le_trans fm2'.size (nw2 x hx), fm2'.trans fm3 (fun _ _ x => x)⟩
    · rw [hsec, hR]
    · rw [hR]; exact ow2.rd
  obtain ⟨b1, o1, s1, u, rfl, f1, hu, r3, -⟩ := (ow.rd.keep w2 fm3 (fun _ _ => id)).elem strC_len rfl hin
  have hub := hbd u (List.mem_of_getElem? hu)
  simp only [strC] at r3
  have hfl := addS_fold_len (S.take i) []
  have htk : (S.take (i + 1)).foldl addS [] = addS ((S.take i).foldl addS []) u := by
    rw [List.take_add_one, hu]; simp [List.foldl_append]
  have hlt : ((S.take i).foldl addS []).length ≤ 80000000 := by simp at hfl; omega
  generalize (S.take i).foldl addS [] = O at ow2 htk hlt ⊢
  have fmn : Fm No h3 (h3.new ⟨[.int .i64 u.1, .int .i64 u.2.1, .int .i64 u.2.2.1, .int .i64 u.2.2.2], .own⟩) := Fm.new Fm.refl
  have own := ow2.keep w3 fmn (fun _ _ => id)
  have fmn' := fm3.trans fmn (fun _ _ x => x)
  have hgu : (h3.new ⟨[.int .i64 u.1, .int .i64 u.2.1, .int .i64 u.2.2.1, .int .i64 u.2.2.2], .own⟩).get h3.size = some _ := gnew
  have wn : Wf (h3.new ⟨[.int .i64 u.1, .int .i64 u.2.1, .int .i64 u.2.2.1, .int .i64 u.2.2.2], .own⟩) := w3.new
  have hrn : ∀ {o : Ob} {h5 : Hp}, Fm No (h3.new o) h5 → h5.get h3.size = some o := fun f => f.keep w3.new gnew id
  generalize hL : O.length = L at *
  rcases List.eq_nil_or_concat O with rfl | ⟨O, p, rfl⟩
  · have e1 : addS [] u = [(u.1, u.2.1)] := rfl
    obtain rfl : 0 = L := hL
    simp +contextual (disch := omega) only [↓AM, ↓AV, AP, CQ, hin, f1, r3, i64, ldOk, rnew]
    refine own.push (m := 1) wn (by rfl) (by omega) fun a' cap' h5 o5 w5 f5 n5 => ?_
    obtain ⟨g1, g2⟩ := grown fmn' nw2 f5 n5
    simp +contextual (disch := omega) only [↓AM, ↓AV, AP, nadd1, i64]
    refine ⟨_, ?_, w5, g1, i + 1, hin, rfl, a', cap', g2, ?_, ?_⟩
    · omega
    · rw [htk, e1]; exact o5
    · rw [htk, e1]; rfl
  · rw [List.concat_eq_append] at own htk
    obtain rfl : O.length + 1 = L := by rw [← hL]; simp
    obtain ⟨b, sp, ob, rfl, -, f2, hgb, hro, hle, hrd, hset⟩ := own.part (k := O.length * 2 + 1) (m := 1) wn (by decide) (by omega)
    have r5 := hrd _ _ (get_last O p)
    have e0 : (0 < ((O.length + 1 : Nat) : Int)) = True := eq_true (by omega)
    have e1 : O.length < O.length + 1 := by omega
    have lastO : (O ++ [p]).getLast? = some p := by simp
    by_cases hpu : p.2 = u.1
    · have e2 : EqI (p.2 : Int) u.1 = True := eq_true (by unfold EqI; omega)
      have e3 : addS (O ++ [p]) u = O ++ [(p.1, u.2.1)] := by
        rw [addS, lastO]; simp [hpu]
      obtain ⟨o5, w5, fm5⟩ := hset [.int .i64 u.2.1] rfl
      simp +contextual (disch := omega) only [↓AM, ↓AV, AP, CQ, hin, ldOk, rnew, e0, i64, f1, r3, f2, e1, r5, e2, hgb, hro, hle]
      refine ⟨_, ?_, w5, fmn'.trans fm5 (fun x hx ha => absurd (nw2 x ha) (Nat.not_le_of_lt hx)), i + 1, hin, rfl, _, cap2, nw2, ?_, ?_⟩
      · omega
      · rw [spl_last] at o5
        rw [htk, e3]; simpa using o5
      · rw [htk, e3]; simp
    · have e2 : EqI (p.2 : Int) u.1 = False := eq_false (by unfold EqI; omega)
      have e3 : addS (O ++ [p]) u = O ++ [p] ++ [(u.1, u.2.1)] := by
        rw [addS, lastO]; simp [hpu]
      simp +contextual (disch := omega) only [↓AM, ↓AV, AP, CQ, hin, ldOk, rnew, e0, i64, f1, r3, f2, e1, r5, e2]
      refine own.push (m := 1) wn (by rfl) (by omega) fun a' cap' h5 o5 w5 f5 n5 => ?_
      obtain ⟨g1, g2⟩ := grown fmn' nw2 f5 n5
      simp +contextual (disch := omega) only [↓AM, ↓AV, AP, nadd1, i64]
      refine ⟨_, ?_, w5, g1, i + 1, hin, rfl, a', cap', g2, ?_, ?_⟩
      · omega
      · rw [htk, e3]
        simp only [List.length_append, List.length_singleton, List.flatMap_append, List.flatMap_cons, List.flatMap_nil, List.append_nil] at o5 ⊢
        exact o5
      · rw [htk, e3]; simp
theorem pm_bd : ∀ (l : List Int) (i : Nat), ∀ x ∈ pm i l, i ≤ x.1 ∧ x.1 < i + l.length
  | [], i, x, h => by cases h
  | y :: l, i, x, h => by
    unfold pm at h
    split at h
    · have := pm_bd l (i + 1) x h
      simp only [List.length_cons]; omega
    · rcases List.mem_cons.1 h with rfl | h
      · simp only [List.length_cons]; omega
      · have := pm_bd l (i + 1) x h
        simp only [List.length_cons]; omega
theorem pm_len : ∀ (l : List Int) (i : Nat), (pm i l).length ≤ l.length
  | [], i => by simp [pm]
  | y :: l, i => by
    have := pm_len l (i + 1)
    unfold pm
    split <;> simp only [List.length_cons] <;> omega
theorem secR_len (l : Lk) (n : Int) : (secR l n).length ≤ 65536 := by
  unfold secR
  split
  · rename_i h
    have hn : chkI l = 0 ∧ (0 ≤ n ∧ n ≤ 65536) ∧ sumP (prts (lps l) n.toNat) = n.toNat := by
      unfold secE at h
      split at h
      · rename_i h1; exact absurd h h1
      · rename_i h1
        split at h
        · omega
        · rename_i h2
          split at h
          · omega
          · rename_i h3
            exact ⟨by simpa using h1, by simpa using h2, by simpa using h3⟩
    have h1 := addP_fold_len ((pm 0 (marksL l n.toNat)).map (·.1)) []
    have h2 := pm_len (marksL l n.toNat) 0
    have h3 : (marksL l n.toNat).length = n.toNat := by rw [marksL, mparts_len, hn.2.2]
    simp at h1
    omega
  · simp
theorem c_rSecret {h : Hp} {l : Lk} {oa : Option Addr} {cc : Nat} {n : Int} (r : Rd h 2 oa l.parts.length (l.parts.flatMap partC)) (hl : l.parts.length ≤ 140737488351232) :
    ACalls Try.prog 13 [lockV l oa cc, .int .i64 n] h (SecPost l n h) := by
  refine dioramaref21_Secret_ok.snd hm rfl fun w => ?_
  rw [WF_eq, dioramaref21_Secret, lockV]
  simp +contextual only [↓AM, ↓AV, AP, rdN_n5]
  have fm0 : Fm No h (h.new ⟨[.int .i64 l.key, .int .i64 l.nonce, .int .i64 l.crypt, .int .i64 l.skip, .slice oa l.parts.length cc], .own⟩) := Fm.new Fm.refl
  have r0 := r.keep w fm0 (fun _ _ => id)
  refine (c_rCheck r0 hl).use ?_
  rintro _ h1 w1 ⟨rfl, fm1⟩
  have fm1' := fm0.trans fm1 (fun _ _ x => x)
  have hg1 := fm1.keep w.new gnew id
  have r1 := r0.keep w.new fm1 (fun _ _ => id)
  by_cases he : chkI l = 0
  case neg =>
    have e0 : EqI (chkI l) 0 = False := eq_false he
    simp +contextual only [↓AM, ↓AV, AP, e0]
    exact SecPost.no (by rw [secE, if_pos he]) he rfl fm1'
  have e0 : EqI (chkI l) 0 = True := eq_true he
  simp +contextual only [↓AM, ↓AV, AP, e0]
  refine c_in.use ?_
  rintro _ h1 w1 ⟨rfl, rfl⟩
  by_cases hn : 0 ≤ n ∧ n ≤ 65536
  case neg =>
    simp +contextual only [↓AM, ↓AV, AP, hn]
    exact SecPost.no (by rw [secE, if_neg (by simp [he]), if_pos hn]) (by decide) rfl fm1'
  have g := chk_gk he
  obtain ⟨m, rfl⟩ : ∃ m : Nat, n = m := ⟨n.toNat, by omega⟩
  have hr1 : h1.rdN h.size 0 5 = some [.int .i64 l.key, .int .i64 l.nonce, .int .i64 l.crypt, .int .i64 l.skip, .slice oa l.parts.length cc] := by rw [rdN_mk hg1 (by simp)]; rfl
  simp +contextual only [↓AM, ↓AV, AP, hn, hr1]
  refine (c_marks (n := m) r1 g (by omega)).use ?_
  rintro _ h2 w2 ⟨a, k0, cap, rfl, how, nw, fm2⟩
  have fm2' := fm1'.trans fm2 (fun _ _ x => x)
  by_cases hs : sumP (prts (lps l) m) = m
  case neg =>
    simp +contextual only [↓AM, ↓AV, AP, hs]
    exact SecPost.no (by rw [secE, if_neg (by simp [he]), if_neg (by simp [hn]), if_pos (by simpa using hs)]) (by decide) rfl fm2'
  have hsec : secE l m = 0 := by rw [secE, if_neg (by simp [he]), if_neg (by simp [hn]), if_neg (by simpa using hs)]
  have hR : secR l m = ((pm 0 (marksL l m)).map (·.1)).foldl addP [] := by rw [secR, if_pos hsec]; rfl
  obtain ⟨rfl, ow⟩ := how hs
  have hml : (marksL l k0).length = k0 := by rw [marksL, mparts_len, hs]
  change Ow h2 1 a k0 cap ((marksL l k0).map (Value.int .i64)) at ow
  simp +contextual only [↓AM, ↓AV, AP, hs]
  generalize marksL l k0 = M at hR ow hml
  refine WL.mk (fun k t' h' => Wf h' ∧ Fm No h2 h' ∧ ∃ i : Nat, i ≤ k0 ∧ k = k0 - i ∧ ∃ oa2 cap2, Nw h2 oa2 ∧ Ow h' 2 oa2 (((pm 0 (M.take i)).map (·.1)).foldl addP []).length cap2 ((((pm 0 (M.take i)).map (·.1)).foldl addP []).flatMap natC) ∧
      t' = [(1, some (.int .i64 k0)), (7, some (.slice a k0 cap)), (9, some (.slice oa2 (((pm 0 (M.take i)).map (·.1)).foldl addP []).length cap2)), (10, some (.int .i64 i))])
    ⟨_, w2, Fm.refl, 0, by omega, rfl, none, 0, Nw.none, Ow.mk0, rfl⟩ ?_
  rintro k t0 h3 ⟨w3, fm3, i, hi, rfl, oa2, cap2, nw2, ow2, rfl⟩
  by_cases hin : i < k0
  case neg =>
    have : i = k0 := by omega
    subst this
    rw [List.take_of_length_le (by omega)] at ow2 ⊢
    simp +contextual only [↓AM, ↓AV, AP, hin]
    refine ⟨oa2, cap2, ?_, ?_, fun x hx => Nat.le_trans fm2'.size (nw2 x hx), fm2'.trans fm3 (fun _ _ x => x)⟩
    · rw [hsec, hR]
    · rw [hR]; exact ow2.rd
  obtain ⟨b1, o1, s1, rfl, f1, u, hu, r3⟩ := (ow.rd.keep w2 fm3 (fun _ _ => id)).int hin
  have htk0 : M.take (i + 1) = M.take i ++ [u] := by rw [List.take_add_one, hu]; rfl
  have hlen0 : (M.take i).length = i := by simp; omega
  have hfl := addP_fold_len ((pm 0 (M.take i)).map (·.1)) []
  have hpl := pm_len (M.take i) 0
  by_cases hu0 : u < 0
  · have htk : ((pm 0 (M.take (i + 1))).map (·.1)).foldl addP [] = ((pm 0 (M.take i)).map (·.1)).foldl addP [] := by
      rw [htk0, pm_app]; simp [pm, hu0]
    simp +contextual (disch := omega) only [↓AM, ↓AV, AP, CQ, hin, f1, r3, hu0, i64]
    refine ⟨_, ?_, w3, fm3, i + 1, hin, rfl, oa2, cap2, nw2, ?_, ?_⟩
    · omega
    · rw [htk]; exact ow2
    · rw [htk]
  have htk : ((pm 0 (M.take (i + 1))).map (·.1)).foldl addP [] = addP (((pm 0 (M.take i)).map (·.1)).foldl addP []) i := by
    rw [htk0, pm_app]; simp [pm, hu0, List.foldl_append, hlen0]
  have hlt : (((pm 0 (M.take i)).map (·.1)).foldl addP []).length ≤ 80000000 := by simp at hfl hpl; omega
  generalize ((pm 0 (M.take i)).map (·.1)).foldl addP [] = O at ow2 htk hlt ⊢
  generalize hL : O.length = L at *
  rcases List.eq_nil_or_concat O with rfl | ⟨O, p, rfl⟩
  · have e1 : addP [] i = [(i, i + 1)] := rfl
    obtain rfl : 0 = L := hL
    have e2 : IntKind.i64.wrap (((0 : Nat) : Int) - 1) = -1 := i64 (by omega)
    have e3 : ((0 : Int) ≤ -1) = False := by simp
    simp +contextual (disch := omega) only [↓AM, ↓AV, AP, CQ, hin, f1, r3, hu0, e2, e3, i64]
    refine ow2.push (m := 1) w3 (by rfl) (by omega) fun a' cap' h5 o5 w5 f5 n5 => ?_
    obtain ⟨g1, g2⟩ := grown fm3 nw2 f5 n5
    simp +contextual (disch := omega) only [↓AM, ↓AV, AP, nadd1, i64]
    refine ⟨_, ?_, w5, g1, i + 1, hin, rfl, a', cap', g2, ?_, ?_⟩
    · omega
    · rw [htk, e1]; exact o5
    · rw [htk, e1]; rfl
  · rw [List.concat_eq_append] at ow2 htk
    obtain rfl : O.length + 1 = L := by rw [← hL]; simp
    obtain ⟨b, sp, ob, rfl, -, f2, hgb, hro, hle, hrd, hset⟩ := ow2.part (k := O.length * 2 + 1) (m := 1) w3 (by decide) (by omega)
    have r5 := hrd _ _ (get_last O p)
    have e1 : O.length < O.length + 1 := by omega
    have lastO : (O ++ [p]).getLast? = some p := by simp
    by_cases hpu : p.2 = i
    · have e2 : EqI (p.2 : Int) i = True := eq_true (by unfold EqI; omega)
      have e3 : addP (O ++ [p]) i = O ++ [(p.1, i + 1)] := by
        rw [addP, lastO]; simp [hpu]
      obtain ⟨o5, w5, fm5⟩ := hset [.int .i64 ((i + 1 : Nat) : Int)] rfl
      simp +contextual (disch := omega) only [↓AM, ↓AV, AP, CQ, hin, i64, f1, r3, hu0, f2, e1, r5, e2, hgb, hro, hle]
      refine ⟨_, ?_, w5, fm3.trans fm5 (fun x hx ha => absurd (nw2 x ha) (Nat.not_le_of_lt hx)), i + 1, hin, rfl, _, cap2, nw2, ?_, ?_⟩
      · omega
      · rw [spl_last] at o5
        rw [htk, e3]; simpa using o5
      · rw [htk, e3]; simp
    · have e2 : EqI (p.2 : Int) i = False := eq_false (by unfold EqI; omega)
      have e3 : addP (O ++ [p]) i = O ++ [p] ++ [(i, i + 1)] := by
        rw [addP, lastO]; simp [hpu]
      simp +contextual (disch := omega) only [↓AM, ↓AV, AP, CQ, hin, i64, f1, r3, hu0, f2, e1, r5, e2]
      refine ow2.push (m := 1) w3 (by rfl) (by omega) fun a' cap' h5 o5 w5 f5 n5 => ?_
      obtain ⟨g1, g2⟩ := grown fm3 nw2 f5 n5
      simp +contextual (disch := omega) only [↓AM, ↓AV, AP, nadd1, i64]
      refine ⟨_, ?_, w5, g1, i + 1, hin, rfl, a', cap', g2, ?_, ?_⟩
      · omega
      · rw [htk, e3]
        simp only [List.length_append, List.length_singleton, List.flatMap_append, List.flatMap_cons, List.flatMap_nil, List.append_nil] at o5 ⊢
        exact o5
      · rw [htk, e3]; simp
end Go.Proofs.Ytloonniiffbopaa.Cr
