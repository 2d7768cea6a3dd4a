/- Which bytes a lock protects: byte by byte, and by stretches. Plain theorems.
   Conditions: none. -/
namespace Go.Proofs.Ytloonniiffbopaa.Cr
set_option linter.unusedVariables false
set_option linter.unusedSimpArgs false

/-- Is byte k of s secret ones protected? -/
def sec (c t s k : Nat) : Bool := decide (c = 0) || (decide (k / 16 < s / 16) && decide (k / 16 % (c + t) < c))
/-- One byte more: its mark. -/
def mstep (b : Nat → Bool) (st : List Int × Nat) (k : Nat) : List Int × Nat := if b k then (st.1 ++ [(st.2 : Int)], st.2 + 1) else (st.1 ++ [-1], st.2)
def mrun (b : Nat → Bool) (st : List Int × Nat) (n : Nat) : List Int × Nat := (List.range n).foldl (mstep b) st
theorem mrun_0 (b : Nat → Bool) (st : List Int × Nat) : mrun b st 0 = st := rfl
theorem mrun_S (b : Nat → Bool) (st : List Int × Nat) (n : Nat) : mrun b st (n + 1) = mstep b (mrun b st n) n := by simp [mrun, List.range_succ]
theorem mrun_len (b : Nat → Bool) (st : List Int × Nat) : ∀ n, (mrun b st n).1.length = st.1.length + n
  | 0 => rfl
  | n + 1 => by
    rw [mrun_S, mstep]
    split <;> simp [mrun_len b st n] <;> omega
/-- A part: clear bytes, then secret ones. -/
def mpart (c t : Nat) (st : List Int × Nat) (p : Nat × Nat) : List Int × Nat := mrun (sec c t p.2) (st.1 ++ List.replicate p.1 (-1), st.2) p.2
def mparts (c t : Nat) (ps : List (Nat × Nat)) : List Int × Nat := ps.foldl (mpart c t) ([], 0)
theorem mpart_len (c t : Nat) (st : List Int × Nat) (p : Nat × Nat) : (mpart c t st p).1.length = st.1.length + p.1 + p.2 := by simp [mpart, mrun_len]
def sumP (ps : List (Nat × Nat)) : Nat := (ps.map fun p => p.1 + p.2).sum
theorem mfold_len (c t : Nat) : ∀ (ps : List (Nat × Nat)) (st : List Int × Nat), (ps.foldl (mpart c t) st).1.length = st.1.length + sumP ps
  | [], st => by simp [sumP]
  | p :: ps, st => by
    rw [List.foldl_cons, mfold_len c t ps, mpart_len]
    simp only [sumP, List.map_cons, List.sum_cons]; omega
theorem mparts_len (c t : Nat) (ps : List (Nat × Nat)) : (mparts c t ps).1.length = sumP ps := by simp [mparts, mfold_len]
theorem mparts_snoc (c t : Nat) (ps : List (Nat × Nat)) (p : Nat × Nat) : mparts c t (ps ++ [p]) = mpart c t (mparts c t ps) p := by simp [mparts]
theorem sumP_snoc (ps : List (Nat × Nat)) (p : Nat × Nat) : sumP (ps ++ [p]) = sumP ps + (p.1 + p.2) := by simp [sumP]

/-- The marked places with their marks. -/
def pm : Nat → List Int → List (Nat × Nat)
  | _, [] => []
  | i, x :: r => if x < 0 then pm (i + 1) r else (i, x.toNat) :: pm (i + 1) r
theorem pm_app : ∀ (i : Nat) (a b : List Int), pm i (a ++ b) = pm i a ++ pm (i + a.length) b
  | i, [], b => by simp [pm]
  | i, x :: r, b => by
    simp only [List.cons_append, pm, List.length_cons]
    rw [pm_app (i + 1) r b, show i + 1 + r.length = i + (r.length + 1) by omega]
    split <;> simp
theorem pm_rep : ∀ (n i : Nat), pm i (List.replicate n (-1)) = []
  | 0, i => rfl
  | n + 1, i => by rw [List.replicate_succ, pm, if_pos (by omega), pm_rep n]
/-- A stretch: from, to, block, byte of it. -/
abbrev Str := Nat × Nat × Nat × Nat
def Str.at (s : Str) : List (Nat × Nat) := (List.range (s.2.1 - s.1)).map fun i => (s.1 + i, s.2.2.1 * 16 + s.2.2.2 + i)
def flat (S : List Str) : List (Nat × Nat) := S.flatMap Str.at
theorem flat_app (S T : List Str) : flat (S ++ T) = flat S ++ flat T := by simp [flat]
theorem flat_one (s : Str) : flat [s] = s.at := by simp [flat]
theorem mrun_true {b : Nat → Bool} {st : List Int × Nat} {a : Nat} : ∀ n, (∀ k, a ≤ k → k < a + n → b k = true) →
    mrun b st (a + n) = ((mrun b st a).1 ++ (List.range n).map (fun i => (((mrun b st a).2 + i : Nat) : Int)), (mrun b st a).2 + n)
  | 0, _ => by simp
  | n + 1, h => by
    rw [show a + (n + 1) = a + n + 1 from rfl, mrun_S, mrun_true n (fun k h1 h2 => h k h1 (by omega)), mstep, if_pos (h _ (by omega) (by omega)), List.range_succ]
    simp [Nat.add_assoc]
theorem mrun_false {b : Nat → Bool} {st : List Int × Nat} {a : Nat} : ∀ n, (∀ k, a ≤ k → k < a + n → b k = false) →
    mrun b st (a + n) = ((mrun b st a).1 ++ List.replicate n (-1), (mrun b st a).2)
  | 0, _ => by simp
  | n + 1, h => by
    rw [show a + (n + 1) = a + n + 1 from rfl, mrun_S, mrun_false n (fun k h1 h2 => h k h1 (by omega)), mstep, if_neg (by simp [h (a + n) (by omega) (by omega)]), List.replicate_succ']
    simp
theorem pm_seq (j : Nat) : ∀ (n i : Nat), pm i ((List.range n).map (fun q => ((j + q : Nat) : Int))) = (List.range n).map fun q => (i + q, j + q)
  | 0, i => rfl
  | n + 1, i => by
    rw [List.range_succ, List.map_append, pm_app, pm_seq j n, List.map_append]
    simp only [List.map_cons, List.map_nil, pm, List.length_map, List.length_range]
    rw [if_neg (by omega), Int.toNat_natCast]
/-- The blocks of a part with a pattern. -/
def sblk (c t at0 : Nat) (st : List Str × Nat) (k : Nat) : List Str × Nat := if k % (c + t) < c then (st.1 ++ [(at0 + 16 * k, at0 + 16 * k + 16, st.2, 0)], st.2 + 1) else st
def sblks (c t at0 : Nat) (st : List Str × Nat) (n : Nat) : List Str × Nat := (List.range n).foldl (sblk c t at0) st
theorem sblks_S (c t at0 : Nat) (st : List Str × Nat) (n : Nat) : sblks c t at0 st (n + 1) = sblk c t at0 (sblks c t at0 st n) n := by simp [sblks, List.range_succ]
def spart (c t : Nat) (st : List Str × Nat × Nat) (p : Nat × Nat) : List Str × Nat × Nat :=
  if c = 0 then (st.1 ++ [(st.2.1 + p.1, st.2.1 + p.1 + p.2, st.2.2 / 16, st.2.2 % 16)], st.2.1 + p.1 + p.2, st.2.2 + p.2)
  else let r := sblks c t (st.2.1 + p.1) (st.1, st.2.2) (p.2 / 16); (r.1, st.2.1 + p.1 + p.2, r.2)
def sparts (c t : Nat) (ps : List (Nat × Nat)) : List Str × Nat × Nat := ps.foldl (spart c t) ([], 0, 0)
theorem sparts_snoc (c t : Nat) (ps : List (Nat × Nat)) (p : Nat × Nat) : sparts c t (ps ++ [p]) = spart c t (sparts c t ps) p := by simp [sparts]
/-- Both say the same. -/
structure Agr (c : Nat) (m : List Int × Nat) (s : List Str × Nat × Nat) : Prop where
  flat : flat s.1 = pm 0 m.1
  at_ : s.2.1 = m.1.length
  num : m.2 = if c = 0 then s.2.2 else 16 * s.2.2
theorem sblks_agr {c t n : Nat} (hc : c ≠ 0) (o : List Int) (j : Nat) (S : List Str) (d : Nat) (hf : flat S = pm 0 o) (hj : j = 16 * d) : ∀ k, k ≤ n / 16 →
    flat (sblks c t o.length (S, d) k).1 = pm 0 (mrun (sec c t n) (o, j) (16 * k)).1 ∧ (mrun (sec c t n) (o, j) (16 * k)).2 = 16 * (sblks c t o.length (S, d) k).2
  | 0, _ => by simp [sblks, mrun, hf, hj]
  | k + 1, hk => by
    obtain ⟨h1, h2⟩ := sblks_agr (t := t) (n := n) hc o j S d hf hj k (by omega)
    have hl := mrun_len (sec c t n) (o, j) (16 * k)
    rw [sblks_S, sblk, show 16 * (k + 1) = 16 * k + 16 by omega]
    have hs : ∀ q, 16 * k ≤ q → q < 16 * k + 16 → sec c t n q = decide (k % (c + t) < c) := by
      intro q hq1 hq2
      have : q / 16 = k := by omega
      simp only [sec, this, decide_eq_false hc, Bool.false_or, decide_eq_true (show k < n / 16 by omega), Bool.true_and]
    by_cases hb : k % (c + t) < c
    · rw [if_pos hb, mrun_true 16 (fun q a b => by rw [hs q a b]; simp [hb])]
      generalize hr : mrun (sec c t n) (o, j) (16 * k) = r at h1 h2 hl
      obtain ⟨r1, r2⟩ := r
      simp only at h1 h2 hl ⊢
      rw [flat_app, pm_app, h1, pm_seq, flat_one, Str.at]
      refine ⟨?_, by omega⟩
      congr 1
      simp only
      rw [show o.length + 16 * k + 16 - (o.length + 16 * k) = 16 by omega]
      refine List.map_congr_left fun q _ => ?_
      rw [h2, hl, Prod.mk.injEq]
      omega
    · rw [if_neg hb, mrun_false 16 (fun q a b => by rw [hs q a b]; simp [hb])]
      simp only
      rw [pm_app, pm_rep, List.append_nil]
      exact ⟨h1, h2⟩
theorem part_agr {c t : Nat} {m : List Int × Nat} {s : List Str × Nat × Nat} (h : Agr c m s) (p : Nat × Nat) : Agr c (mpart c t m p) (spart c t s p) := by
  obtain ⟨m1, m2⟩ := m
  obtain ⟨S, a, d⟩ := s
  obtain ⟨p1, p2⟩ := p
  obtain ⟨h1, h2, h3⟩ := h
  simp only at h1 h2 h3
  have hf : flat S = pm 0 (m1 ++ List.replicate p1 (-1)) := by rw [pm_app, pm_rep, List.append_nil, h1]
  have hl : (m1 ++ List.replicate p1 (-1)).length = a + p1 := by simp [h2]
  refine ⟨?_, ?_, ?_⟩
  · unfold spart mpart
    simp only
    by_cases hc : c = 0
    · rw [if_pos hc, flat_app, flat_one, Str.at]
      have := mrun_true (b := sec c t p2) (st := (m1 ++ List.replicate p1 (-1), m2)) (a := 0) p2 (fun k _ _ => by simp [sec, hc])
      rw [Nat.zero_add] at this
      rw [this, mrun_0, pm_app, pm_seq, hf]
      congr 1
      simp only
      rw [show a + p1 + p2 - (a + p1) = p2 by omega]
      refine List.map_congr_left fun q _ => ?_
      rw [hl, Prod.mk.injEq, h3, if_pos hc]
      omega
    · rw [if_neg hc]
      rw [if_neg hc] at h3
      obtain ⟨g1, g2⟩ := sblks_agr (t := t) (n := p2) hc _ m2 S d hf h3 (p2 / 16) (Nat.le_refl _)
      rw [hl] at g1
      simp only
      rw [g1]
      have e : 16 * (p2 / 16) + p2 % 16 = p2 := by omega
      have := mrun_false (b := sec c t p2) (st := (m1 ++ List.replicate p1 (-1), m2)) (a := 16 * (p2 / 16)) (p2 % 16) (fun k h1 h2 => by
        have : ¬ k / 16 < p2 / 16 := by omega
        simp [sec, hc, this])
      rw [e] at this
      rw [this]
      simp only
      rw [pm_app, pm_rep, List.append_nil]
  · rw [mpart_len, spart]
    split <;> simp only <;> omega
  · unfold spart mpart
    simp only
    by_cases hc : c = 0
    · rw [if_pos hc, if_pos hc]
      rw [if_pos hc] at h3
      have := mrun_true (b := sec c t p2) (st := (m1 ++ List.replicate p1 (-1), m2)) (a := 0) p2 (fun k _ _ => by simp [sec, hc])
      rw [Nat.zero_add] at this
      rw [this, mrun_0]
      simp only
      omega
    · rw [if_neg hc, if_neg hc]
      rw [if_neg hc] at h3
      obtain ⟨g1, g2⟩ := sblks_agr (t := t) (n := p2) hc _ m2 S d hf h3 (p2 / 16) (Nat.le_refl _)
      rw [hl] at g2
      have e : 16 * (p2 / 16) + p2 % 16 = p2 := by omega
      have := mrun_false (b := sec c t p2) (st := (m1 ++ List.replicate p1 (-1), m2)) (a := 16 * (p2 / 16)) (p2 % 16) (fun k h1 h2 => by
        have : ¬ k / 16 < p2 / 16 := by omega
        simp [sec, hc, this])
      rw [e] at this
      rw [this]
      exact g2
theorem parts_agr (c t : Nat) (ps : List (Nat × Nat)) : Agr c (mparts c t ps) (sparts c t ps) := by
  unfold mparts sparts
  have h0 : Agr c ([], 0) ([], 0, 0) := ⟨rfl, rfl, by simp⟩
  revert h0
  generalize (([] : List Int), 0) = m
  generalize (([] : List Str), 0, 0) = s
  intro h0
  induction ps generalizing m s with
  | nil => exact h0
  | cons p ps ih => exact ih _ _ (part_agr h0 p)
theorem sparts_at (c t : Nat) (ps : List (Nat × Nat)) : (sparts c t ps).2.1 = sumP ps := by rw [(parts_agr c t ps).at_, mparts_len]

/-- Stretches that are not empty. -/
def keepS (S : List Str) : List Str := S.filter fun s => !decide (s.1 = s.2.1)
theorem flat_keep : ∀ S : List Str, flat (keepS S) = flat S
  | [] => rfl
  | s :: S => by
    have ih := flat_keep S
    unfold keepS at ih ⊢
    rw [List.filter_cons]
    split
    · simp only [flat, List.flatMap_cons] at ih ⊢
      rw [ih]
    · rename_i h
      rw [ih]
      simp only [Bool.not_eq_true', decide_eq_false_iff_not, Decidable.not_not] at h
      simp [flat, Str.at, h]
/-- One place more among the runs. -/
def addP (out : List (Nat × Nat)) (i : Nat) : List (Nat × Nat) := match out.getLast? with
  | some p => if p.2 = i then out.dropLast ++ [(p.1, i + 1)] else out ++ [(i, i + 1)]
  | none => [(i, i + 1)]
def addS (out : List (Nat × Nat)) (s : Str) : List (Nat × Nat) := match out.getLast? with
  | some p => if p.2 = s.1 then out.dropLast ++ [(p.1, s.2.1)] else out ++ [(s.1, s.2.1)]
  | none => [(s.1, s.2.1)]
theorem addP_runs (o : List (Nat × Nat)) (x f : Nat) : ∀ n, ((List.range n).map (f + ·)).foldl addP (o ++ [(x, f)]) = o ++ [(x, f + n)]
  | 0 => by simp
  | n + 1 => by
    rw [List.range_succ, List.map_append, List.foldl_append, addP_runs o x f n]
    simp [addP, Nat.add_assoc]
theorem addS_runs (out : List (Nat × Nat)) (s : Str) (h : s.1 < s.2.1) : addS out s = (s.at.map (·.1)).foldl addP out := by
  obtain ⟨f, t, b, z⟩ := s
  simp only at h
  obtain ⟨n, rfl⟩ : ∃ n, t = f + 1 + n := ⟨t - f - 1, by omega⟩
  have e : (Str.at (f, f + 1 + n, b, z)).map (·.1) = f :: (List.range n).map (f + 1 + ·) := by
    simp only [Str.at, List.map_map]
    rw [show f + 1 + n - f = n + 1 by omega, List.range_succ_eq_map]
    simp [Function.comp_def, Nat.add_assoc, Nat.add_comm 1]
  rw [e, List.foldl_cons]
  rcases List.eq_nil_or_concat out with rfl | ⟨o, p, rfl⟩
  · have := addP_runs [] f (f + 1) n
    simp only [List.nil_append] at this
    simp only [addP, addS, List.getLast?_nil]
    rw [this]
  · simp only [List.concat_eq_append, addP, addS, List.getLast?_append, List.getLast?_singleton, Option.some_or, List.dropLast_concat]
    split
    · rw [addP_runs]
    · rw [addP_runs]
theorem runs_eq : ∀ (S : List Str) (out : List (Nat × Nat)), (∀ s ∈ S, s.1 < s.2.1) → S.foldl addS out = ((flat S).map (·.1)).foldl addP out
  | [], out, _ => rfl
  | s :: S, out, h => by
    rw [List.foldl_cons, runs_eq S _ (fun x hx => h x (by simp [hx])), addS_runs _ _ (h s (by simp))]
    simp [flat, List.foldl_append]
end Go.Proofs.Ytloonniiffbopaa.Cr
