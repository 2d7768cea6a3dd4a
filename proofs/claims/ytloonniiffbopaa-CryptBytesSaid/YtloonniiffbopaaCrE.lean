/- The stretches of a lock, and its marks. Plain theorems over the abstract machine.
   Conditions: none. -/
import Derived.Test.YtloonniiffbopaaCrD
namespace Go.Proofs.Ytloonniiffbopaa.Cr
open Go Go.RowKit Go.Proofs.Ytloonniiffbopaa.Am Go.Proofs.Ytloonniiffbopaa.Af
set_option linter.unusedVariables false
set_option linter.unusedSimpArgs false
set_option maxRecDepth 20000

/-- A lock in natural numbers. -/
structure Gk (l : Lk) (c t : Nat) (ps : List (Nat × Nat)) : Prop where
  crypt : l.crypt = c
  skip : l.skip = t
  parts : l.parts = ps.map fun p => ((p.1 : Int), (p.2 : Int))
  c10 : c ≤ 10
  t10 : t ≤ 10
  len : ps.length ≤ 40
  bd : ∀ p ∈ ps, p.1 ≤ 65536 ∧ p.2 ≤ 65536
def lps (l : Lk) : List (Nat × Nat) := l.parts.map fun x => (x.1.toNat, x.2.toNat)
theorem chk_gk {l : Lk} (h : chkI l = 0) : Gk l l.crypt.toNat l.skip.toNat (lps l) := by
  unfold chkI at h
  split at h
  · omega
  · rename_i h1
    split at h
    · omega
    · rename_i h2
      simp only [Bool.or_eq_true, _root_.not_or, Bool.not_eq_true] at h1
      obtain ⟨h3, h4⟩ := h1
      have hp : patB l.crypt l.skip = true := by
        simp only [headB, Bool.or_eq_false_iff, Bool.not_eq_false'] at h3
        exact h3.2
      simp only [patB, Bool.and_eq_true, decide_eq_true_eq] at hp
      have hb : ∀ x ∈ l.parts, (0 ≤ x.1 ∧ x.1 ≤ 65536) ∧ (0 ≤ x.2 ∧ x.2 ≤ 65536) := fun x hx => by
        have := List.any_eq_false.1 h4 x hx
        simpa only [badP, Bool.not_eq_true, Bool.or_eq_false_iff, Bool.not_eq_false', decide_eq_true_eq] using this
      refine ⟨by omega, by omega, ?_, by omega, by omega, by simpa [lps] using h2, ?_⟩
      · rw [lps, List.map_map]
        refine (List.map_id l.parts).symm.trans (List.map_congr_left ?_)
        refine fun x hx => ?_
        have := hb x hx
        show x = (((x.1.toNat : Nat) : Int), ((x.2.toNat : Nat) : Int))
        rw [Int.toNat_of_nonneg this.1.1, Int.toNat_of_nonneg this.2.1]
      · intro p hp'
        obtain ⟨x, hx, rfl⟩ := List.mem_map.1 hp'
        have := hb x hx
        exact ⟨by simp only; omega, by simp only; omega⟩
/-- The parts, or the whole. -/
def prts (ps : List (Nat × Nat)) (n : Nat) : List (Nat × Nat) := if ps = [] then [(0, n)] else ps
def natC (x : Nat × Nat) : List Value := [.int .i64 x.1, .int .i64 x.2]
theorem natC_len (x : Nat × Nat) : (natC x).length = 2 := rfl
theorem part_nat (ps : List (Nat × Nat)) : (ps.map fun p => ((p.1 : Int), (p.2 : Int))).flatMap partC = ps.flatMap natC := by
  rw [List.flatMap_map]; rfl
def strC (s : Str) : List Value := [.int .i64 s.1, .int .i64 s.2.1, .int .i64 s.2.2.1, .int .i64 s.2.2.2]
theorem strC_len (s : Str) : (strC s).length = 4 := rfl
/-- What stretches are found among parts. -/
structure Within (ps : List (Nat × Nat)) (M : Nat) : Prop where
  len : ps.length ≤ 40
  bd : ∀ p ∈ ps, p.1 ≤ M ∧ p.2 ≤ M
theorem sum_le {M : Nat} : ∀ {ps : List (Nat × Nat)}, (∀ p ∈ ps, p.1 ≤ M ∧ p.2 ≤ M) → sumP ps ≤ ps.length * (2 * M)
  | [], _ => by simp [sumP]
  | p :: ps, h => by
    have h1 := h p (by simp)
    have h2 := sum_le (ps := ps) fun q hq => h q (by simp [hq])
    simp only [sumP, List.map_cons, List.sum_cons, List.length_cons, Nat.add_mul] at h2 ⊢
    omega
theorem sum_take_le {M : Nat} {ps : List (Nat × Nat)} (w : Within ps M) (i : Nat) : sumP (ps.take i) ≤ 40 * (2 * M) := by
  have h1 := sum_le (ps := ps.take i) fun p hp => w.bd p (List.mem_of_mem_take hp)
  have h2 : (ps.take i).length ≤ 40 := by have := w.len; simp; omega
  exact Nat.le_trans h1 (Nat.mul_le_mul_right _ h2)
theorem sblks_le (c t a : Nat) (st : List Str × Nat) : ∀ n, (sblks c t a st n).1.length ≤ st.1.length + n ∧ (sblks c t a st n).2 ≤ st.2 + n
  | 0 => by simp [sblks]
  | n + 1 => by
    have := sblks_le c t a st n
    rw [sblks_S, sblk]
    split
    · simp only [List.length_append, List.length_singleton]; omega
    · omega
theorem spart_le (c t : Nat) (s : List Str × Nat × Nat) (p : Nat × Nat) : (spart c t s p).1.length ≤ s.1.length + p.2 + 1 ∧ (spart c t s p).2.2 ≤ s.2.2 + p.2 := by
  unfold spart
  split
  · simp only [List.length_append, List.length_singleton]; omega
  · have := sblks_le c t (s.2.1 + p.1) (s.1, s.2.2) (p.2 / 16)
    simp only at this ⊢
    omega
theorem sparts_le {c t M : Nat} {ps : List (Nat × Nat)} (w : Within ps M) : ∀ i, i ≤ ps.length → (sparts c t (ps.take i)).1.length ≤ i * (M + 1) ∧ (sparts c t (ps.take i)).2.2 ≤ i * M
  | 0, _ => by simp [sparts]
  | i + 1, h => by
    have ih := sparts_le (c := c) (t := t) w i (by omega)
    have hx : ps[i]? = some ps[i] := List.getElem?_eq_getElem (by omega)
    rw [List.take_add_one, hx]
    simp only [Option.toList_some]
    rw [sparts_snoc]
    have h1 := spart_le c t (sparts c t (ps.take i)) ps[i]
    have h2 := w.bd ps[i] (List.getElem_mem _)
    simp only [Nat.add_mul] at ih ⊢
    omega
theorem sblks_ok {c t a : Nat} {st : List Str × Nat} (h : ∀ s ∈ st.1, s.1 ≤ s.2.1) : ∀ n, ∀ s ∈ (sblks c t a st n).1, s.1 ≤ s.2.1
  | 0 => h
  | n + 1 => by
    rw [sblks_S, sblk]
    split
    · intro s hs
      rcases List.mem_append.1 hs with hs | hs
      · exact sblks_ok h n s hs
      · obtain rfl := List.mem_singleton.1 hs
        simp only; omega
    · exact sblks_ok h n
theorem sparts_ok (c t : Nat) (ps : List (Nat × Nat)) : ∀ s ∈ (sparts c t ps).1, s.1 ≤ s.2.1 := by
  unfold sparts
  have h0 : ∀ s ∈ (([] : List Str), 0, 0).1, s.1 ≤ s.2.1 := fun s hs => by cases hs
  revert h0
  generalize (([] : List Str), 0, 0) = st
  intro h0
  induction ps generalizing st with
  | nil => exact h0
  | cons p ps ih =>
    refine ih _ ?_
    unfold spart
    split
    · intro s hs
      rcases List.mem_append.1 hs with hs | hs
      · exact h0 s hs
      · obtain rfl := List.mem_singleton.1 hs
        simp only; omega
    · exact sblks_ok h0 _
theorem keepS_lt {S : List Str} (h : ∀ s ∈ S, s.1 ≤ s.2.1) : ∀ s ∈ keepS S, s.1 < s.2.1 := fun s hs => by
  obtain ⟨h1, h2⟩ := List.mem_filter.1 hs
  have := h s h1
  simp at h2
  omega

/-! ### lists of stretches -/
theorem c_str1 {h : Hp} {s : Str} : ACalls Try.prog 55 [.agg #[.int .i64 s.1, .int .i64 s.2.1, .int .i64 s.2.2.1, .int .i64 s.2.2.2]] h fun v h' => v = .bool (decide (s.1 = s.2.1)) ∧ Fm No h h' := by
  refine crypt_stretches_1_ok.snd hm rfl fun w => ?_
  rw [WF_eq, crypt_stretches_1]
  simp +contextual only [↓AM, ↓AV, AP]
  exact ⟨congrArg Value.bool (decide_eq_decide.2 (by unfold EqI; omega)), Fm.new Fm.refl⟩
theorem c_IndexStr {h : Hp} {a : Option Addr} {n c : Nat} {xs : List Str} (ha : Rd h 4 a n (xs.flatMap strC)) (hl : xs.length = n) (hn : n ≤ 140737488351232) :
    ACalls Try.prog 61 [.slice a n c, .func (.func 55) #[] #[]] h fun v h' =>
      ((v = .int .i64 (-1) ∧ keepS xs = xs) ∨ ∃ i : Nat, i < n ∧ v = .int .i64 i ∧ keepS (xs.take i) = xs.take i ∧ ∃ s, xs[i]? = some s ∧ s.1 = s.2.1) ∧ Fm No h h' := by
  refine slices_IndexFunc___crypt_stretch_crypt_stretch__ok.snd hm rfl fun w => ?_
  rw [WF_eq, slices_IndexFunc___crypt_stretch_crypt_stretch_]
  simp +contextual only [↓AM, ↓AV, AP]
  refine WL.mk (fun k t h' => Wf h' ∧ Fm No h h' ∧ ∃ i : Nat, i ≤ n ∧ k = n - i ∧ keepS (xs.take i) = xs.take i ∧ t = [(0, some (.slice a n c)), (1, some (.func (.func 55) #[] #[])), (7, some (.int .i64 n)), (8, some (.int .i64 i))]) ⟨n, w, Fm.refl, 0, by simp, rfl, rfl, rfl⟩ ?_
  rintro k t h1 ⟨w1, fm, i, hi, rfl, hall, rfl⟩
  by_cases hin : i < n
  · obtain ⟨b1, o1, s1, u, rfl, f1, hu, r1, -⟩ := (ha.keep w fm (fun x _ => id)).elem strC_len hl hin
    simp only [strC] at r1
    simp +contextual only [↓AM, ↓AV, AP, f1, r1, hin]
    refine ⟨by kernel_rfl, c_str1.use ?_⟩
    rintro _ h2 w2 ⟨rfl, fm2⟩
    have fm' := fm.trans fm2 (fun _ _ x => x)
    simp +contextual only [↓AM, ↓AV, AP]
    refine ⟨fun hpu => ⟨.inr ⟨i, hin, rfl, hall, u, hu, hpu⟩, fm'⟩, fun hpu => ⟨_, ?_, w2, fm', i + 1, hin, rfl, ?_, ?_⟩⟩
    · omega
    · rw [List.take_add_one, hu]
      simp only [keepS, List.filter_append] at hall ⊢
      rw [hall]
      simp [hpu]
    · rw [i64 (by omega)]; rfl
  · simp +contextual only [↓AM, ↓AV, AP, hin]
    rw [List.take_of_length_le (by omega)] at hall
    exact ⟨.inl hall, fm⟩
end Go.Proofs.Ytloonniiffbopaa.Cr
