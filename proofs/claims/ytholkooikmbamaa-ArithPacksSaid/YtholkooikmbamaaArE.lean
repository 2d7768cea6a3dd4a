/- New states: slices.Repeat, and the reference's. Plain theorems over the abstract machine.
   Conditions: none. -/
import Derived.Test.YtholkooikmbamaaArD
namespace Go.Proofs.Ytholkooikmbamaa.Ar
open Go Go.RowKit Go.Proofs.Ytholkooikmbamaa.Am Go.Proofs.Ytholkooikmbamaa.Af
set_option linter.unusedVariables false
set_option linter.unusedSimpArgs false
set_option maxRecDepth 20000

theorem c_Mul64 {h : Hp} {n : Int} (hn : 0 ≤ n ∧ n ≤ 100000) : ACalls Try.prog 81 [.int .u64 1, .int .u64 n] h fun v h' => v = .tuple #[.int .u64 0, .int .u64 n] ∧ h' = h := by
  refine bits_Mul64_ok.snd hm rfl fun w => ?_
  rw [WF_eq, bits_Mul64]
  simp only [↓AM, ↓AV, AP]
  have e1 := and_full (x := 1) (by omega)
  have e0 := and_full (x := 0) (by omega)
  have en := and_full (x := n) (by omega)
  have s1 : (1 : Int).fdiv (2 ^ min 32 IntKind.u64.bits) = 0 := by decide
  have s0 : (0 : Int).fdiv (2 ^ min 32 IntKind.u64.bits) = 0 := by decide
  have sn : n.fdiv (2 ^ min 32 IntKind.u64.bits) = 0 := by
    rw [show min 32 IntKind.u64.bits = 32 from rfl, shr_u (by omega)]; omega
  have w0 : IntKind.u64.wrap 0 = 0 := by decide
  have wn : IntKind.u64.wrap n = n := u64 (by omega)
  have m1 : n % 4294967296 = n := by omega
  have m2 : (1 : Int) % 4294967296 = 1 := by decide
  have m0 : (0 : Int) % 4294967296 = 0 := by decide
  simp only [e1, e0, en, s1, s0, sn, w0, wn, m1, m2, m0, Int.one_mul, Int.zero_mul, Int.mul_zero, Int.add_zero, Int.zero_add, and_true]
  trace_state
theorem c_Mul {h : Hp} {n : Int} (hn : 0 ≤ n ∧ n ≤ 100000) : ACalls Try.prog 75 [.int .u64 1, .int .u64 n] h fun v h' => v = .tuple #[.int .u64 0, .int .u64 n] ∧ h' = h := by
  refine bits_Mul_ok.snd hm rfl fun w => ?_
  rw [WF_eq, bits_Mul]
  simp only [↓AM, ↓AV, AP]
  refine (c_Mul64 hn).use ?_
  rintro _ h w1 ⟨rfl, rfl⟩
  simp only [↓AM, ↓AV, AP]
theorem rep_one {n : Nat} {v : Value} : rep n [v] = List.replicate n v := by
  induction n with
  | zero => rfl
  | succ n ih =>
    simp only [rep, List.replicate_succ, List.flatten_cons] at ih ⊢
    rw [ih]; rfl
theorem c_Repeat {h : Hp} {a : Option Addr} {c : Nat} {v : Value} {n : Nat} (ha : Rd h 1 a 1 [v]) (hn : n ≤ 100000) :
    ACalls Try.prog 55 [.slice a 1 c, .int .i64 n] h fun r h' => ∃ b, r = .slice (some ⟨b, 0, none⟩) n n ∧ h'.get b = some ⟨List.replicate n v, .own⟩ ∧ h.size ≤ b ∧ Fm No h h' := by
  refine slices_Repeat___int_int__ok.snd hm rfl fun w => ?_
  rw [WF_eq, slices_Repeat___int_int_]
  have wn : IntKind.u64.wrap (n : Int) = n := u64 (by omega)
  have wi : IntKind.i64.wrap (n : Int) = n := i64 (by omega)
  have w1 : IntKind.u64.wrap ((1 : Nat) : Int) = 1 := by decide
  have hn0 : ¬ (n : Int) < 0 := by omega
  simp +contextual only [↓AM, ↓AV, AP, hn0, wn, w1]
  refine (c_Mul (by omega)).use ?_
  rintro _ h w1 ⟨rfl, rfl⟩
  have hg : ¬ (9223372036854775807 : Int) < n := by omega
  have h00 : ¬ (0 : Int) < 0 := by decide
  simp +contextual only [↓AM, ↓AV, AP, hg, h00, wi]
  refine ⟨⟨by omega, by omega⟩, ?_⟩
  have fm : Fm No h (h.new ⟨rep n [.int .i64 0], .own⟩) := Fm.new Fm.refl
  have ha' := ha.keep w1 fm (fun _ _ => id)
  have hs : (h.new ⟨rep n [.int .i64 0], .own⟩).src 1 (.slice a (Nat.min 1 n) c) = some (List.replicate (Nat.min 1 n) v) := by
    rcases Nat.eq_zero_or_pos n with h0 | h0
    · subst h0
      obtain ⟨b, off, sp, rfl, f1, h1⟩ := ha'.pos Nat.one_pos
      obtain ⟨ob, g1, g2, _⟩ := rdN_of h1
      rw [show Nat.min 1 0 = 0 from rfl]
      simp only [Hp.src, f1]
      rw [rdN_mk g1 (by omega)]
      simp
    · rw [show Nat.min 1 n = 1 from Nat.min_eq_left h0]
      exact ha'.src
  have hk0 : Nat.min 1 n ≤ n ∧ (n = 0 ∨ 1 ≤ Nat.min 1 n) := by
    show min 1 n ≤ n ∧ (n = 0 ∨ 1 ≤ min 1 n)
    omega
  have hcell : ∀ k, k ≤ n → spl (rep n [.int .i64 0]) 0 (List.replicate k v) = List.replicate k v ++ List.replicate (n - k) (.int .i64 0) := by
    intro k hk
    rw [rep_one]; simp [spl]
  simp only [↓AM, ↓AV, AP, hs]
  refine ⟨by rw [rep_one]; simp; exact hk0.1, ?_⟩
  rw [hcell _ hk0.1]
  generalize Nat.min 1 n = k0 at hk0
  refine WL.mk (fun m t h' => Wf h' ∧ Fm No h h' ∧ ∃ k, k ≤ n ∧ (n = 0 ∨ 1 ≤ k) ∧ m = n - k ∧ h'.get h.size = some ⟨List.replicate k v ++ List.replicate (n - k) (.int .i64 0), .own⟩ ∧ t = [(7, some (.slice (some ⟨h.size, 0, none⟩) n n)), (8, some (.int .i64 (k : Nat)))])
    ⟨_, w1.new, Fm.new Fm.refl, k0, hk0.1, hk0.2, rfl, gnew, rfl⟩ ?_
  rintro m t h2 ⟨w3, fm2, k, hk, hk1, rfl, hg2, rfl⟩
  by_cases hkn : k < n
  · have hk1 : 1 ≤ k := by omega
    simp +contextual only [↓AM, ↓AV, AP, hkn, bnds, capOk, slAddr, Option.isNone]
    have hz : (if n = 0 then 0 else 0) = 0 := by split <;> rfl
    have hnk : (if n = k then 0 else k) = k := if_neg (by omega)
    have hmin : k.min (n - k) = min k (n - k) := rfl
    have hs2 : h2.src 1 (.slice (some ⟨h.size, 0, none⟩) (min k (n - k)) n) = some (List.replicate (min k (n - k)) v) := by
      simp only [Hp.src, flagOk_none]
      rw [rdN_mk hg2 (by simp; omega)]
      simp only [List.drop_zero, Nat.mul_one]
      rw [List.take_append_of_le_length (by simp; omega)]
      simp
    rw [hz, hnk, hmin]
    simp only [↓AM, ↓AV, AP, hs2, hg2]
    refine ⟨by omega, by omega, by simp; omega, n - (k + min k (n - k)), by omega, w3.put (w3.lt hg2), fm2.put fun h => absurd h (Nat.lt_irrefl _), k + min k (n - k), by omega, .inr (by omega), rfl, ?_, ?_⟩
    · congr 2
      unfold spl
      rw [List.take_left' (by simp), List.length_replicate, List.replicate_append_replicate, List.drop_append, List.length_replicate, List.drop_of_length_le (by simp), List.nil_append, List.drop_replicate]
      congr 2
      omega
    · rw [i64 (by omega)]; rfl
  · have : k = n := by omega
    subst this
    simp +contextual only [↓AM, ↓AV, AP, hkn]
    refine ⟨_, rfl, ?_, Nat.le_refl _, fm2⟩
    rw [hg2]; simp
/-- New states, or an error. -/
theorem c_States {h : Hp} {n : Int} : ACalls Try.prog 27 [.int .i64 n] h fun r h' => (¬ (0 ≤ n ∧ n ≤ 100000) → r = .tuple #[.slice none 0 0, .int .i64 1]) ∧ (0 ≤ n ∧ n ≤ 100000 → ∃ b, r = .tuple #[.slice (some ⟨b, 0, none⟩) n.toNat n.toNat, .int .i64 0] ∧ Ow h' 1 (some ⟨b, 0, none⟩) n.toNat n.toNat ((List.replicate n.toNat 2048).map (Value.int .i64)) ∧ h.size ≤ b) ∧ Fm No h h' := by
  refine arith_States_ok.snd hm rfl fun w => ?_
  rw [WF_eq, arith_States]
  by_cases h0 : n < 0
  · simp +contextual only [↓AM, ↓AV, AP, h0]
    exact ⟨fun _ => trivial, fun h => by omega, Fm.refl⟩
  · by_cases h1 : 100000 < n
    · simp +contextual only [↓AM, ↓AV, AP, h0, h1]
      exact ⟨fun _ => trivial, fun h => by omega, Fm.refl⟩
    · simp +contextual only [↓AM, ↓AV, AP, h0, h1]
      obtain ⟨m, rfl⟩ : ∃ m : Nat, n = m := ⟨n.toNat, by omega⟩
      have fm : Fm No h (h.new ⟨[.int .i64 2048], .own⟩) := Fm.new Fm.refl
      have rd : Rd (h.new ⟨[.int .i64 2048], .own⟩) 1 (some ⟨h.size, 0, none⟩) 1 [.int .i64 2048] := (Ow.new (n := 1) (m := 1) rfl (by omega)).rd
      refine (c_Repeat rd (by omega)).use ?_
      rintro _ h' w' ⟨b, rfl, hg, hb, fm'⟩
      simp +contextual only [↓AM, ↓AV, AP]
      refine ⟨fun h => (h (by omega)).elim, fun _ => ⟨b, rfl, ⟨by simp, Nat.le_refl _, (fun e => by cases e), fun a e => by cases e; exact ⟨rfl, _, hg, by simp, by simp, by simp, .inl rfl⟩⟩, Nat.le_of_succ_le hb⟩, fm.trans fm' fun _ _ h => h⟩
theorem c_rStates {h : Hp} {n : Int} : ACalls Try.prog 28 [.int .i64 n] h fun r h' => (¬ (0 ≤ n ∧ n ≤ 100000) → r = .tuple #[.slice none 0 0, .int .i64 1]) ∧ (0 ≤ n ∧ n ≤ 100000 → ∃ oa cap, r = .tuple #[.slice oa n.toNat cap, .int .i64 0] ∧ Ow h' 1 oa n.toNat cap ((List.replicate n.toNat 2048).map (Value.int .i64)) ∧ Nw h oa) ∧ Fm No h h' := by
  refine dioramaref13_States_ok.snd hm rfl fun w => ?_
  rw [WF_eq, dioramaref13_States]
  by_cases h0 : n < 0
  · simp +contextual only [↓AM, ↓AV, AP, h0]
    exact ⟨fun _ => trivial, fun h => by omega, Fm.refl⟩
  · by_cases h1 : 100000 < n
    · simp +contextual only [↓AM, ↓AV, AP, h0, h1]
      exact ⟨fun _ => trivial, fun h => by omega, Fm.refl⟩
    · simp +contextual only [↓AM, ↓AV, AP, h0, h1]
      obtain ⟨m, rfl⟩ : ∃ m : Nat, n = m := ⟨n.toNat, by omega⟩
      refine WL.mk (fun k t h' => Wf h' ∧ Fm No h h' ∧ ∃ i : Nat, i ≤ m ∧ k = m - i ∧ ∃ oa cap, Nw h oa ∧ Ow h' 1 oa i cap ((List.replicate i 2048).map (Value.int .i64)) ∧ t = [(0, some (.int .i64 m)), (4, some (.slice oa i cap)), (5, some (.int .i64 i))])
        ⟨m, w, Fm.refl, 0, by omega, rfl, _, _, Nw.none, Ow.mk0, rfl⟩ ?_
      rintro k t h1 ⟨w1, fm, i, hi, rfl, oa, cap, nw, ow, rfl⟩
      by_cases him : i < m
      · simp +contextual only [↓AM, ↓AV, AP, him, src_new]
        refine ow.push (m := 1) w1 rfl (by omega) fun oa' cap' h' o' w' f' n' => ?_
        try simp +contextual only [↓AM, ↓AV, AP]
        obtain ⟨g1, g2⟩ := grown fm nw f' n'
        refine ⟨_, ?_, w', g1, i + 1, him, rfl, oa', cap', g2, ?_, ?_⟩
        · omega
        · rw [List.replicate_succ', List.map_append]; exact o'
        · rw [i64 (by omega)]; rfl
      · have : i = m := by omega
        subst this
        simp +contextual only [↓AM, ↓AV, AP, him]
        exact ⟨fun h => (h (by omega)).elim, fun _ => ⟨_, _, rfl, ow, nw⟩, fm⟩
end Go.Proofs.Ytholkooikmbamaa.Ar
