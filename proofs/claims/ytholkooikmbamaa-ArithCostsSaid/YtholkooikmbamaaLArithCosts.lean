/- The law ArithCosts: equal bits with one state cost little. The walk over the abstract machine, and the run of equal bits, reckoned by the kernel.
   Conditions: none. -/
import Derived.Test.YtholkooikmbamaaLArithCostsK
import Derived.Test.YtholkooikmbamaaAmZb
import Derived.DataShut
namespace Go.Proofs.Ytholkooikmbamaa.LArithCosts
open Go Go.RowKit Go.Proofs.Ytholkooikmbamaa.Am Go.Proofs.Ytholkooikmbamaa.Af Go.Proofs.Ytholkooikmbamaa.Ar
set_option linter.unusedVariables false
set_option linter.unusedSimpArgs false
set_option maxRecDepth 20000

theorem runR_succ (b : Bool) : ∀ (j : Nat) (r : Rn), runR b (j + 1) r = stepR b (runR b j r)
  | 0, r => rfl
  | j + 1, r => runR_succ b j (stepR b r)
theorem allR_at (b : Bool) : ∀ (n k : Nat) (r : Rn), allR b n k r = true → ∀ j, j < n → okR (k + j) (runR b j r) = true
  | 0, k, r, _, j, hj => by omega
  | n + 1, k, r, h, j, hj => by
    simp only [allR, Bool.and_eq_true] at h
    cases j with
    | zero => exact h.1
    | succ j =>
      have := allR_at b n (k + 1) (stepR b r) h.2 j (by omega)
      rw [show k + (j + 1) = k + 1 + j by omega]
      exact this
theorem run_ok (b : Bool) {j : Nat} (hj : j ≤ 20000) : okR j (runR b j startR) = true := by
  have := allR_at b 20001 0 startR (by cases b; exact all0; exact all1) j (by omega)
  rwa [Nat.zero_add] at this
structure Rel (e : En) (r : Rn) : Prop where
  low : e.low = r.low
  span : e.span = r.span
  len : e.out.length = r.len
theorem rel_put {b : Bool} {e : En} {r : Rn} (g : Gd e) (hr : Rel e r) (hp : St (r.p : Int)) : Rel (put e r.p (if b then 1 else 0)) (stepR b r) ∧ stepI (r.p : Int) (if b then 1 else 0) = ((stepR b r).p : Int) := by
  obtain ⟨low, span, out, n⟩ := e
  obtain ⟨l, s, len, p⟩ := r
  obtain ⟨h1, h2, h3⟩ := hr
  have h1 : low = l := h1
  have h2 : span = s := h2
  have h3 : out.length = len := h3
  subst h1 h2
  have hb := bound_le g.span hp
  have hs := g.span
  obtain ⟨p1, p2⟩ := hp
  have p1 : 31 ≤ (p : Int) := p1
  have p2 : (p : Int) ≤ 4065 := p2
  have hw : ((s : Int) / 4096 * (p : Int)) = ((bound s p : Nat) : Int) := by simp [bound]
  simp only at hb hs
  rw [hw] at hb
  have hle : bound s p ≤ s := by omega
  have h10 : ¬ (1 : Int) = 0 := by decide
  simp only [put, bit1, stepR, norm, hw, stepI]
  generalize bound s p = x at hb hle
  clear hw g h1 h2
  cases b
  · simp only [Bool.false_eq_true, if_false, if_true]
    refine ⟨?_, ?_⟩
    · by_cases hsm : x < 16777216
      · have hsm' : (x : Int) < 16777216 := by omega
        simp only [if_pos hsm, if_pos hsm']
        exact ⟨by simp, by simp, by simp [h3]⟩
      · have hsm' : ¬ (x : Int) < 16777216 := by omega
        simp only [if_neg hsm, if_neg hsm']
        exact ⟨rfl, rfl, h3⟩
    · split <;> simp <;> omega
  · simp only [if_neg h10, if_true]
    refine ⟨?_, ?_⟩
    · by_cases hbig : 4294967296 ≤ l + x <;> by_cases hsm : s - x < 16777216
      · have hbig' : 4294967296 ≤ (l : Int) + (x : Int) := by omega
        have hsm' : (s : Int) - (x : Int) < 16777216 := by omega
        simp only [if_pos hbig, if_pos hbig', if_pos hsm, if_pos hsm']
        exact ⟨by simp; omega, by simp; omega, by simp [carry_len, h3]⟩
      · have hbig' : 4294967296 ≤ (l : Int) + (x : Int) := by omega
        have hsm' : ¬ (s : Int) - (x : Int) < 16777216 := by omega
        simp only [if_pos hbig, if_pos hbig', if_neg hsm, if_neg hsm']
        exact ⟨by simp; omega, by simp; omega, by simp [carry_len, h3]⟩
      · have hbig' : ¬ 4294967296 ≤ (l : Int) + (x : Int) := by omega
        have hsm' : (s : Int) - (x : Int) < 16777216 := by omega
        simp only [if_neg hbig, if_neg hbig', if_pos hsm, if_pos hsm']
        exact ⟨by simp, by simp; omega, by simp [h3]⟩
      · have hbig' : ¬ 4294967296 ≤ (l : Int) + (x : Int) := by omega
        have hsm' : ¬ (s : Int) - (x : Int) < 16777216 := by omega
        simp only [if_neg hbig, if_neg hbig', if_neg hsm, if_neg hsm']
        exact ⟨by simp, by simp; omega, by simp [h3]⟩
    · split <;> simp <;> omega

/-! ### the walk -/
theorem walk {h : Hp} (n : Int) (b : Bool) (w0 : (Lit.int .u16 n).wf = true) : ACalls Try.prog 3 [.int .u16 n, .bool b] h fun v h' => v = .bool true := by
  have hn : 0 ≤ n ∧ n ≤ 65535 := (Lit.wf_int_iff .u16 n).1 w0
  refine dioramalaw13_ArithCosts_ok.snd hm rfl fun w => ?_
  obtain ⟨k, hk, hkn⟩ : ∃ k : Nat, (IntKind.i64.wrap n).tmod 20001 = k ∧ k ≤ 20000 := by
    rw [i64 (by omega)]
    refine ⟨(n.tmod 20001).toNat, ?_, ?_⟩ <;> rw [Int.tmod_eq_emod_of_nonneg (by omega)] <;> omega
  have key : ∀ v : Int, v = (if b then 1 else 0) → WF Try.prog dioramalaw13_ArithCosts [.int .u16 n, .bool b] h (fun v h' => v = .bool true) := by
    intro v hv
    rw [WF_eq, dioramalaw13_ArithCosts]
    simp +contextual only [↓AM, ↓AV, AP, hk, show (20001 : Int) ≠ 0 by decide]
    refine WC.mk (fun t h' => h' = h ∧ t = [(5, some (.int .i64 k)), (6, some (.int .i64 v))]) ?_ ?_
    · subst hv
      cases b <;> simp +contextual only [↓AM, ↓AV, AP, Bool.false_eq_true, if_false, if_true]
    · rintro t h ⟨rfl, rfl⟩
      simp +contextual only [↓AM, ↓AV, AP]
      refine c_NewEncoder.use ?_
      rintro _ h1 w1 ⟨rfl, he, fm, hsz⟩
      simp +contextual only [↓AM, ↓AV, AP, isNilV, Option.isNone]
      refine WL.mk (fun m t h' => Wf h' ∧ ∃ i : Nat, i ≤ k ∧ m = k - i ∧ ∃ oa e, EncAt .u64 h' h.size oa e ∧ Gd e ∧ e.n = i ∧ Rel e (runR b i startR) ∧
        t = [(5, some (.int .i64 k)), (6, some (.int .i64 v)), (7, some (.pointer (some ⟨h.size, 0, none⟩))), (8, some (.int .i64 (runR b i startR).p)), (9, some (.int .i64 i))])
        ⟨k, w1, 0, by omega, rfl, none, new, he, new_gd, rfl, ⟨rfl, rfl, rfl⟩, rfl⟩ ?_
      rintro m t h2 ⟨w2, i, hi, rfl, oa, e, he2, g, hn, hr, rfl⟩
      have hok := run_ok b (j := i) (by omega)
      simp only [okR, Bool.and_eq_true, Bool.or_eq_true] at hok
      obtain ⟨⟨⟨q1, q2⟩, q3⟩, q4⟩ := hok
      have q1 := Nat.le_of_ble_eq_true q1
      have q2 := Nat.le_of_ble_eq_true q2
      have q3 := Nat.le_of_ble_eq_true q3
      have hlen := hr.len
      have fit : Fit e := ⟨g, by omega, by omega⟩
      by_cases hik : i < k
      · simp +contextual only [↓AM, ↓AV, AP, hik]
        refine (c_Bit he2 fit).use ?_
        rintro _ h3 w3 ⟨rfl, oa3, he3, fm3, nx3⟩
        have hst : St ((runR b i startR).p : Int) := ⟨by omega, by omega⟩
        have hv01 : v = 0 ∨ v = 1 := by rw [hv]; cases b <;> simp
        obtain ⟨r1, r2⟩ := rel_put (b := b) g hr hst
        rw [← hv, ← runR_succ] at r1 r2
        have hbit : bitI e ((runR b i startR).p) v = (((runR b (i + 1) startR).p : Int), 0) := by
          rw [bitI, if_pos hst, if_pos hv01, if_neg (by omega), r2]
        have hbe : bitE e ((runR b i startR).p) v = put e ((runR b i startR).p) v := by
          rw [bitE, if_pos ⟨hst, hv01, by omega⟩]
        simp +contextual only [↓AM, ↓AV, AP, hbit, pairV]
        refine ⟨_, ?_, w3, i + 1, hik, rfl, oa3, _, he3, ?_, ?_, ?_, ?_⟩
        · omega
        · rw [hbe]; exact put_gd g hst
        · rw [hbe]; show e.n + 1 = _; omega
        · rw [hbe]; exact r1
        · rw [i64 (by omega)]; rfl
      · have : i = k := by omega
        subst this
        simp +contextual only [↓AM, ↓AV, AP, hik]
        refine (c_Close he2 fit).use ?_
        rintro _ h3 w3 ⟨oa3, m, cap, rfl, ow, nw, fm3⟩
        have lm := ow.rd.ilen
        rw [closed, List.length_append, hlen] at lm
        have lm : (runR b i startR).len + 4 = m := lm
        have e8 : IntKind.i64.wrap (IntKind.i64.wrap ((i : Int).tdiv 8) + 8) = ((i / 8 + 8 : Nat) : Int) := by
          rw [IntWalk.i64_quo _ _ (by omega), i64 (by omega)]; omega
        have e40 : IntKind.i64.wrap (IntKind.i64.wrap ((i : Int).tdiv 40) + 40) = ((i / 40 + 40 : Nat) : Int) := by
          rw [IntWalk.i64_quo _ _ (by omega), i64 (by omega)]; omega
        have h4 : (4 : Int) ≤ (m : Int) := by omega
        have h5 : m ≤ i / 8 + 8 := by omega
        have q4 : i < 1000 ∨ m ≤ i / 40 + 40 := by
          rcases q4 with h | h
          · exact .inl (Nat.lt_of_succ_le (Nat.le_of_ble_eq_true h))
          · exact .inr (by have := Nat.le_of_ble_eq_true h; omega)
        by_cases hs : (i : Int) < 1000
        · simp +contextual only [↓AM, ↓AV, AP, h4, h5, e8, hs, show (8 : Int) ≠ 0 by decide]
          refine c_awake.use ?_
          rintro _ h4 w4 ⟨rfl, rfl⟩
          simp +contextual only [↓AM, ↓AV, AP]
        · have h6 : m ≤ i / 40 + 40 := q4.resolve_left (by omega)
          simp +contextual only [↓AM, ↓AV, AP, h4, h5, h6, e8, e40, hs, show (8 : Int) ≠ 0 by decide, show (40 : Int) ≠ 0 by decide]
          refine c_awake.use ?_
          rintro _ h4 w4 ⟨rfl, rfl⟩
          simp +contextual only [↓AM, ↓AV, AP]
  exact key _ rfl
end Go.Proofs.Ytholkooikmbamaa.LArithCosts
