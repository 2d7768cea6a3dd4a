/- The law CryptWhole: a plan without pattern and clear beginning protects all bytes. The walk over the abstract machine.
   Conditions: none. -/
import Derived.Test.YtloonniiffbopaaCrS
import Derived.Test.YtloonniiffbopaaCrJ
import Derived.DataShut
namespace Go.Proofs.Ytloonniiffbopaa.LCryptWhole
open Go Go.RowKit Go.Proofs.Ytloonniiffbopaa.Am Go.Proofs.Ytloonniiffbopaa.Af Go.Proofs.Ytloonniiffbopaa.Cr
set_option linter.unusedVariables false
set_option linter.unusedSimpArgs false
set_option maxRecDepth 20000

theorem whole {k no : Int} {n : Nat} (hk : 1 ≤ k ∧ k ≤ 4) (hno : 0 ≤ no ∧ no ≤ 1099511627776) (hn : (n : Int) ≤ 65536) : secE ⟨k, no, 0, 0, []⟩ n = 0 ∧ secR ⟨k, no, 0, 0, []⟩ n = if n = 0 then [] else [(0, n)] := by
  have hc : chkI ⟨k, no, 0, 0, []⟩ = 0 := by simp [chkI, headB, patB, hk, hno]
  have hp : prts (lps ⟨k, no, 0, 0, []⟩) ((n : Int).toNat) = [(0, n)] := by simp [prts, lps]
  have he : secE ⟨k, no, 0, 0, []⟩ n = 0 := by
    rw [secE, if_neg (by simp [hc]), if_neg (by omega), if_neg (by rw [hp]; simp [sumP])]
  refine ⟨he, ?_⟩
  have hR : secR ⟨k, no, 0, 0, []⟩ n = (keepS (sparts 0 0 [(0, n)]).1).foldl addS [] := by
    rw [secR, if_pos he, runs_eq _ _ (keepS_lt (sparts_ok _ _ _)), flat_keep, (parts_agr _ _ _).flat, marksL, hp]
    rfl
  rw [hR]
  have hS : (sparts 0 0 [(0, n)]).1 = [(0, n, 0, 0)] := by simp [sparts, spart]
  rw [hS]
  by_cases h0 : n = 0
  · subst h0; rfl
  · rw [if_neg h0]
    have : keepS [(0, n, 0, 0)] = [(0, n, 0, 0)] := by
      unfold keepS
      rw [List.filter_cons_of_pos (by simp; omega)]; rfl
    rw [this]; rfl
theorem walk {h : Hp} (x0 : ((List Int) × Int × Int × Int × Int × Int)) (cs0 : List Value) (x1 : Int) (x2 : Int) (A0 : (AKd.pair (AKd.slice (AKd.int .i64)) (AKd.pair (AKd.int .i64) (AKd.pair (AKd.int .i64) (AKd.pair (AKd.int .i64) (AKd.pair (AKd.int .i64) (AKd.int .i64)))))).A h x0 cs0) (w0 : (x0.1.length * Try.prog.bytesOf 3 ≤ 140737488351232 ∧ ∀ x ∈ x0.1, (Lit.int .i64 x).wf = true) ∧ ((Lit.int .i64 x0.2.1).wf = true) ∧ ((Lit.int .i64 x0.2.2.1).wf = true) ∧ ((Lit.int .i64 x0.2.2.2.1).wf = true) ∧ ((Lit.int .i64 x0.2.2.2.2.1).wf = true) ∧ ((Lit.int .i64 x0.2.2.2.2.2).wf = true)) (w1 : (Lit.int .i64 x1).wf = true) (w2 : (Lit.int .i64 x2).wf = true) : ACalls Try.prog 6 [.agg cs0.toArray, .int .i64 x1, .int .i64 x2] h fun v h' => v = .bool true := by
  obtain ⟨keys, every, base, cr, sk, ld⟩ := x0
  have hb8 : Try.prog.bytesOf 3 = 8 := by kernel_rfl
  have hlen : keys.length * 8 ≤ 140737488351232 := by have := w0.1.1; rw [hb8] at this; exact this
  obtain ⟨c1, c2, rfl, q1, c3, c4, rfl, q2, c5, c6, rfl, q3, c7, c8, rfl, q4, c9, c10, rfl, q5, q6⟩ := A0
  obtain ⟨oa, c, rfl, r, hc⟩ := ints_open q1
  have q2 : c3 = [.int .i64 every] := q2
  have q3 : c5 = [.int .i64 base] := q3
  have q4 : c7 = [.int .i64 cr] := q4
  have q5 : c9 = [.int .i64 sk] := q5
  have q6 : c10 = [.int .i64 ld] := q6
  subst q2 q3 q4 q5 q6
  simp only at r
  clear w0 w1 w2 q1
  refine dioramalaw21_CryptWhole_ok.snd hm rfl fun w => ?_
  rw [WF_eq, dioramalaw21_CryptWhole]
  simp only [List.cons_append, List.nil_append]
  have s3 : ∀ a b c d e f v : Value, spl [a, b, c, d, e, f] 3 [v] = [a, b, c, v, e, f] := fun _ _ _ _ _ _ _ => rfl
  have s4 : ∀ a b c d e f v : Value, spl [a, b, c, d, e, f] 4 [v] = [a, b, c, d, v, f] := fun _ _ _ _ _ _ _ => rfl
  have s5 : ∀ a b c d e f v : Value, spl [a, b, c, d, e, f] 5 [v] = [a, b, c, d, e, v] := fun _ _ _ _ _ _ _ => rfl
  have rd6 : ∀ (h : Hp) (a b c d e f : Value) (md : Md), (h.new ⟨[a, b, c, d, e, f], md⟩).rdN h.size 0 6 = some [a, b, c, d, e, f] := fun _ _ _ _ _ _ _ _ => rdN_new rfl
  simp +contextual only [↓AM, ↓AV, AP, new_put, s3, s4, s5, rd6]
  let p : Pl := ⟨keys, every, base, 0, 0, 0⟩
  have fm0 : Fm No h (h.new ⟨[.slice oa keys.length c, .int .i64 every, .int .i64 base, .int .i64 0, .int .i64 0, .int .i64 0], .own⟩) := Fm.new Fm.refl
  refine (c_theirs (p := ⟨keys, every, base, 0, 0, 0⟩) (r.keep w fm0 (fun _ _ => id)) (by simp only; omega)).use ?_
  rintro _ h1 w1 ⟨o, co, rfl, r1, fm1⟩
  simp +contextual only [↓AM, ↓AV, AP]
  refine (c_Of (p := ⟨keys, every, base, 0, 0, 0⟩) r1 (by simp only; omega)).use ?_
  rintro _ h2 w2 ⟨a, c', rfl, r2, -, fm2⟩
  by_cases hE : ofE ⟨keys, every, base, 0, 0, 0⟩ x1 x2 = 0
  case neg =>
    have e0 : EqI (ofE ⟨keys, every, base, 0, 0, 0⟩ x1 x2) 0 = False := eq_false hE
    simp +contextual only [↓AM, ↓AV, AP, e0, lockV]
    refine c_awake.use ?_
    rintro _ h5 w5 ⟨rfl, rfl⟩
    simp +contextual only [↓AM, ↓AV, AP]
  have e0 : EqI (ofE ⟨keys, every, base, 0, 0, 0⟩ x1 x2) 0 = True := eq_true hE
  cases hB : ofB ⟨keys, every, base, 0, 0, 0⟩ x1 x2
  · simp +contextual only [↓AM, ↓AV, AP, e0, lockV]
    refine c_awake.use ?_
    rintro _ h5 w5 ⟨rfl, rfl⟩
    simp +contextual only [↓AM, ↓AV, AP]
  have hE' : planB ⟨keys, every, base, 0, 0, 0⟩ = true ∧ (0 ≤ x1 ∧ x1 ≤ 400) ∧ (0 ≤ x2 ∧ x2 ≤ 65536) := by
    unfold ofE at hE
    split at hE
    · assumption
    · omega
  obtain ⟨hpl, hi, hn⟩ := hE'
  obtain ⟨p1, p2, p3, p4, p5, p6⟩ := planB_all hpl
  simp only at p1 p2 p3 p4
  have hL : ofL ⟨keys, every, base, 0, 0, 0⟩ x1 x2 = ⟨ofKey ⟨keys, every, base, 0, 0, 0⟩ x1, base + x1, 0, 0, []⟩ := by rw [ofL, hB]; rfl
  have hkey : 1 ≤ ofKey ⟨keys, every, base, 0, 0, 0⟩ x1 ∧ ofKey ⟨keys, every, base, 0, 0, 0⟩ x1 ≤ 4 := by
    have hne : ¬ ofKey ⟨keys, every, base, 0, 0, 0⟩ x1 = 0 := by
      unfold ofB at hB
      simp only [Bool.and_eq_true, Bool.not_eq_true', decide_eq_false_iff_not] at hB
      exact hB.2
    have hz : 0 ≤ ofKey ⟨keys, every, base, 0, 0, 0⟩ x1 ∧ ofKey ⟨keys, every, base, 0, 0, 0⟩ x1 ≤ 4 := by
      unfold ofKey
      rw [List.getD_eq_getElem?_getD]
      cases hx : (⟨keys, every, base, 0, 0, 0⟩ : Pl).keys[(x1 / every % (keys.length : Int)).toNat]? with
      | none => simp
      | some y => exact p2 y (List.mem_of_getElem? hx)
    omega
  obtain ⟨n, rfl⟩ : ∃ n : Nat, x2 = n := ⟨x2.toNat, by omega⟩
  rw [hL] at r2
  rw [hL]
  generalize ofKey ⟨keys, every, base, 0, 0, 0⟩ x1 = k at *
  obtain ⟨hse, hsr⟩ := whole (k := k) (no := base + x1) (n := n) hkey (by omega) hn.2
  have z5 : ∀ a b c d e : Value, spl [Value.int .i64 0, .int .i64 0, .int .i64 0, .int .i64 0, .slice none 0 0] 0 [a, b, c, d, e] = [a, b, c, d, e] := fun _ _ _ _ _ => rfl
  simp +contextual only [↓AM, ↓AV, AP, e0, lockV, new_put, z5, rdN_n5]
  have fm3 : Fm No h2 (h2.new ⟨[.int .i64 k, .int .i64 (base + x1), .int .i64 0, .int .i64 0, .slice a ([] : List (Int × Int)).length c'], .own⟩) := Fm.new Fm.refl
  refine (c_Secret (l := ⟨k, base + x1, 0, 0, []⟩) (oa := a) (cc := c') (n := (n : Int)) (r2.keep w2 fm3 (fun _ _ => id)) (by simp)).use ?_
  rintro _ h4 w4 ⟨sa, sc, rfl, sr, -, fm4⟩
  rw [hsr] at sr
  rw [hsr, hse]
  by_cases hn0 : n = 0
  · subst hn0
    have e1 : EqI ((0 : Nat) : Int) 0 = True := eq_true rfl
    have e2 : EqI (([] : List (Nat × Nat)).length : Int) 0 = True := eq_true rfl
    simp +contextual only [↓AM, ↓AV, AP, e1, e2, eqI_self, if_pos]
    refine c_awake.use ?_
    rintro _ h5 w5 ⟨rfl, rfl⟩
    simp +contextual only [↓AM, ↓AV, AP]
  · rw [if_neg hn0] at sr ⊢
    have e1 : EqI (n : Int) 0 = False := eq_false (by unfold EqI; omega)
    obtain ⟨b, off, sp, u, rfl, f1, hu, ru, -⟩ := sr.elem natC_len rfl (i := 0) (by simp)
    have hu' : u = (0, n) := by simpa using hu.symm
    subst hu'
    simp only [natC] at ru
    have e3 : EqI (([(0, n)] : List (Nat × Nat)).length : Int) 1 = True := eq_true rfl
    have e4 : EqI (([(0, n)] : List (Nat × Nat)).length : Int) 0 = False := eq_false (by simp [EqI])
    have l1 : ((0 : Int) < (([(0, n)] : List (Nat × Nat)).length : Int)) = True := by simp
    have z0 : ((0 : Int) ≤ 0) = True := by simp
    have ru' : h4.rdN b off 2 = some [.int .i64 ((0 : Nat) : Int), .int .i64 n] := by simpa using ru
    have z00 : Int.toNat 0 = 0 := rfl
    have eqq : ((((0 : Nat) : Int) == (0 : Int)) && ((n : Int) == (n : Int) && true)) = true := by simp
    simp +contextual only [↓AM, ↓AV, AP, e1, e3, e4, l1, z0, z00, f1, ru', eqCells, eqCell, eqI_self, Nat.zero_mul, eqq]
    refine c_awake.use ?_
    rintro _ h5 w5 ⟨rfl, rfl⟩
    simp +contextual only [↓AM, ↓AV, AP]
end Go.Proofs.Ytloonniiffbopaa.LCryptWhole
