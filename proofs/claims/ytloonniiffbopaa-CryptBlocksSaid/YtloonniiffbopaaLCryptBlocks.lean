/- The law CryptBlocks: the block of any key, nonce and number; another key or nonce makes another block. The walk over the abstract machine.
   Conditions: none. -/
import Derived.Test.YtloonniiffbopaaCrM
import Derived.Test.YtloonniiffbopaaCrJ
import Derived.DataShut
namespace Go.Proofs.Ytloonniiffbopaa.LCryptBlocks
open Go Go.RowKit Go.Proofs.Ytloonniiffbopaa.Am Go.Proofs.Ytloonniiffbopaa.Af Go.Proofs.Ytloonniiffbopaa.Cr
set_option linter.unusedVariables false
set_option linter.unusedSimpArgs false
set_option maxRecDepth 20000

theorem toNat_inj {x y : BitVec 64} (h : bytesN 8 (x.toNat : Int) = bytesN 8 (y.toNat : Int)) : x = y := by
  have e : (256 : Int) ^ 8 = 18446744073709551616 := by decide
  have := bytesN_inj (n := 8) (v := x.toNat) (w := y.toNat) (by have := x.isLt; omega) (by have := y.isLt; omega) h
  exact BitVec.eq_of_toNat_eq (by omega)
theorem blkB_inj {A B N I A' B' N' I' : BitVec 64} (h : blkB A B N I = blkB A' B' N' I') : blkU A N I = blkU A' N' I' ∧ blkV A B N I = blkV A' B' N' I' := by
  obtain ⟨h1, h2⟩ := List.append_inj h (by simp [bytesN_len])
  exact ⟨toNat_inj h1, toNat_inj h2⟩
theorem ofInt_inj {x y : Int} (hx : 0 ≤ x ∧ x < 18446744073709551616) (hy : 0 ≤ y ∧ y < 18446744073709551616) (h : BitVec.ofInt 64 x = BitVec.ofInt 64 y) : x = y := by
  have := congrArg BitVec.toNat h
  rw [BitVec.toNat_ofInt, BitVec.toNat_ofInt] at this
  omega
theorem val_eq {l m : List Int} (hl : Bytes l) (hm : Bytes m) (h8 : l.length = 8) (h8' : m.length = 8) (h : BitVec.ofInt 64 (val l) = BitVec.ofInt 64 (val m)) : l = m := by
  have e : (256 : Int) ^ 8 = 18446744073709551616 := by decide
  have h1 := val_bd hl (n := 8) (by omega)
  have h2 := val_bd hm (n := 8) (by omega)
  have h3 := ofInt_inj (by omega) (by omega) h
  have h4 := val_inj l.reverse m.reverse (fun x hx => hl x (by simpa using hx)) (fun x hx => hm x (by simpa using hx)) (by simp [h8, h8']) (by simpa using h3)
  simpa using congrArg List.reverse h4
theorem blk_keys {xs ys : List Int} {n i : Int} (hx : Bytes xs) (hy : Bytes ys) (lx : xs.length = 16) (ly : ys.length = 16) (h : blk xs n i = blk ys n i) : xs = ys := by
  obtain ⟨h1, h2⟩ := blkB_inj h
  obtain ⟨h3, h4⟩ := blk_key h1 h2
  have e1 := val_eq (bytes_take hx 8) (bytes_take hy 8) (by simp; omega) (by simp; omega) h3
  have e2 := val_eq (bytes_drop hx 8) (bytes_drop hy 8) (by simp; omega) (by simp; omega) h4
  rw [← List.take_append_drop 8 xs, e1, e2, List.take_append_drop]
theorem blk_nonces {xs : List Int} {n m i : Int} (hn : 0 ≤ n ∧ n ≤ 2199023255552) (hm : 0 ≤ m ∧ m ≤ 2199023255552) (h : blk xs n i = blk xs m i) : n = m := by
  obtain ⟨h1, _⟩ := blkB_inj h
  exact ofInt_inj (by omega) (by omega) (blk_nonce h1)
theorem blkE_0 {k : Nat} {n i : Int} (h : blkE k n i = 0) : k = 16 ∧ (0 ≤ n ∧ n ≤ 2199023255552) ∧ (0 ≤ i ∧ i ≤ 1048576) := by
  unfold blkE at h
  split at h
  · omega
  · split at h <;> omega
theorem walk {h : Hp} (x0 : ((List Int) × Int × Int × (List Int) × Int)) (cs0 : List Value) (A0 : (AKd.pair (AKd.slice (AKd.int .u8)) (AKd.pair (AKd.int .i64) (AKd.pair (AKd.int .i64) (AKd.pair (AKd.slice (AKd.int .u8)) (AKd.int .i64))))).A h x0 cs0) (w0 : (x0.1.length * Try.prog.bytesOf 5 ≤ 140737488351232 ∧ ∀ x ∈ x0.1, (Lit.int .u8 x).wf = true) ∧ ((Lit.int .i64 x0.2.1).wf = true) ∧ ((Lit.int .i64 x0.2.2.1).wf = true) ∧ (x0.2.2.2.1.length * Try.prog.bytesOf 5 ≤ 140737488351232 ∧ ∀ x ∈ x0.2.2.2.1, (Lit.int .u8 x).wf = true) ∧ ((Lit.int .i64 x0.2.2.2.2).wf = true)) : ACalls Try.prog 3 [.agg cs0.toArray] h fun v h' => v = .bool true := by
  obtain ⟨key, nonce, i, other, more⟩ := x0
  obtain ⟨⟨-, wk⟩, -, -, ⟨-, wo⟩, -⟩ := w0
  simp only at wk wo
  have bk : Bytes key := fun x hx => (Lit.wf_int_iff .u8 x).1 (wk x hx)
  have bo : Bytes other := fun x hx => (Lit.wf_int_iff .u8 x).1 (wo x hx)
  obtain ⟨c1, c2, rfl, q1, c3, c4, rfl, q2, c5, c6, rfl, q3, c7, c8, rfl, q4, q5⟩ := A0
  obtain ⟨ka, kc, rfl, rk, hkc⟩ := ints_open q1
  obtain ⟨ob, oc, rfl, ro, hoc⟩ := ints_open q4
  have q2 : c3 = [.int .i64 nonce] := q2
  have q3 : c5 = [.int .i64 i] := q3
  have q5 : c8 = [.int .i64 more] := q5
  subst q2 q3 q5
  simp only at rk ro hkc hoc
  refine dioramalaw21_CryptBlocks_ok.snd hm rfl fun w => ?_
  rw [WF_eq, dioramalaw21_CryptBlocks]
  simp only [List.cons_append, List.nil_append]
  by_cases h1 : 100 < key.length
  · have e1 : (100 : Int) < (key.length : Nat) := by omega
    simp +contextual only [↓AM, ↓AV, AP, e1, ldOk]
  have e1 : ¬ (100 : Int) < (key.length : Nat) := by omega
  by_cases h2 : 100 < other.length
  · have e2 : (100 : Int) < (other.length : Nat) := by omega
    simp +contextual only [↓AM, ↓AV, AP, e1, e2, ldOk]
  have e2 : ¬ (100 : Int) < (other.length : Nat) := by omega
  simp +contextual only [↓AM, ↓AV, AP, e1, e2, ldOk]
  change CallT _ _ _ _ _ _
  have fm0 : Fm No h (h.new ⟨[.slice ka key.length kc, .int .i64 nonce, .int .i64 i, .slice ob other.length oc, .int .i64 more], .own⟩) := Fm.new Fm.refl
  have rk := rk.keep w fm0 (fun _ _ => id)
  have ro := ro.keep w fm0 (fun _ _ => id)
  have w0 : Wf (h.new ⟨[.slice ka key.length kc, .int .i64 nonce, .int .i64 i, .slice ob other.length oc, .int .i64 more], .own⟩) := w.new
  generalize h.new ⟨[.slice ka key.length kc, .int .i64 nonce, .int .i64 i, .slice ob other.length oc, .int .i64 more], .own⟩ = h0 at *
  refine (c_Block rk bk hkc).use ?_
  rintro _ h1 w1 ⟨a1, c1, rfl, r1, -, fm1⟩
  have rk1 := rk.keep w0 fm1 (fun _ _ => id)
  have ro1 := ro.keep w0 fm1 (fun _ _ => id)
  simp +contextual only [↓AM, ↓AV, AP]
  refine (c_rBlock rk1 bk hkc).use ?_
  rintro _ h2 w2 ⟨a2, c2, rfl, r2, -, fm2⟩
  have rk2 := rk1.keep w1 fm2 (fun _ _ => id)
  have ro2 := ro1.keep w1 fm2 (fun _ _ => id)
  have r1 := r1.keep w1 fm2 (fun _ _ => id)
  have hbl : ∀ xs n j, (blkR xs n j).length ≤ 16 := fun xs n j => by
    unfold blkR
    split
    · exact Nat.le_of_eq (blkB_len _ _ _ _)
    · simp
  simp +contextual only [↓AM, ↓AV, AP, eqI_self]
  refine (c_EqBytes r1 r2 (by have := hbl key nonce i; omega)).use ?_
  rintro _ h2 w2 ⟨rfl, rfl⟩
  by_cases he : blkE key.length nonce i = 0
  case neg =>
    have e3 : EqI (blkE key.length nonce i) 0 = False := eq_false he
    simp +contextual only [↓AM, ↓AV, AP, e3]
    refine c_awake.use ?_
    rintro _ h5 w5 ⟨rfl, rfl⟩
    simp +contextual only [↓AM, ↓AV, AP]
  have e3 : EqI (blkE key.length nonce i) 0 = True := eq_true he
  obtain ⟨hk16, hn, hi⟩ := blkE_0 he
  have hR : blkR key nonce i = blk key nonce i := by rw [blkR, if_pos he]
  simp +contextual only [↓AM, ↓AV, AP, e3]
  refine (c_Block ro2 bo hoc).use ?_
  rintro _ h3 w3 ⟨a3, c3, rfl, r3, -, fm3⟩
  have rk3 := rk2.keep w2 fm3 (fun _ _ => id)
  have ro3 := ro2.keep w2 fm3 (fun _ _ => id)
  have r1 := r1.keep w2 fm3 (fun _ _ => id)
  have hcase : ¬ blkE other.length nonce i = 0 ∨ (blkE other.length nonce i = 0 ∧ other = key) ∨ (blkE other.length nonce i = 0 ∧ ¬ other = key) := by
    by_cases hg : blkE other.length nonce i = 0
    · by_cases hok : other = key
      · exact .inr (.inl ⟨hg, hok⟩)
      · exact .inr (.inr ⟨hg, hok⟩)
    · exact .inl hg
  rcases hcase with hg | ⟨hg, hok⟩ | ⟨hg, hok⟩
  case' inl =>
    have e4 : EqI (blkE other.length nonce i) 0 = False := eq_false hg
    simp +contextual only [↓AM, ↓AV, AP, e4]
  case' inr.inl =>
    have e4 : EqI (blkE other.length nonce i) 0 = True := eq_true hg
    obtain ⟨ho16, -, -⟩ := blkE_0 hg
    simp +contextual only [↓AM, ↓AV, AP, e4]
    refine (c_EqBytes ro3 rk3 (by omega)).use ?_
    rintro _ h3 w3 ⟨rfl, rfl⟩
    simp +contextual only [↓AM, ↓AV, AP, hok]
  case' inr.inr =>
    have e4 : EqI (blkE other.length nonce i) 0 = True := eq_true hg
    obtain ⟨ho16, -, -⟩ := blkE_0 hg
    simp +contextual only [↓AM, ↓AV, AP, e4]
    refine (c_EqBytes ro3 rk3 (by omega)).use ?_
    rintro _ h3 w3 ⟨rfl, rfl⟩
    simp +contextual only [↓AM, ↓AV, AP, hok]
    refine (c_EqBytes r3 r1 (by have := hbl other nonce i; omega)).use ?_
    rintro _ h3 w3 ⟨rfl, rfl⟩
    have hdiff : ¬ blkR other nonce i = blkR key nonce i := fun e => by
      rw [hR, blkR, if_pos hg] at e
      exact hok (blk_keys bo bk ho16 hk16 e)
    simp +contextual only [↓AM, ↓AV, AP, hdiff]
  all_goals refine (c_Block rk3 bk hkc).use ?_
  all_goals rintro _ h4 w4 ⟨a4, c4, rfl, r4, -, fm4⟩
  all_goals have r1 := r1.keep w3 fm4 (fun _ _ => id)
  all_goals by_cases hg4 : blkE key.length more i = 0
  all_goals first
    | (have e4 : EqI (blkE key.length more i) 0 = False := eq_false hg4
       simp +contextual only [↓AM, ↓AV, AP, e4]
       refine c_awake.use ?_
       rintro _ h5 w5 ⟨rfl, rfl⟩
       simp +contextual only [↓AM, ↓AV, AP]
       done)
    | (have e4 : EqI (blkE key.length more i) 0 = True := eq_true hg4
       obtain ⟨-, hm', -⟩ := blkE_0 hg4
       by_cases hmn : more = nonce
       · have e5 : EqI more nonce = True := eq_true hmn
         simp +contextual only [↓AM, ↓AV, AP, e4, e5]
         refine c_awake.use ?_
         rintro _ h5 w5 ⟨rfl, rfl⟩
         simp +contextual only [↓AM, ↓AV, AP]
       · have e5 : EqI more nonce = False := eq_false hmn
         simp +contextual only [↓AM, ↓AV, AP, e4, e5]
         refine (c_EqBytes r4 r1 (by have := hbl key more i; omega)).use ?_
         rintro _ h4 w4 ⟨rfl, rfl⟩
         have hdiff : ¬ blkR key more i = blkR key nonce i := fun e => by
           rw [hR, blkR, if_pos hg4] at e
           exact hmn (blk_nonces hm' hn e)
         simp +contextual only [↓AM, ↓AV, AP, hdiff]
         refine c_awake.use ?_
         rintro _ h5 w5 ⟨rfl, rfl⟩
         simp +contextual only [↓AM, ↓AV, AP]
         done)
end Go.Proofs.Ytloonniiffbopaa.LCryptBlocks
