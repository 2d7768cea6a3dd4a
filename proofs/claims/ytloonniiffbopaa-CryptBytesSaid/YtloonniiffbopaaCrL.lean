/- The cipher, and blocks of it. Plain theorems over the abstract machine.
   Conditions: none. -/
import Derived.Test.YtloonniiffbopaaCrK
namespace Go.Proofs.Ytloonniiffbopaa.Cr
open Go Go.RowKit Go.Proofs.Ytloonniiffbopaa.Am Go.Proofs.Ytloonniiffbopaa.Af
set_option linter.unusedVariables false
set_option linter.unusedSimpArgs false
set_option maxRecDepth 20000

/-- A part of a slice, read. -/
theorem _root_.Go.Proofs.Ytloonniiffbopaa.Am.Rd.sl {h : Hp} {z b off n cap l u : Nat} {sp : Option Nat} {cs : List Value} (r : Rd h z (some ⟨b, off, sp⟩) n cs) (hf : flagOk sp = true) (hl : l ≤ u) (hu : u ≤ n) (hc : n ≤ cap) :
    Rd h z (some (slAddr b off sp z l cap true)) (u - l) ((cs.drop (l * z)).take ((u - l) * z)) := by
  have hlen := r.len
  rcases r.at_ _ rfl with ⟨h1, h2⟩ | ⟨h1, h2⟩
  · have hmul : u * z ≤ n * z := Nat.mul_le_mul_right z hu
    have hsub : (u - l) * z = u * z - l * z := Nat.sub_mul _ _ _
    have hlz : l * z ≤ u * z := Nat.mul_le_mul_right z hl
    have h3 : h.rdN b (off + l * z) ((u - l) * z) = some ((cs.drop (l * z)).take ((u - l) * z)) := rdN_sub h2 (by omega)
    have h0 : cap = l → u = l := fun e => by omega
    refine ⟨?_, (fun e => by cases e), fun a e => ?_⟩
    · simp; omega
    · cases e
      by_cases hcl : cap = l
      · have := h0 hcl
        subst this
        have hz : h.rdN b (off + 0) ((u - u) * z) = some ((cs.drop 0).take ((u - u) * z)) := rdN_sub h2 (by omega)
        simp only [Nat.sub_self, Nat.zero_mul, List.take_zero] at hz ⊢
        cases sp with
        | none => exact .inl ⟨rfl, by simpa [slAddr, hcl] using hz⟩
        | some k =>
          cases hk : flagOk (some (u * z)) with
          | true => exact .inl ⟨by simpa [slAddr, hcl] using hk, by simpa [slAddr, hcl] using hz⟩
          | false => exact .inr ⟨by simpa [slAddr, hcl] using hk, by simp⟩
      · cases sp with
        | none => exact .inl ⟨rfl, by simpa [slAddr, hcl] using h3⟩
        | some k => exact .inl ⟨by simpa [slAddr, hcl] using hf, by simpa [slAddr, hcl] using h3⟩
  · exact absurd h1 (by simpa using hf)
theorem rd_map_sub {h : Hp} {b off n cap l u : Nat} {sp : Option Nat} {k : IntKind} {xs : List Int} (r : Rd h 1 (some ⟨b, off, sp⟩) n (xs.map (Value.int k))) (hf : flagOk sp = true) (hl : l ≤ u) (hu : u ≤ n) (hc : n ≤ cap) :
    Rd h 1 (some (slAddr b off sp 1 l cap true)) (u - l) (((xs.drop l).take (u - l)).map (Value.int k)) := by
  have := r.sl hf hl hu hc
  simpa [List.map_take, List.map_drop] using this
def blkB (A B N I : BitVec 64) : List Int := bytesN 8 ((blkU A N I).toNat : Int) ++ bytesN 8 ((blkV A B N I).toNat : Int)
theorem blkB_len (A B N I : BitVec 64) : (blkB A B N I).length = 16 := by simp [blkB, bytesN_len]
theorem blkB_ok (A B N I : BitVec 64) : Bytes (blkB A B N I) := fun x hx => (List.mem_append.1 hx).elim (bytesN_ok _ _ x) (bytesN_ok _ _ x)
/-- The block of a key. -/
def blk (key : List Int) (nonce i : Int) : List Int := blkB (BitVec.ofInt 64 (val (key.take 8))) (BitVec.ofInt 64 (val (key.drop 8))) (BitVec.ofInt 64 nonce) (BitVec.ofInt 64 i)
theorem u_bd (x : BitVec 64) : 0 ≤ (x.toNat : Int) ∧ (x.toNat : Int) ≤ 18446744073709551615 := by have := x.isLt; omega
theorem val_u {l : List Int} (h : Bytes l) (hl : l.length ≤ 8) : val l = ((BitVec.ofInt 64 (val l)).toNat : Int) := by
  have := val_bd h hl
  rw [BitVec.toNat_ofInt]
  omega
/-- A cipher as a value. -/
structure Cip (h : Hp) (v : Value) (h' : Hp) (A B N : BitVec 64) : Prop where
  out : ∃ pA pN pB n, v = .func (.func 48) #[] #[.pointer (some ⟨pA, 0, none⟩), .pointer (some ⟨pN, 0, none⟩), .pointer (some ⟨pB, 0, none⟩)] ∧ N = BitVec.ofInt 64 n ∧ h.size ≤ pA ∧ h.size ≤ pN ∧ h.size ≤ pB ∧
    h'.get pA = some ⟨[.int .u64 (A.toNat : Int)], .own⟩ ∧ h'.get pN = some ⟨[.int .i64 n], .own⟩ ∧ h'.get pB = some ⟨[.int .u64 (B.toNat : Int)], .own⟩
theorem Cip.keep {h h' h2 : Hp} {v : Value} {A B N : BitVec 64} (c : Cip h v h' A B N) (w : Wf h') {F : Nat → Prop} (fm : Fm F h' h2) (hF : ∀ x, h.size ≤ x → x < h'.size → ¬ F x) : Cip h v h2 A B N := by
  obtain ⟨pA, pN, pB, n, e1, e2, l1, l2, l3, g1, g2, g3⟩ := c.out
  exact ⟨pA, pN, pB, n, e1, e2, l1, l2, l3, fm.keep w g1 (hF _ l1 (w.lt g1)), fm.keep w g2 (hF _ l2 (w.lt g2)), fm.keep w g3 (hF _ l3 (w.lt g3))⟩
theorem c_cipher1 {h : Hp} {pA pN pB : Nat} {A B : BitVec 64} {n i : Int} (g1 : h.get pA = some ⟨[.int .u64 (A.toNat : Int)], .own⟩) (g2 : h.get pN = some ⟨[.int .i64 n], .own⟩) (g3 : h.get pB = some ⟨[.int .u64 (B.toNat : Int)], .own⟩) :
    ACalls Try.prog 48 [.int .i64 i, .pointer (some ⟨pA, 0, none⟩), .pointer (some ⟨pN, 0, none⟩), .pointer (some ⟨pB, 0, none⟩)] h fun v h' => v = .agg ((blkB A B (BitVec.ofInt 64 n) (BitVec.ofInt 64 i)).map (Value.int .u8)).toArray ∧ Fm No h h' := by
  refine crypt_newCipher_1_ok.snd hm rfl fun w => ?_
  rw [WF_eq, crypt_newCipher_1]
  have k1 : ∀ o, (h.new o).get pA = _ := fun o => (get_new (w.lt g1)).trans g1
  have k2 : ∀ o, (h.new o).get pN = _ := fun o => (get_new (w.lt g2)).trans g2
  have k3 : ∀ o, (h.new o).get pB = _ := fun o => (get_new (w.lt g3)).trans g3
  have eN := u_of n
  have eI := u_of i
  simp +contextual only [↓AM, ↓AV, AP, rd_mk (k1 _), rd_mk (k2 _), rd_mk (k3 _), eN, eI, mul_c3, u_add]
  refine c_mix.use ?_
  rintro _ h1 w1 ⟨rfl, rfl⟩
  simp +contextual only [↓AM, ↓AV, AP, rd_mk (k1 _), rd_mk (k2 _), rd_mk (k3 _), eI, mul_2, add_1, u_add]
  refine c_mix.use ?_
  rintro _ h1 w1 ⟨rfl, rfl⟩
  have t8 : Int.toNat 8 = 8 := rfl
  have f1 : (16 = 0) = False := by simp
  have f2 : (16 = 8) = False := by simp
  have f3 : ((0 : Int) ≤ 8) = True := by simp
  have f4 : ((8 : Int) ≤ ((16 : Nat) : Int)) = True := by simp
  have f5 : 16 - 8 = 8 := rfl
  generalize hu : mixB (A + BitVec.ofInt 64 n * 11400714819323198485#64 + BitVec.ofInt 64 i) = u
  generalize hv : mixB (B + u + BitVec.ofInt 64 i * 2#64 + 1#64) = v
  have hblk : blkB A B (BitVec.ofInt 64 n) (BitVec.ofInt 64 i) = bytesN 8 (u.toNat : Int) ++ bytesN 8 (v.toNat : Int) := by rw [blkB, blkV, blkU, hu, hv]
  simp +contextual only [↓AM, ↓AV, AP, bnds, Option.isNone, t8, f1, f2, f3, f4, f5]
  refine (c_put (off := 0) (cs := List.replicate 16 (.int .u8 0)) (md := .own) gnew (by simp) (by simp) (u_bd u)).use ?_
  rintro _ h2 w2 rfl
  simp +contextual only [↓AM, ↓AV, AP, bnds, Option.isNone, t8, f1, f2, f3, f4, f5, new_put]
  have l8 : ((bytesN 8 (u.toNat : Int)).map (Value.int .u8)).length = 8 := by simp [bytesN_len]
  have l8v : ((bytesN 8 (v.toNat : Int)).map (Value.int .u8)).length = 8 := by simp [bytesN_len]
  have a0 : (List.replicate 16 (Value.int .u8 0)).drop (0 + 8) = List.replicate 8 (Value.int .u8 0) := List.drop_replicate
  have a1 : (List.replicate 16 (Value.int .u8 0)).take 0 ++ ((bytesN 8 (u.toNat : Int)).map (Value.int .u8) ++ (List.replicate 16 (Value.int .u8 0)).drop (0 + 8)) = (bytesN 8 (u.toNat : Int)).map (Value.int .u8) ++ List.replicate 8 (Value.int .u8 0) := by
    rw [List.take_zero, List.nil_append, a0]
  simp only [a1]
  refine (c_put (off := 8) (cs := (bytesN 8 (u.toNat : Int)).map (Value.int .u8) ++ List.replicate 8 (.int .u8 0)) (md := .own) gnew (by simp) (by rw [List.length_append, l8]; simp) (u_bd v)).use ?_
  rintro _ h3 w3 rfl
  have a2 : ((bytesN 8 (u.toNat : Int)).map (Value.int .u8) ++ List.replicate 8 (Value.int .u8 0)).take 8 ++ ((bytesN 8 (v.toNat : Int)).map (Value.int .u8) ++ ((bytesN 8 (u.toNat : Int)).map (Value.int .u8) ++ List.replicate 8 (Value.int .u8 0)).drop (8 + 8)) = (blkB A B (BitVec.ofInt 64 n) (BitVec.ofInt 64 i)).map (Value.int .u8) := by
    rw [List.take_left' l8, List.drop_eq_nil_of_le (show _ ≤ 8 + 8 by rw [List.length_append, l8]; simp), List.append_nil, hblk, List.map_append]
  rw [new_put, a2]
  have l16 : lenIs ((blkB A B (BitVec.ofInt 64 n) (BitVec.ofInt 64 i)).map (Value.int .u8)) 16 = true := by rw [← lenIs_p]; simp [blkB_len]
  simp +contextual only [↓AM, ↓AV, AP, rdN_new l16]
  have e1 : ((h.new ⟨List.replicate 16 (Value.int .u8 0), .own⟩).new ⟨(blkB A B (BitVec.ofInt 64 n) (BitVec.ofInt 64 i)).map (Value.int .u8), .own⟩).get h.size = some ⟨List.replicate 16 (Value.int .u8 0), .own⟩ := (get_new (Nat.lt_succ_self _)).trans gnew
  have e2 : allc ((blkB A B (BitVec.ofInt 64 n) (BitVec.ofInt 64 i)).map (Value.int .u8)) = true := by
    rw [← allc_eq, List.all_eq_true]; intro v hv; obtain ⟨x, _, rfl⟩ := List.mem_map.1 hv; rfl
  have e3 : leIs 16 (List.replicate 16 (Value.int .u8 0)) = true := by rw [← leIs_p]; simp
  have e4 : spl (List.replicate 16 (Value.int .u8 0)) 0 ((blkB A B (BitVec.ofInt 64 n) (BitVec.ofInt 64 i)).map (Value.int .u8)) = (blkB A B (BitVec.ofInt 64 n) (BitVec.ofInt 64 i)).map (Value.int .u8) := by
    unfold spl
    rw [List.drop_eq_nil_of_le (by simp [blkB_len])]; simp
  have fm : Fm No h ((h.new ⟨List.replicate 16 (Value.int .u8 0), .own⟩).new ⟨(blkB A B (BitVec.ofInt 64 n) (BitVec.ofInt 64 i)).map (Value.int .u8), .own⟩) := Fm.new (Fm.new Fm.refl)
  generalize blkB A B (BitVec.ofInt 64 n) (BitVec.ofInt 64 i) = L at *
  simp +contextual only [↓AM, ↓AV, AP, e1, e2, e3, e4, l16]
  have e5 : (((h.new ⟨List.replicate 16 (Value.int .u8 0), .own⟩).new ⟨L.map (Value.int .u8), .own⟩).put h.size ⟨L.map (Value.int .u8), .own⟩).rdN h.size 0 16 = some (L.map (Value.int .u8)) := by
    have hl : (L.map (Value.int .u8)).length = 16 := by rw [lenIs_p]; exact l16
    rw [rdN_mk gput (by simp only [hl]; omega), List.drop_zero, List.take_of_length_le (by rw [hl]; omega)]
  simp +contextual only [↓AM, ↓AV, AP, e5]
  exact fm.put fun hx => absurd hx (Nat.lt_irrefl _)
end Go.Proofs.Ytloonniiffbopaa.Cr
