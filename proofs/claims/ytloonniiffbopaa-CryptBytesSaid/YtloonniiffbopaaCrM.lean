/- Ciphers made; blocks of either text. Plain theorems over the abstract machine.
   Conditions: none. -/
import Derived.Test.YtloonniiffbopaaCrL
namespace Go.Proofs.Ytloonniiffbopaa.Cr
open Go Go.RowKit Go.Proofs.Ytloonniiffbopaa.Am Go.Proofs.Ytloonniiffbopaa.Af
set_option linter.unusedVariables false
set_option linter.unusedSimpArgs false
set_option maxRecDepth 20000

theorem ok_fn {f : Fn} {u v : Array Value} : okStore (.func f u v) = true := rfl
theorem co_fn {f : Fn} {u v : Array Value} : cellsOf (.func f u v) = [.func f u v] := rfl
theorem allc_fn {f : Fn} {u v : Array Value} {r : List Value} : allc (.func f u v :: r) = allc r := rfl
theorem ok_nf : okStore .nilFunc = true := rfl
theorem allc_nf {r : List Value} : allc (.nilFunc :: r) = allc r := rfl
theorem bytes_take {l : List Int} (h : Bytes l) (n : Nat) : Bytes (l.take n) := fun x hx => h x (List.mem_of_mem_take hx)
theorem bytes_drop {l : List Int} (h : Bytes l) (n : Nat) : Bytes (l.drop n) := fun x hx => h x (List.mem_of_mem_drop hx)
theorem key_parts {h : Hp} {b off cap : Nat} {sp : Option Nat} {xs : List Int} (r : Rd h 1 (some ⟨b, off, sp⟩) 16 (xs.map (Value.int .u8))) (hf : flagOk sp = true) (hc : 16 ≤ cap) :
    Rd h 1 (some (slAddr b off sp 1 0 cap true)) 8 ((xs.take 8).map (Value.int .u8)) ∧ Rd h 1 (some (slAddr b off sp 1 8 cap true)) 8 ((xs.drop 8).map (Value.int .u8)) := by
  have hl := r.ilen
  have h1 := rd_map_sub r hf (l := 0) (u := 8) (by omega) (by omega) hc
  have h2 := rd_map_sub r hf (l := 8) (u := 16) (by omega) (by omega) hc
  refine ⟨by simpa using h1, ?_⟩
  rw [List.take_of_length_le (by simp; omega)] at h2
  exact h2
theorem c_newCipher {h : Hp} {a : Option Addr} {cap : Nat} {xs : List Int} {n : Int} (r : Rd h 1 a 16 (xs.map (Value.int .u8))) (hb : Bytes xs) (hc : 16 ≤ cap) :
    ACalls Try.prog 28 [.slice a 16 cap, .int .i64 n] h fun v h' => ∃ c, v = .agg #[c] ∧ Cip h c h' (BitVec.ofInt 64 (val (xs.take 8))) (BitVec.ofInt 64 (val (xs.drop 8))) (BitVec.ofInt 64 n) ∧ Fm No h h' := by
  refine crypt_newCipher_ok.snd hm rfl fun w => ?_
  rw [WF_eq, crypt_newCipher]
  have hl := r.ilen
  obtain ⟨b, off, sp, rfl, hf, -⟩ := r.pos (by omega)
  obtain ⟨r1, r2⟩ := key_parts r hf hc
  have hcp : capOk sp 16 cap := by cases sp <;> simp [capOk, hc]
  have f1 : ((0 : Int) ≤ 8) = True := by simp
  have f2 : ((8 : Int) ≤ (cap : Int)) = True := eq_true (by omega)
  have f3 : ((8 : Int) ≤ ((16 : Nat) : Int)) = True := by simp
  have f4 : (((16 : Nat) : Int) ≤ (cap : Int)) = True := eq_true (by omega)
  have t8 : Int.toNat 8 = 8 := rfl
  have f5 : 16 - 8 = 8 := rfl
  have fm0 : Fm No h ((h.new ⟨[.int .i64 n], .own⟩).new ⟨[.nilFunc], .own⟩) := Fm.new (Fm.new Fm.refl)
  have g1 : ((h.new ⟨[.int .i64 n], .own⟩).new ⟨[.nilFunc], .own⟩).get h.size = some ⟨[.int .i64 n], .own⟩ := (get_new (Nat.lt_succ_self _)).trans gnew
  have g2 : ((h.new ⟨[.int .i64 n], .own⟩).new ⟨[.nilFunc], .own⟩).get (h.size + 1) = some ⟨[.nilFunc], .own⟩ := gnew
  have w0 : Wf ((h.new ⟨[.int .i64 n], .own⟩).new ⟨[.nilFunc], .own⟩) := w.new.new
  have hs0 : ((h.new ⟨[.int .i64 n], .own⟩).new ⟨[.nilFunc], .own⟩).size = h.size + 2 := rfl
  simp +contextual only [↓AM, ↓AV, AP, bnds, Option.isNone, t8, f1, f2, f3, f4, f5, hf, hcp]
  change CallT _ _ _ _ _ _
  generalize (h.new ⟨[.int .i64 n], .own⟩).new ⟨[.nilFunc], .own⟩ = h0 at *
  refine (c_word (r1.keep w fm0 (fun _ _ => id)) (bytes_take hb 8) (by omega)).use ?_
  rintro _ h1 w1 ⟨rfl, rfl⟩
  simp +contextual only [↓AM, ↓AV, AP]
  refine (c_word (r2.keep w fm0 (fun _ _ => id)) (bytes_drop hb 8) (by omega)).use ?_
  rintro _ h1 w1 ⟨rfl, rfl⟩
  have v1 := val_u (l := xs.take 8) (bytes_take hb 8) (by simp; omega)
  have v2 := val_u (l := xs.drop 8) (bytes_drop hb 8) (by simp; omega)
  generalize val (xs.take 8) = va at *
  generalize val (xs.drop 8) = vb at *
  have s1 : h1.size = h.size + 2 := hs0
  have e1 : ((h1.new ⟨[.int .u64 0], .own⟩).new ⟨[.int .u64 0], .own⟩).get h1.size = some ⟨[.int .u64 0], .own⟩ := (get_new (Nat.lt_succ_self _)).trans gnew
  have e2 : (((h1.new ⟨[.int .u64 0], .own⟩).new ⟨[.int .u64 0], .own⟩).put h1.size ⟨[.int .u64 va], .own⟩).get (h1.new ⟨[.int .u64 0], .own⟩).size = some ⟨[.int .u64 0], .own⟩ := (get_put (Nat.succ_ne_self _)).trans gnew
  have l1 : leIs 1 [Value.int .u64 0] = true := rfl
  have p1 : spl [Value.int .u64 0] 0 [.int .u64 va] = [.int .u64 va] := rfl
  have p2 : spl [Value.int .u64 0] 0 [.int .u64 vb] = [.int .u64 vb] := rfl
  have e3 : ((((h1.new ⟨[.int .u64 0], .own⟩).new ⟨[.int .u64 0], .own⟩).put h1.size ⟨[.int .u64 va], .own⟩).put (h1.new ⟨[.int .u64 0], .own⟩).size ⟨[.int .u64 vb], .own⟩).get (h.new ⟨[.int .i64 n], .own⟩).size = some ⟨[.nilFunc], .own⟩ := by
    have a1 : (h.new ⟨[.int .i64 n], .own⟩).size = h.size + 1 := rfl
    have a2 : (h1.new ⟨[.int .u64 0], .own⟩).size = h1.size + 1 := rfl
    rw [a1, a2]
    rw [get_put (by omega), get_put (by omega), get_new (by rw [a2]; omega), get_new (by omega)]
    exact g2
  have l3 : leIs 1 [Value.nilFunc] = true := rfl
  have p3 : ∀ v, spl [Value.nilFunc] 0 [v] = [v] := fun _ => rfl
  have e4 : ∀ v : Value, (((((h1.new ⟨[.int .u64 0], .own⟩).new ⟨[.int .u64 0], .own⟩).put h1.size ⟨[.int .u64 va], .own⟩).put (h1.new ⟨[.int .u64 0], .own⟩).size ⟨[.int .u64 vb], .own⟩).put (h.new ⟨[.int .i64 n], .own⟩).size ⟨[v], .own⟩).rdN (h.new ⟨[.int .i64 n], .own⟩).size 0 1 = some [v] := fun v => by
    rw [rdN_mk gput (by simp)]; rfl
  simp +contextual only [↓AM, ↓AV, AP, e1, e2, e3, e4, l1, l3, p1, p2, p3, ok_fn, co_fn, allc_fn]
  refine ⟨_, rfl, ⟨h1.size, h.size, (h1.new ⟨[.int .u64 0], .own⟩).size, n, rfl, rfl, by omega, Nat.le_refl _, by rw [size_new]; omega, ?_, ?_, ?_⟩, ?_⟩
  · rw [get_put (by simp only [size_new]; omega), get_put (by simp only [size_new]; omega), gput, ← v1]
  · rw [get_put (by simp only [size_new]; omega), get_put (by simp only [size_new]; omega), get_put (by omega), get_new (by rw [size_new]; omega), get_new (by omega)]
    exact g1
  · rw [get_put (by simp only [size_new]; omega), gput, ← v2]
  · refine Fm.put (Fm.put (Fm.put (fm0.trans (Fm.new (Fm.new (Fm.refl (F := No)))) fun _ _ x => x) ?_) ?_) ?_ <;> (try simp only [size_new]) <;> omega
/-- The error of a block. -/
def blkE (k : Nat) (n i : Int) : Int := if k ≠ 16 then 4 else if ¬ (0 ≤ n ∧ n ≤ 2199023255552) ∨ ¬ (0 ≤ i ∧ i ≤ 1048576) then 1 else 0
def blkR (xs : List Int) (n i : Int) : List Int := if blkE xs.length n i = 0 then blk xs n i else []
def BlkPost (xs : List Int) (n i : Int) (h : Hp) (v : Value) (h' : Hp) : Prop :=
  ∃ a cap, v = .tuple #[.slice a (blkR xs n i).length cap, .int .i64 (blkE xs.length n i)] ∧ Rd h' 1 a (blkR xs n i).length ((blkR xs n i).map (Value.int .u8)) ∧ Nw h a ∧ Fm No h h'
theorem BlkPost.no {xs : List Int} {n i e : Int} {h h' : Hp} {v : Value} (he : blkE xs.length n i = e) (hne : e ≠ 0) (hv : v = .tuple #[.slice none 0 0, .int .i64 e]) (fm : Fm No h h') : BlkPost xs n i h v h' := by
  have hr : blkR xs n i = [] := by rw [blkR, if_neg (by rw [he]; exact hne)]
  refine ⟨none, 0, ?_, ?_, Nw.none, fm⟩
  · rw [hr, he]; exact hv
  · rw [hr]; exact Rd.mk0
theorem c_Block {h : Hp} {a : Option Addr} {k cap : Nat} {xs : List Int} {n i : Int} (r : Rd h 1 a k (xs.map (Value.int .u8))) (hb : Bytes xs) (hc : k ≤ cap) :
    ACalls Try.prog 8 [.slice a k cap, .int .i64 n, .int .i64 i] h (BlkPost xs n i h) := by
  refine crypt_Block_ok.snd hm rfl fun w => ?_
  rw [WF_eq, crypt_Block]
  have hl := r.ilen
  by_cases h16 : k = 16
  case neg =>
    have e0 : EqI (k : Int) 16 = False := eq_false (by unfold EqI; omega)
    simp +contextual only [↓AM, ↓AV, AP, e0]
    exact BlkPost.no (by rw [blkE, if_pos (by omega)]) (by decide) rfl Fm.refl
  subst h16
  have e0 : EqI ((16 : Nat) : Int) 16 = True := eq_true rfl
  simp +contextual only [↓AM, ↓AV, AP, e0]
  refine c_within.use ?_
  rintro _ _ w1 ⟨rfl, rfl⟩
  by_cases h1 : 0 ≤ n ∧ n ≤ 2199023255552
  case neg =>
    simp +contextual only [↓AM, ↓AV, AP, h1]
    exact BlkPost.no (by rw [blkE, if_neg (by omega), if_pos (.inl h1)]) (by decide) rfl Fm.refl
  simp +contextual only [↓AM, ↓AV, AP, h1]
  refine c_within.use ?_
  rintro _ h w1 ⟨rfl, rfl⟩
  by_cases h2 : 0 ≤ i ∧ i ≤ 1048576
  case neg =>
    simp +contextual only [↓AM, ↓AV, AP, h2]
    exact BlkPost.no (by rw [blkE, if_neg (by omega), if_pos (.inr h2)]) (by decide) rfl Fm.refl
  simp +contextual only [↓AM, ↓AV, AP, h2]
  have he : blkE xs.length n i = 0 := by rw [blkE, if_neg (by omega), if_neg (by omega)]
  have hR : blkR xs n i = blk xs n i := by rw [blkR, if_pos he]
  refine (c_newCipher r hb hc).use ?_
  rintro _ h3 w3 ⟨c, rfl, C, fm3⟩
  obtain ⟨pA, pN, pB, m, rfl, hN, l1, l2, l3, g1, g2, g3⟩ := C.out
  simp +contextual only [↓AM, ↓AV, AP]
  refine ⟨by kernel_rfl, (c_cipher1 g1 g2 g3).use ?_⟩
  rintro _ h4 w4 ⟨rfl, fm4⟩
  rw [← hN]
  have hbl : blkB (BitVec.ofInt 64 (val (xs.take 8))) (BitVec.ofInt 64 (val (xs.drop 8))) (BitVec.ofInt 64 n) (BitVec.ofInt 64 i) = blk xs n i := rfl
  rw [hbl]
  have hlen : (blk xs n i).length = 16 := blkB_len _ _ _ _
  have l16 : lenIs ((blk xs n i).map (Value.int .u8)) 16 = true := by rw [← lenIs_p]; simp [hlen]
  have ea : allc ((blk xs n i).map (Value.int .u8)) = true := by
    rw [← allc_eq, List.all_eq_true]; intro v hv; obtain ⟨x, _, rfl⟩ := List.mem_map.1 hv; rfl
  have el : leIs 16 (List.replicate 16 (Value.int .u8 0)) = true := by rw [← leIs_p]; simp
  have es : spl (List.replicate 16 (Value.int .u8 0)) 0 ((blk xs n i).map (Value.int .u8)) = (blk xs n i).map (Value.int .u8) := by
    unfold spl
    rw [List.drop_eq_nil_of_le (by simp [hlen])]; simp
  have f1 : (16 = 0) = False := by simp
  simp +contextual only [↓AM, ↓AV, AP, bnds, Option.isNone, l16, ea, el, es, new_put, f1]
  have ow := (Ow.new (h := h4) (z := 1) (n := 16) (m := 16) (cs := (blk xs n i).map (Value.int .u8)) (by simp [hlen]) (Nat.le_refl _)).rd
  rw [List.take_of_length_le (by simp [hlen])] at ow
  have fm5 : Fm No h (h4.new ⟨(blk xs n i).map (Value.int .u8), .own⟩) := Fm.new (fm3.trans fm4 fun _ _ x => x)
  refine ⟨some ⟨h4.size, 0, none⟩, 16, ?_, ?_, Nw.new (fm3.trans fm4 fun _ _ x => x), fm5⟩
  · rw [hR, he, hlen]
  · rw [hR, hlen]; exact ow
theorem c_block {h : Hp} {a : Option Addr} {cap : Nat} {xs : List Int} {n i : Int} (r : Rd h 1 a 16 (xs.map (Value.int .u8))) (hb : Bytes xs) (hc : 16 ≤ cap) :
    ACalls Try.prog 30 [.slice a 16 cap, .int .i64 n, .int .i64 i] h fun v h' => ∃ oa c, v = .slice oa 16 c ∧ Ow h' 1 oa 16 c ((blk xs n i).map (Value.int .u8)) ∧ Nw h oa ∧ Fm No h h' := by
  refine dioramaref21_block_ok.snd hm rfl fun w => ?_
  rw [WF_eq, dioramaref21_block]
  have hl := r.ilen
  obtain ⟨b, off, sp, rfl, hf, -⟩ := r.pos (by omega)
  obtain ⟨r1, r2⟩ := key_parts r hf hc
  have hcp : capOk sp 16 cap := by cases sp <;> simp [capOk, hc]
  have f1 : ((0 : Int) ≤ 8) = True := by simp
  have f2 : ((8 : Int) ≤ (cap : Int)) = True := eq_true (by omega)
  have f3 : ((8 : Int) ≤ ((16 : Nat) : Int)) = True := by simp
  have f4 : (((16 : Nat) : Int) ≤ (cap : Int)) = True := eq_true (by omega)
  have t8 : Int.toNat 8 = 8 := rfl
  have f5 : 16 - 8 = 8 := rfl
  have v1 := val_u (l := xs.take 8) (bytes_take hb 8) (by simp; omega)
  have v2 := val_u (l := xs.drop 8) (bytes_drop hb 8) (by simp; omega)
  have hbl : blk xs n i = blkB (BitVec.ofInt 64 (val (xs.take 8))) (BitVec.ofInt 64 (val (xs.drop 8))) (BitVec.ofInt 64 n) (BitVec.ofInt 64 i) := rfl
  have b1 := bytes_take hb 8
  have b2 := bytes_drop hb 8
  have l1 : (xs.take 8).length = 8 := by simp; omega
  have l2 : (xs.drop 8).length = 8 := by simp; omega
  rw [hbl]
  generalize hva : val (xs.take 8) = va at *
  generalize hvb : val (xs.drop 8) = vb at *
  have eN := u_of n
  have eI := u_of i
  generalize BitVec.ofInt 64 n = N at *
  generalize BitVec.ofInt 64 i = I at *
  generalize BitVec.ofInt 64 va = A at *
  generalize BitVec.ofInt 64 vb = B at *
  simp +contextual only [↓AM, ↓AV, AP, bnds, Option.isNone, t8, f1, f2, f3, f4, f5, hf, hcp]
  change CallT _ _ _ _ _ _
  refine (c_rword r1 b1).use ?_
  rintro _ h1 w1 ⟨rfl, rfl⟩
  rw [hva, v1]
  simp +contextual only [↓AM, ↓AV, AP, eN, eI, mul_c3, u_add]
  refine c_rmix.use ?_
  rintro _ h1 w1 ⟨rfl, rfl⟩
  simp +contextual only [↓AM, ↓AV, AP, bnds, Option.isNone, t8, f1, f2, f3, f4, f5, hf, hcp]
  change CallT _ _ _ _ _ _
  refine (c_rword r2 b2).use ?_
  rintro _ h1 w1 ⟨rfl, rfl⟩
  rw [hvb, v2]
  simp +contextual only [↓AM, ↓AV, AP, eI, mul_2, add_1, u_add]
  refine c_rmix.use ?_
  rintro _ h1 w1 ⟨rfl, rfl⟩
  generalize hu : mixB (A + N * 11400714819323198485#64 + I) = u
  generalize hv : mixB (B + u + I * 2#64 + 1#64) = v
  have hblk : blkB A B N I = bytesN 8 (u.toNat : Int) ++ bytesN 8 (v.toNat : Int) := by rw [blkB, blkV, blkU, hu, hv]
  rw [hblk]
  simp +contextual only [↓AM, ↓AV, AP]
  refine (c_bytes (u_bd u)).use ?_
  rintro _ h2 w2 ⟨rfl, rfl⟩
  simp +contextual only [↓AM, ↓AV, AP]
  refine (c_bytes (u_bd v)).use ?_
  rintro _ h3 w3 ⟨rfl, rfl⟩
  have lu : lenIs ((bytesN 8 (v.toNat : Int)).map (Value.int .u8)) (8 * 1) = true := by rw [← lenIs_p]; simp [bytesN_len]
  simp +contextual only [↓AM, ↓AV, AP, src_new lu]
  have ow := Ow.new (h := h1) (z := 1) (n := 8) (m := 8) (cs := (bytesN 8 (u.toNat : Int)).map (Value.int .u8)) (by simp [bytesN_len]) (Nat.le_refl _)
  rw [List.take_of_length_le (by simp [bytesN_len])] at ow
  refine ow.push (m := 8) w2 (by simp [bytesN_len]) (by omega) fun oa' cap' h4 o4 w4 f4 n4 => ?_
  have fm1 : Fm No h1 (h1.new ⟨(bytesN 8 (u.toNat : Int)).map (Value.int .u8), .own⟩) := Fm.new Fm.refl
  obtain ⟨g1, g2⟩ := grown fm1 (Nw.new Fm.refl) f4 n4
  simp +contextual only [↓AM, ↓AV, AP]
  refine ⟨oa', cap', rfl, ?_, g2, g1⟩
  rw [List.map_append]; exact o4
theorem c_rBlock {h : Hp} {a : Option Addr} {k cap : Nat} {xs : List Int} {n i : Int} (r : Rd h 1 a k (xs.map (Value.int .u8))) (hb : Bytes xs) (hc : k ≤ cap) :
    ACalls Try.prog 9 [.slice a k cap, .int .i64 n, .int .i64 i] h (BlkPost xs n i h) := by
  refine dioramaref21_Block_ok.snd hm rfl fun w => ?_
  rw [WF_eq, dioramaref21_Block]
  have hl := r.ilen
  by_cases h16 : k = 16
  case neg =>
    have e0 : EqI (k : Int) 16 = False := eq_false (by unfold EqI; omega)
    simp +contextual only [↓AM, ↓AV, AP, e0]
    exact BlkPost.no (by rw [blkE, if_pos (by omega)]) (by decide) rfl Fm.refl
  subst h16
  have e0 : EqI ((16 : Nat) : Int) 16 = True := eq_true rfl
  simp +contextual only [↓AM, ↓AV, AP, e0]
  refine c_in.use ?_
  rintro _ _ w1 ⟨rfl, rfl⟩
  by_cases h1 : 0 ≤ n ∧ n ≤ 2199023255552
  case neg =>
    simp +contextual only [↓AM, ↓AV, AP, h1]
    exact BlkPost.no (by rw [blkE, if_neg (by omega), if_pos (.inl h1)]) (by decide) rfl Fm.refl
  simp +contextual only [↓AM, ↓AV, AP, h1]
  refine c_in.use ?_
  rintro _ h w1 ⟨rfl, rfl⟩
  by_cases h2 : 0 ≤ i ∧ i ≤ 1048576
  case neg =>
    simp +contextual only [↓AM, ↓AV, AP, h2]
    exact BlkPost.no (by rw [blkE, if_neg (by omega), if_pos (.inr h2)]) (by decide) rfl Fm.refl
  simp +contextual only [↓AM, ↓AV, AP, h2]
  have he : blkE xs.length n i = 0 := by rw [blkE, if_neg (by omega), if_neg (by omega)]
  have hR : blkR xs n i = blk xs n i := by rw [blkR, if_pos he]
  have hlen : (blk xs n i).length = 16 := blkB_len _ _ _ _
  refine (c_block r hb hc).use ?_
  rintro _ h3 w3 ⟨oa, c, rfl, ow, nw, fm⟩
  simp +contextual only [↓AM, ↓AV, AP]
  refine ⟨oa, c, ?_, ?_, nw, fm⟩
  · rw [hR, he, hlen]
  · rw [hR, hlen]; exact ow.rd
end Go.Proofs.Ytloonniiffbopaa.Cr
