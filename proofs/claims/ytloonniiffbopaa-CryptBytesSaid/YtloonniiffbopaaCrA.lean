/- The mixing of a number is one-to-one. Plain theorems.
   Conditions: none. -/
namespace Go.Proofs.Ytloonniiffbopaa.Cr
set_option linter.unusedVariables false

theorem xsr_bits {w k : Nat} (hk : 0 < k) {x y : BitVec w} (h : x ^^^ x >>> k = y ^^^ y >>> k) : ∀ n i : Nat, w ≤ i + n → x.getLsbD i = y.getLsbD i
  | 0, i, hi => by rw [BitVec.getLsbD_of_ge _ _ (by omega), BitVec.getLsbD_of_ge _ _ (by omega)]
  | n + 1, i, hi => by
    have ih := xsr_bits hk h n (k + i) (by omega)
    have hb := congrArg (fun z => z.getLsbD i) h
    simp only [BitVec.getLsbD_xor, BitVec.getLsbD_ushiftRight] at hb
    rw [ih] at hb
    revert hb
    cases x.getLsbD i <;> cases y.getLsbD i <;> cases y.getLsbD (k + i) <;> simp
theorem xsr_inj {w k : Nat} (hk : 0 < k) {x y : BitVec w} (h : x ^^^ x >>> k = y ^^^ y >>> k) : x = y :=
  BitVec.eq_of_getLsbD_eq fun i hi => xsr_bits hk h w i (by omega)
theorem mul_inj {w : Nat} {c d x y : BitVec w} (hc : c * d = 1#w) (h : x * c = y * c) : x = y := by
  have := congrArg (· * d) h
  simp only [BitVec.mul_assoc, hc, BitVec.mul_one] at this
  exact this
def mixB (z : BitVec 64) : BitVec 64 :=
  let z := (z ^^^ z >>> 30) * 0xB5297A4D3F84D5B5#64
  let z := (z ^^^ z >>> 27) * 0x68E31DA4B1C7E2A9#64
  z ^^^ z >>> 31
theorem inv1 : 0xB5297A4D3F84D5B5#64 * 0xf76f3fa40ffb309d#64 = 1#64 := by decide
theorem inv2 : 0x68E31DA4B1C7E2A9#64 * 0x72432cee4d9be199#64 = 1#64 := by decide
theorem inv3 : 0x9E3779B97F4A7C15#64 * 0xf1de83e19937733d#64 = 1#64 := by decide
theorem mixB_inj {x y : BitVec 64} (h : mixB x = mixB y) : x = y :=
  xsr_inj (by decide) (mul_inj inv1 (xsr_inj (by decide) (mul_inj inv2 (xsr_inj (by decide) h))))
/-- The number that bytes say. -/
def val (l : List Int) : Int := l.foldl (fun a x => a * 256 + x) 0
theorem val_snoc (l : List Int) (x : Int) : val (l ++ [x]) = val l * 256 + x := by simp [val, List.foldl_append]
def Bytes (l : List Int) : Prop := ∀ x ∈ l, 0 ≤ x ∧ x ≤ 255
theorem val_inj : ∀ (r s : List Int), Bytes r → Bytes s → r.length = s.length → val r.reverse = val s.reverse → r = s
  | [], [], _, _, _, _ => rfl
  | [], _ :: _, _, _, h, _ => by cases h
  | _ :: _, [], _, _, h, _ => by cases h
  | x :: r, y :: s, hr, hs, hl, h => by
    rw [List.reverse_cons, List.reverse_cons, val_snoc, val_snoc] at h
    have h1 := hr x (by simp)
    have h2 := hs y (by simp)
    have hxy : x = y := by omega
    subst hxy
    rw [val_inj r s (fun z hz => hr z (by simp [hz])) (fun z hz => hs z (by simp [hz])) (by simpa using hl) (by omega)]
theorem val_lt : ∀ (r : List Int), Bytes r → 0 ≤ val r.reverse ∧ val r.reverse < 256 ^ r.length
  | [], _ => by simp [val]
  | x :: r, h => by
    have h1 := h x (by simp)
    obtain ⟨a, b⟩ := val_lt r fun z hz => h z (by simp [hz])
    rw [List.reverse_cons, val_snoc, List.length_cons, Int.pow_succ]
    omega
/-- The two halves of a block. -/
def blkU (a nonce i : BitVec 64) : BitVec 64 := mixB (a + nonce * 0x9E3779B97F4A7C15#64 + i)
def blkV (a b nonce i : BitVec 64) : BitVec 64 := mixB (b + blkU a nonce i + i * 2#64 + 1#64)
theorem add_inj {w : Nat} {x y z : BitVec w} (h : x + z = y + z) : x = y := by
  have := congrArg (· - z) h
  simpa [BitVec.add_sub_cancel] using this
theorem add_injL {w : Nat} {x y z : BitVec w} (h : z + x = z + y) : x = y := add_inj (by rw [BitVec.add_comm x z, BitVec.add_comm y z]; exact h)
/-- Another key, another block. -/
theorem blk_key {a a' b b' nonce i : BitVec 64} (h1 : blkU a nonce i = blkU a' nonce i) (h2 : blkV a b nonce i = blkV a' b' nonce i) : a = a' ∧ b = b' := by
  have ha : a = a' := add_inj (add_inj (mixB_inj h1))
  subst ha
  exact ⟨rfl, add_inj (add_inj (add_inj (mixB_inj h2)))⟩
/-- Another nonce, another block. -/
theorem blk_nonce {a n n' i : BitVec 64} (h : blkU a n i = blkU a n' i) : n = n' := mul_inj inv3 (add_injL (add_inj (mixB_inj h)))
end Go.Proofs.Ytloonniiffbopaa.Cr
