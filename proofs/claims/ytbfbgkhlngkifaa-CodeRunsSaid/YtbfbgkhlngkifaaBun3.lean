/- How many bits a number has; limbs moved up by bits. Plain theorems over the abstract machine.
   Conditions: none. -/
import Derived.Test.YtbfbgkhlngkifaaBun2
import Derived.Test.YtbfbgkhlngkifaaAmZa
import Derived.Test.YtbfbgkhlngkifaaAmZd
namespace Go.Proofs.Ytbfbgkhlngkifaa.Nu
open Go Go.RowKit Go.Proofs.Ytbfbgkhlngkifaa.Am Go.Proofs.Ytbfbgkhlngkifaa.Af Go.Proofs.Ytbfbgkhlngkifaa.Md
set_option linter.unusedVariables false
set_option linter.unusedSimpArgs false
set_option linter.defProp false
set_option maxRecDepth 20000
set_option maxHeartbeats 1000000

def tab8 : ByteArray := ⟨#[0, 1, 2, 2, 3, 3, 3, 3, 4, 4, 4, 4, 4, 4, 4, 4, 5, 5, 5, 5, 5, 5, 5, 5, 5, 5, 5, 5, 5, 5, 5, 5, 6, 6, 6, 6, 6, 6, 6, 6, 6, 6, 6, 6, 6, 6, 6, 6, 6, 6, 6, 6, 6, 6, 6, 6, 6, 6, 6, 6, 6, 6, 6, 6, 7, 7, 7, 7, 7, 7, 7, 7, 7, 7, 7, 7, 7, 7, 7, 7, 7, 7, 7, 7, 7, 7, 7, 7, 7, 7, 7, 7, 7, 7, 7, 7, 7, 7, 7, 7, 7, 7, 7, 7, 7, 7, 7, 7, 7, 7, 7, 7, 7, 7, 7, 7, 7, 7, 7, 7, 7, 7, 7, 7, 7, 7, 7, 7, 8, 8, 8, 8, 8, 8, 8, 8, 8, 8, 8, 8, 8, 8, 8, 8, 8, 8, 8, 8, 8, 8, 8, 8, 8, 8, 8, 8, 8, 8, 8, 8, 8, 8, 8, 8, 8, 8, 8, 8, 8, 8, 8, 8, 8, 8, 8, 8, 8, 8, 8, 8, 8, 8, 8, 8, 8, 8, 8, 8, 8, 8, 8, 8, 8, 8, 8, 8, 8, 8, 8, 8, 8, 8, 8, 8, 8, 8, 8, 8, 8, 8, 8, 8, 8, 8, 8, 8, 8, 8, 8, 8, 8, 8, 8, 8, 8, 8, 8, 8, 8, 8, 8, 8, 8, 8, 8, 8, 8, 8, 8, 8, 8, 8, 8, 8, 8, 8, 8, 8, 8, 8, 8, 8, 8, 8, 8, 8]⟩
def tabOk (b : Nat) : Bool := match tab8.data.toList[b]? with
  | some v => Nat.ble v.toNat 8 && Nat.blt b (2 ^ v.toNat) && (Nat.beq b 0 || (Nat.ble 1 v.toNat && Nat.ble (2 ^ (v.toNat - 1)) b))
  | none => false
theorem tab_all : ((List.range 256).all tabOk) = true := by kernel_rfl
theorem tab_at {b : Nat} (hb : b < 256) : ∃ v : UInt8, tab8.data.toList[b]? = some v ∧ v.toNat ≤ 8 ∧ b < 2 ^ v.toNat ∧ (b = 0 ∨ 1 ≤ v.toNat ∧ 2 ^ (v.toNat - 1) ≤ b) := by
  have := List.all_eq_true.1 tab_all b (List.mem_range.2 hb)
  unfold tabOk at this
  split at this
  · rename_i v hv
    refine ⟨v, hv, ?_⟩
    simp only [Bool.and_eq_true, Bool.or_eq_true] at this
    obtain ⟨⟨h1, h2⟩, h3⟩ := this
    refine ⟨Nat.le_of_ble_eq_true h1, Nat.le_of_ble_eq_true h2, ?_⟩
    rcases h3 with h3 | h3
    · exact .inl (Nat.eq_of_beq_eq_true h3)
    · exact .inr ⟨Nat.le_of_ble_eq_true h3.1, Nat.le_of_ble_eq_true h3.2⟩
  · cases this
/-- n is how many bits x has. -/
def Bl (x n : Nat) : Prop := x < 2 ^ n ∧ (x = 0 ∨ 1 ≤ n ∧ 2 ^ (n - 1) ≤ x)
theorem Bl.up {x n k : Nat} (h : Bl (x / 2 ^ k) n) (hx : x / 2 ^ k ≠ 0) : Bl x (k + n) := by
  obtain ⟨h1, h2⟩ := h
  have hp : 0 < 2 ^ k := Nat.pow_pos (by decide)
  refine ⟨?_, .inr ?_⟩
  · rw [Nat.pow_add, Nat.mul_comm]
    exact (Nat.div_lt_iff_lt_mul hp).1 h1
  · rcases h2 with h2 | ⟨h2, h3⟩
    · exact absurd h2 hx
    · refine ⟨by omega, ?_⟩
      rw [show k + n - 1 = (n - 1) + k by omega, Nat.pow_add]
      exact (Nat.le_div_iff_mul_le hp).1 h3
theorem shr_16 {n : Nat} : (n : Int).fdiv (2 ^ min 16 IntKind.u32.bits) = ((n / 2 ^ 16 : Nat) : Int) := by
  show (n : Int).fdiv 65536 = _
  rw [Int.fdiv_eq_ediv_of_nonneg _ (by omega)]; rfl
theorem shr_8 {n : Nat} : (n : Int).fdiv (2 ^ min 8 IntKind.u32.bits) = ((n / 2 ^ 8 : Nat) : Int) := by
  show (n : Int).fdiv 256 = _
  rw [Int.fdiv_eq_ediv_of_nonneg _ (by omega)]; rfl
theorem c_Len32 {h : Hp} {x : Nat} (hx : x < 4294967296) : ACalls Try.prog 133 [.int .u32 (x : Int)] h fun v h' => h' = h ∧ ∃ n : Nat, v = .int .i64 (n : Int) ∧ n ≤ 32 ∧ Bl x n := by
  refine bits_Len32_ok.snd hm rfl fun w => ?_
  rw [WF_eq, bits_Len32]
  have low : ∀ b : Nat, b < 256 → ∃ v : UInt8, (⟨#[0, 1, 2, 2, 3, 3, 3, 3, 4, 4, 4, 4, 4, 4, 4, 4, 5, 5, 5, 5, 5, 5, 5, 5, 5, 5, 5, 5, 5, 5, 5, 5, 6, 6, 6, 6, 6, 6, 6, 6, 6, 6, 6, 6, 6, 6, 6, 6, 6, 6, 6, 6, 6, 6, 6, 6, 6, 6, 6, 6, 6, 6, 6, 6, 7, 7, 7, 7, 7, 7, 7, 7, 7, 7, 7, 7, 7, 7, 7, 7, 7, 7, 7, 7, 7, 7, 7, 7, 7, 7, 7, 7, 7, 7, 7, 7, 7, 7, 7, 7, 7, 7, 7, 7, 7, 7, 7, 7, 7, 7, 7, 7, 7, 7, 7, 7, 7, 7, 7, 7, 7, 7, 7, 7, 7, 7, 7, 7, 8, 8, 8, 8, 8, 8, 8, 8, 8, 8, 8, 8, 8, 8, 8, 8, 8, 8, 8, 8, 8, 8, 8, 8, 8, 8, 8, 8, 8, 8, 8, 8, 8, 8, 8, 8, 8, 8, 8, 8, 8, 8, 8, 8, 8, 8, 8, 8, 8, 8, 8, 8, 8, 8, 8, 8, 8, 8, 8, 8, 8, 8, 8, 8, 8, 8, 8, 8, 8, 8, 8, 8, 8, 8, 8, 8, 8, 8, 8, 8, 8, 8, 8, 8, 8, 8, 8, 8, 8, 8, 8, 8, 8, 8, 8, 8, 8, 8, 8, 8, 8, 8, 8, 8, 8, 8, 8, 8, 8, 8, 8, 8, 8, 8, 8, 8, 8, 8, 8, 8, 8, 8, 8, 8, 8, 8, 8, 8]⟩ : ByteArray).data.toList[b]? = some v ∧ v.toNat ≤ 8 ∧ Bl b v.toNat := fun b hb => tab_at hb
  generalize (⟨#[0, 1, 2, 2, 3, 3, 3, 3, 4, 4, 4, 4, 4, 4, 4, 4, 5, 5, 5, 5, 5, 5, 5, 5, 5, 5, 5, 5, 5, 5, 5, 5, 6, 6, 6, 6, 6, 6, 6, 6, 6, 6, 6, 6, 6, 6, 6, 6, 6, 6, 6, 6, 6, 6, 6, 6, 6, 6, 6, 6, 6, 6, 6, 6, 7, 7, 7, 7, 7, 7, 7, 7, 7, 7, 7, 7, 7, 7, 7, 7, 7, 7, 7, 7, 7, 7, 7, 7, 7, 7, 7, 7, 7, 7, 7, 7, 7, 7, 7, 7, 7, 7, 7, 7, 7, 7, 7, 7, 7, 7, 7, 7, 7, 7, 7, 7, 7, 7, 7, 7, 7, 7, 7, 7, 7, 7, 7, 7, 8, 8, 8, 8, 8, 8, 8, 8, 8, 8, 8, 8, 8, 8, 8, 8, 8, 8, 8, 8, 8, 8, 8, 8, 8, 8, 8, 8, 8, 8, 8, 8, 8, 8, 8, 8, 8, 8, 8, 8, 8, 8, 8, 8, 8, 8, 8, 8, 8, 8, 8, 8, 8, 8, 8, 8, 8, 8, 8, 8, 8, 8, 8, 8, 8, 8, 8, 8, 8, 8, 8, 8, 8, 8, 8, 8, 8, 8, 8, 8, 8, 8, 8, 8, 8, 8, 8, 8, 8, 8, 8, 8, 8, 8, 8, 8, 8, 8, 8, 8, 8, 8, 8, 8, 8, 8, 8, 8, 8, 8, 8, 8, 8, 8, 8, 8, 8, 8, 8, 8, 8, 8, 8, 8, 8, 8, 8, 8]⟩ : ByteArray) = T at *
  have e16 : (65536 : Nat) = 2 ^ 16 := rfl
  have e8 : (256 : Nat) = 2 ^ 8 := rfl
  by_cases h1 : (65536 : Int) ≤ (x : Int)
  · have d1 : x / 2 ^ 16 < 65536 := by omega
    have d0 : x / 2 ^ 16 ≠ 0 := by omega
    by_cases h2 : (256 : Int) ≤ ((x / 2 ^ 16 : Nat) : Int)
    · have g1 : x / 2 ^ 16 / 2 ^ 8 < 256 := by omega
      have g0 : x / 2 ^ 16 / 2 ^ 8 ≠ 0 := by omega
      obtain ⟨v, hv, hv8, hb⟩ := low _ g1
      simp +contextual (disch := omega) only [↓AM, ↓AV, AP, CQ, shr_16, shr_8, i64, u8, h1, h2, hv]
      exact ⟨8 + 16 + v.toNat, by simp, by omega, by have := (hb.up g0).up d0; rwa [show 16 + (8 + v.toNat) = 8 + 16 + v.toNat by omega] at this⟩
    · have g1 : x / 2 ^ 16 < 256 := by omega
      obtain ⟨v, hv, hv8, hb⟩ := low _ g1
      simp +contextual (disch := omega) only [↓AM, ↓AV, AP, CQ, shr_16, shr_8, i64, u8, h1, h2, hv]
      exact ⟨16 + v.toNat, by simp, by omega, hb.up d0⟩
  · by_cases h2 : (256 : Int) ≤ (x : Int)
    · have g1 : x / 2 ^ 8 < 256 := by omega
      have g0 : x / 2 ^ 8 ≠ 0 := by omega
      obtain ⟨v, hv, hv8, hb⟩ := low _ g1
      simp +contextual (disch := omega) only [↓AM, ↓AV, AP, CQ, shr_16, shr_8, i64, u8, h1, h2, hv]
      exact ⟨8 + v.toNat, by simp, by omega, hb.up g0⟩
    · have g1 : x < 256 := by omega
      obtain ⟨v, hv, hv8, hb⟩ := low _ g1
      simp +contextual (disch := omega) only [↓AM, ↓AV, AP, CQ, shr_16, shr_8, i64, u8, h1, h2, hv]
      exact ⟨v.toNat, by simp, by omega, hb⟩
end Go.Proofs.Ytbfbgkhlngkifaa.Nu

/- Limbs moved up by bits. Plain theorems over the abstract machine.
   Conditions: none. -/
namespace Go.Proofs.Ytbfbgkhlngkifaa.Nu
open Go Go.RowKit Go.Proofs.Ytbfbgkhlngkifaa.Am Go.Proofs.Ytbfbgkhlngkifaa.Af Go.Proofs.Ytbfbgkhlngkifaa.Md
set_option linter.unusedVariables false
set_option linter.unusedSimpArgs false
set_option linter.defProp false
set_option maxRecDepth 20000
set_option maxHeartbeats 1000000

theorem c_Lz {h : Hp} {x : Nat} (h0 : 0 < x) (hx : x < 4294967296) : ACalls Try.prog 130 [.int .u32 (x : Int)] h fun v h' => h' = h ∧ ∃ by_ : Nat, v = .int .i64 (by_ : Int) ∧ by_ < 32 ∧ 2147483648 ≤ x * 2 ^ by_ ∧ x * 2 ^ by_ < 4294967296 := by
  refine bits_LeadingZeros32_ok.snd hm rfl fun w => ?_
  rw [WF_eq, bits_LeadingZeros32]
  simp +contextual (disch := omega) only [↓AM, ↓AV, AP, CQ]
  refine (c_Len32 hx).use ?_
  rintro _ _ w1 ⟨rfl, n, rfl, hn, h1, h2⟩
  have e : (32 : Int) - (n : Int) = ((32 - n : Nat) : Int) := by omega
  simp +contextual (disch := omega) only [↓AM, ↓AV, AP, CQ, i64, e]
  rcases h2 with h2 | ⟨h2, h3⟩
  · omega
  refine ⟨32 - n, rfl, by omega, ?_, ?_⟩
  · have := Nat.mul_le_mul_right (2 ^ (32 - n)) h3
    rw [← Nat.pow_add, show n - 1 + (32 - n) = 31 by omega] at this
    exact this
  · have := Nat.mul_lt_mul_of_pos_right h1 (Nat.pow_pos (n := 32 - n) (show 0 < 2 by decide))
    rw [← Nat.pow_add, show n + (32 - n) = 32 by omega] at this
    exact this
theorem shl_by {x b : Nat} (hb : b ≤ 64) : (x : Int) * 2 ^ min b IntKind.u64.bits = ((x * 2 ^ b : Nat) : Int) := by
  rw [show min b IntKind.u64.bits = b from Nat.min_eq_left hb]
  rw [Int.natCast_mul, Int.natCast_pow]; rfl
theorem or_by {l x b : Nat} (hl : l < 2 ^ b) (hx : x < 4294967296) (hb : b < 32) : (BitVec.ofInt IntKind.u64.bits (l : Int) ||| BitVec.ofInt IntKind.u64.bits ((x * 2 ^ b : Nat) : Int)).toNat = l + x * 2 ^ b := by
  have hp : 2 ^ b ≤ 2147483648 := Nat.pow_le_pow_right (by decide) (show b ≤ 31 by omega)
  have hm : x * 2 ^ b ≤ 4294967296 * 2147483648 := Nat.mul_le_mul (by omega) hp
  show (BitVec.ofInt 64 (l : Int) ||| BitVec.ofInt 64 ((x * 2 ^ b : Nat) : Int)).toNat = l + x * 2 ^ b
  rw [BitVec.toNat_or, BitVec.toNat_ofInt, BitVec.toNat_ofInt]
  have e1 : ((((x * 2 ^ b : Nat) : Int)) % ((2 ^ 64 : Nat) : Int)).toNat = x <<< b := by
    rw [Nat.shiftLeft_eq]; omega
  have e2 : (((l : Nat) : Int) % ((2 ^ 64 : Nat) : Int)).toNat = l := by omega
  rw [e1, e2, Nat.or_comm, ← Nat.shiftLeft_add_eq_or_of_lt hl, Nat.shiftLeft_eq, Nat.add_comm]
theorem take_u3 {Y : List Nat} {j q : Nat} (hq : Y[j]? = some q) : vL B32 (Y.take (j + 1)) = vL B32 (Y.take j) + B32 ^ j * q := by
  rw [List.take_add_one, hq]
  show vL B32 (Y.take j ++ [q]) = _
  rw [vL_snoc, List.length_take, Nat.min_eq_left (by have := (List.getElem?_eq_some_iff.1 hq).1; omega)]
theorem c_shift {h : Hp} {a : Option Addr} {n c b : Nat} {M : List Nat} (la : Lm h a n c M) (hn : n ≤ 400000) (hb : b < 32) :
    ACalls Try.prog 131 [.slice a n c, .int .i64 (b : Int)] h fun v h' => ∃ k U, v = .slice (some ⟨k, 0, none⟩) (n + 1) (n + 1) ∧ h.size ≤ k ∧ h'.get k = some ⟨u3 U, .own⟩ ∧ U.length = n + 1 ∧ Dl B32 U ∧ vL B32 U = vL B32 M * 2 ^ b ∧ Fm No h h' := by
  refine num_shift_ok.snd hm rfl fun w => ?_
  rw [WF_eq, num_shift]
  have hml := la.len
  have hp : 0 < 2 ^ b := Nat.pow_pos (by decide)
  have hp2 : 2 ^ b ≤ 2147483648 := Nat.pow_le_pow_right (by decide) (show b ≤ 31 by omega)
  simp +contextual (disch := omega) only [↓AM, ↓AV, AP, CQ, i64, rep_u3]
  refine ⟨by omega, ?_⟩
  have zl : vL B32 (List.replicate (n + 1) 0) = 0 := vL_zeros _ _
  refine WL.mk (fun k t h' => ∃ O : List Nat, h' = h.new ⟨u3 O, .own⟩ ∧ O.length = n + 1 ∧ Dl B32 O ∧ ∃ i l : Nat, i ≤ n ∧ k = n - i ∧ l < 2 ^ b ∧ vL B32 O + B32 ^ i * l = vL B32 (M.take i) * 2 ^ b ∧ (∀ j, i ≤ j → j < O.length → O[j]? = some 0) ∧
      t = [(0, some (.slice a n c)), (1, some (.int .i64 (b : Int))), (5, some (.slice (some ⟨h.size, 0, none⟩) (n + 1) (n + 1))), (6, some (.int .u64 (l : Int))), (13, some (.slice a n c)), (14, some (.int .i64 (n : Int))), (15, some (.int .i64 (i : Int)))])
    ⟨n, _, rfl, by simp, Dl.zeros _, 0, 0, by omega, rfl, hp, by rw [zl]; simp [vL], fun j h1 h2 => by rw [List.getElem?_replicate, if_pos (by simpa using h2)], rfl⟩ ?_
  rintro k t _ ⟨O, rfl, hOl, hOd, i, l, hi, rfl, hl, hv, hz, rfl⟩
  by_cases hin : i < n
  · obtain ⟨b1, o1, s1, p, rfl, f1, hp1, r1⟩ := (la.rd.keepW w (Fm.new (o := ⟨u3 O, .own⟩) (Fm.refl (F := No))) nNo).nat hin
    have hpl : p < 4294967296 := la.dl.at hp1
    have eo := or_by hl hpl hb
    have hpb : p * 2 ^ b ≤ 4294967295 * 2 ^ b := Nat.mul_le_mul_right _ (by omega)
    have hub : p * 2 ^ b < 9223372036854775808 := by
      have : p * 2 ^ b ≤ 4294967295 * 2147483648 := Nat.mul_le_mul (by omega) hp2
      omega
    have es := shl_by (x := p) (b := b) (by omega)
    have hie : i < O.length := by omega
    have hin2 : i < n + 1 := by omega
    have ul : leIs (i + 1) (u3 O) = true := by rw [← leIs_p, u3_len]; omega
    have us : spl (u3 O) i [.int .u32 (((l + p * 2 ^ b) % 4294967296 : Nat) : Int)] = u3 (O.set i ((l + p * 2 ^ b) % 4294967296)) := spl_u3 hie
    have h0 := hz i (Nat.le_refl _) hie
    simp +contextual (disch := omega) only [↓AM, ↓AV, AP, CQ, CN, i64, u64, hin, f1, r1, es, eo, hin2, ul, us]
    refine ⟨n - (i + 1), by omega, _, rfl, by simp [hOl], hOd.set (Nat.mod_lt _ (by decide)), i + 1, (l + p * 2 ^ b) / 4294967296, by omega, rfl, ?_, ?_, ?_, rfl⟩
    · refine (Nat.div_lt_iff_lt_mul (by decide)).2 ?_
      have : 2 ^ b * 4294967296 = 4294967295 * 2 ^ b + 2 ^ b := by omega
      omega
    · have e1 := vL_set (B := B32) (d := (l + p * 2 ^ b) % 4294967296) h0
      rw [Nat.mul_zero, Nat.add_zero] at e1
      rw [take_u3 hp1, e1, Nat.add_mul, ← hv, Nat.pow_succ, Nat.mul_assoc, Nat.mul_assoc]
      have e2 : B32 ^ i * ((l + p * 2 ^ b) % 4294967296) + B32 ^ i * (B32 * ((l + p * 2 ^ b) / 4294967296)) = B32 ^ i * l + B32 ^ i * (p * 2 ^ b) := by
        rw [← Nat.mul_add, ← Nat.mul_add]; congr 1; exact Nat.mod_add_div _ 4294967296
      omega
    · intro j h1 h2
      rw [List.getElem?_set_ne (by omega)]
      exact hz j (by omega) (by simpa using h2)
  · have hie : i = n := by omega
    subst hie
    have hiO : i < O.length := by omega
    have ul : leIs (i + 1) (u3 O) = true := by rw [← leIs_p, u3_len]; omega
    have us : spl (u3 O) i [.int .u32 ((l % 4294967296 : Nat) : Int)] = u3 (O.set i (l % 4294967296)) := spl_u3 hiO
    have hin2 : i < i + 1 := by omega
    have h0 := hz i (Nat.le_refl _) hiO
    simp +contextual (disch := omega) only [↓AM, ↓AV, AP, CQ, CN, i64, u64, hin, hin2, ul, us]
    refine ⟨h.size, O.set i (l % 4294967296), rfl, Nat.le_refl _, gnew, by simp [hOl], hOd.set (Nat.mod_lt _ (by decide)), ?_, Fm.new Fm.refl⟩
    have e1 := vL_set (B := B32) (d := l % 4294967296) h0
    rw [Nat.mul_zero, Nat.add_zero] at e1
    rw [List.take_of_length_le (by omega)] at hv
    rw [e1, Nat.mod_eq_of_lt (by omega), hv]
end Go.Proofs.Ytbfbgkhlngkifaa.Nu

/- Long division: one digit, in plain numbers. Plain theorems.
   Conditions: none. -/
namespace Go.Proofs.Ytbfbgkhlngkifaa.Nu
open Go Go.RowKit Go.Proofs.Ytbfbgkhlngkifaa.Am Go.Proofs.Ytbfbgkhlngkifaa.Af Go.Proofs.Ytbfbgkhlngkifaa.Md
set_option linter.unusedVariables false
set_option linter.unusedSimpArgs false
set_option linter.defProp false
set_option maxRecDepth 20000
set_option maxHeartbeats 1000000

/-- A divisor V with its two highest limbs, and a number U with its three highest ones (the two highest of them as one). -/
structure Kn (B top u2 v1 v2 W V U : Nat) : Prop where
  v1l : 1 ≤ v1
  v2h : v2 < B
  u2h : u2 < B
  w0 : 0 < W
  vl : (v1 * B + v2) * W ≤ V
  vh : V < (v1 * B + v2 + 1) * W
  ul : (top * B + u2) * W ≤ U
  uh : U < (top * B + u2 + 1) * W
  lt : U < V * B
section
variable {B top u2 v1 v2 W V U : Nat}
theorem Kn.v0 (k : Kn B top u2 v1 v2 W V U) : 0 < V := by
  have h1 := k.lt
  refine Nat.pos_of_ne_zero fun e => ?_
  rw [e, Nat.zero_mul] at h1
  omega
theorem Kn.b0 (k : Kn B top u2 v1 v2 W V U) : 0 < B := by have := k.v2h; omega
theorem Kn.qB (k : Kn B top u2 v1 v2 W V U) : U / V < B := (Nat.div_lt_iff_lt_mul k.v0).2 (by have := k.lt; rwa [Nat.mul_comm] at this)
theorem Kn.qV (k : Kn B top u2 v1 v2 W V U) : U / V * V ≤ U := Nat.div_mul_le_self U V
/-- The quotient's estimate from above. -/
theorem Kn.qU (k : Kn B top u2 v1 v2 W V U) : U / V * (v1 * B + v2) ≤ top * B + u2 := by
  have h1 := k.qV
  have h2 := Nat.mul_le_mul_left (U / V) k.vl
  have h3 := k.uh
  have h4 : U / V * (v1 * B + v2) * W < (top * B + u2 + 1) * W := by rw [Nat.mul_assoc]; omega
  have := Nat.lt_of_mul_lt_mul_right h4
  omega
theorem Kn.init (k : Kn B top u2 v1 v2 W V U) : U / V ≤ top / v1 := by
  have h := k.qU
  have hv := k.v1l
  have hu := k.u2h
  have hb := k.b0
  refine (Nat.le_div_iff_mul_le (by omega)).2 ?_
  rw [Nat.mul_add, ← Nat.mul_assoc] at h
  generalize U / V * v1 = m at *
  generalize U / V * v2 = l at *
  have h2 : m * B < (top + 1) * B := by rw [Nat.add_mul, Nat.one_mul]; omega
  have := Nat.lt_of_mul_lt_mul_right h2
  omega
theorem Kn.topB (k : Kn B top u2 v1 v2 W V U) : top ≤ v1 * B + v2 := by
  have h1 := k.ul
  have h2 := k.lt
  have h3 := k.vh
  have hb := k.b0
  have h4 : (top * B + u2) * W < (v1 * B + v2 + 1) * W * B := by
    have := Nat.mul_lt_mul_of_pos_right h3 hb
    omega
  have h5 : (top * B + u2) * W < (v1 * B + v2 + 1) * B * W := by
    rw [Nat.mul_assoc _ W, Nat.mul_comm W, ← Nat.mul_assoc] at h4; exact h4
  have h6 := Nat.lt_of_mul_lt_mul_right h5
  have h7 : top * B < (v1 * B + v2 + 1) * B := by omega
  have := Nat.lt_of_mul_lt_mul_right h7
  omega
theorem Kn.dec (k : Kn B top u2 v1 v2 W V U) {q r : Nat} (e : q * v1 + r = top) (h : B ≤ q ∨ r * B + u2 < q * v2) : U / V < q := by
  rcases h with h | h
  · exact Nat.lt_of_lt_of_le k.qB h
  · refine est_ge (V2 := v1 * B + v2) (U3 := top * B + u2) (W := W) k.vl k.uh k.qV ?_
    rw [Nat.mul_add, ← Nat.mul_assoc, ← e, Nat.add_mul]
    omega
theorem Kn.fin (k : Kn B top u2 v1 v2 W V U) {q r : Nat} (e : q * v1 + r = top) (hq : q < B) (h : q * v2 ≤ r * B + u2) : q ≤ U / V + 1 := by
  rcases Nat.eq_zero_or_pos q with h0 | h0
  · rw [h0]; exact Nat.zero_le _
  · have h1 : (q - 1) * V ≤ U := by
      refine est_le (V2 := v1 * B + v2) (U3 := top * B + u2) (W := W) k.vh k.ul ?_ ?_ h0
      · rw [Nat.mul_add, ← Nat.mul_assoc, ← e, Nat.add_mul]
        omega
      · have h2 := k.vl
        have h4 : 1 * B ≤ v1 * B := Nat.mul_le_mul_right B k.v1l
        have h3 : q * W ≤ (v1 * B + v2) * W := Nat.mul_le_mul_right W (by omega)
        omega
    have := (Nat.le_div_iff_mul_le k.v0).2 h1
    omega
theorem Kn.brk (k : Kn B top u2 v1 v2 W V U) {q r : Nat} (e : q * v1 + r = top) (hr : B ≤ r) : q < B ∧ q ≤ U / V + 1 := by
  have ht := k.topB
  have hv := k.v2h
  have hv1 := k.v1l
  have hq : q < B := by
    refine Nat.lt_of_not_le fun h => ?_
    have := Nat.mul_le_mul_right v1 h
    rw [Nat.mul_comm B] at this
    omega
  refine ⟨hq, k.fin e hq ?_⟩
  have h1 : q * v2 ≤ B * B := Nat.mul_le_mul (by omega) (by omega)
  have h2 : B * B ≤ r * B := Nat.mul_le_mul_right B hr
  omega
end
/-- The window of limbs from j on, the first i of them. -/
def wn (O : List Nat) (j i : Nat) : Nat := vL B32 ((O.drop j).take i)
theorem wn_set {O : List Nat} {j i d : Nat} (h : j + i < O.length) : wn (O.set (j + i) d) j (i + 1) = wn O j i + B32 ^ i * d := by
  unfold wn
  rw [List.drop_set, if_neg (by omega), show j + i - j = i by omega, List.take_add_one, List.take_set_of_le (Nat.le_refl i), List.getElem?_set_self (by simp; omega)]
  show vL B32 ((O.drop j).take i ++ [d]) = _
  rw [vL_snoc, List.length_take, List.length_drop, Nat.min_eq_left (by omega)]
theorem wn_at {O : List Nat} {j i d : Nat} (h : O[j + i]? = some d) : wn O j (i + 1) = wn O j i + B32 ^ i * d := by
  unfold wn
  have hl := (List.getElem?_eq_some_iff.1 h).1
  rw [List.take_add_one, List.getElem?_drop, h]
  show vL B32 ((O.drop j).take i ++ [d]) = _
  rw [vL_snoc, List.length_take, List.length_drop, Nat.min_eq_left (by omega)]
theorem wn_lt {O : List Nat} (h : Dl B32 O) (j i : Nat) : wn O j i < B32 ^ i := by
  have h1 : vL B32 ((O.drop j).take i) < B32 ^ ((O.drop j).take i).length := vL_lt fun d hd => h d (List.mem_of_mem_drop (List.mem_of_mem_take hd))
  have h2 : B32 ^ ((O.drop j).take i).length ≤ B32 ^ i := Nat.pow_le_pow_right (by decide) (by rw [List.length_take]; omega)
  exact Nat.lt_of_lt_of_le h1 h2
theorem wn_0 (O : List Nat) (j : Nat) : wn O j 0 = 0 := rfl
/-- The two highest limbs of a window tell it but for what is below. -/
theorem wn_top2 {O : List Nat} (hd : Dl B32 O) {j n a b : Nat} (ha : O[j + n]? = some a) (hb : O[j + (n + 1)]? = some b) : (b * B32 + a) * B32 ^ n ≤ wn O j (n + 2) ∧ wn O j (n + 2) < (b * B32 + a + 1) * B32 ^ n := by
  have h1 := wn_at hb
  have h2 := wn_at ha
  have h3 := wn_lt hd j n
  rw [h1, h2, Nat.pow_succ]
  generalize B32 = B at *
  have e1 : B ^ n * B * b = b * B * B ^ n := by ac_rfl
  have e2 : B ^ n * a = a * B ^ n := Nat.mul_comm _ _
  rw [e1, e2, Nat.add_mul, Nat.add_mul, Nat.add_mul, Nat.one_mul]
  generalize b * B * B ^ n = p at *
  generalize a * B ^ n = q at *
  generalize B ^ n = W at *
  omega
/-- The same for the three highest ones. -/
theorem wn_top3 {O : List Nat} (hd : Dl B32 O) {j n a b c : Nat} (ha : O[j + n]? = some a) (hb : O[j + (n + 1)]? = some b) (hc : O[j + (n + 2)]? = some c) : ((c * B32 + b) * B32 + a) * B32 ^ n ≤ wn O j (n + 3) ∧ wn O j (n + 3) < ((c * B32 + b) * B32 + a + 1) * B32 ^ n := by
  have h0 := wn_at hc
  have ⟨h1, h2⟩ := wn_top2 hd ha hb
  rw [h0]
  generalize B32 = B at *
  have e1 : B ^ (n + 2) * c = c * B * B * B ^ n := by
    rw [show n + 2 = n + 1 + 1 from rfl, Nat.pow_succ, Nat.pow_succ]; ac_rfl
  have e2 : ((c * B + b) * B + a) * B ^ n = c * B * B * B ^ n + (b * B + a) * B ^ n := by rw [← Nat.add_mul, Nat.add_mul (c * B) b B, Nat.add_assoc]
  have e3 : ((c * B + b) * B + a + 1) * B ^ n = c * B * B * B ^ n + (b * B + a + 1) * B ^ n := by rw [← Nat.add_mul, Nat.add_mul (c * B) b B, Nat.add_assoc, Nat.add_assoc, Nat.add_assoc]
  rw [e1, e2, e3]
  omega
end Go.Proofs.Ytbfbgkhlngkifaa.Nu

/- Long division: one digit, walked. Plain theorems over the abstract machine.
   Conditions: none. -/
namespace Go.Proofs.Ytbfbgkhlngkifaa.Nu
open Go Go.RowKit Go.Proofs.Ytbfbgkhlngkifaa.Am Go.Proofs.Ytbfbgkhlngkifaa.Af Go.Proofs.Ytbfbgkhlngkifaa.Md
set_option linter.unusedVariables false
set_option linter.unusedSimpArgs false
set_option linter.defProp false
set_option maxRecDepth 20000
set_option maxHeartbeats 2000000

theorem nzN {b : Nat} (h : 0 < b) : (((b : Nat) : Int) = 0) = False := eq_false (by omega)
theorem u3_rd {h : Hp} {b : Nat} {O : List Nat} (hg : h.get b = some ⟨u3 O, .own⟩) {i d : Nat} (hd : O[i]? = some d) : h.rd b i = some (.int .u32 (d : Int)) := (rd_mk hg).trans (u3_at hd)
theorem lt_l {O : List Nat} {i d : Nat} (h : O[i]? = some d) : i < O.length := (List.getElem?_eq_some_iff.1 h).1
theorem sub_key {p q bor : Nat} (hp : p < 4294967296) (hq : q < 4294967296) (hb : bor ≤ 1) : ∃ D : Nat, IntKind.u64.wrap (IntKind.u64.wrap ((p : Int) - (q : Int)) - (bor : Int)) = (D : Int) ∧ D / 9223372036854775808 ≤ 1 ∧ D % 4294967296 + q + bor = p + 4294967296 * (D / 9223372036854775808) := by
  refine ⟨(IntKind.u64.wrap (IntKind.u64.wrap ((p : Int) - (q : Int)) - (bor : Int))).toNat, ?_, ?_, ?_⟩
  · rw [IntKind.wrap_u64, IntKind.wrap_u64]; omega
  · rw [IntKind.wrap_u64, IntKind.wrap_u64]; omega
  · rw [IntKind.wrap_u64, IntKind.wrap_u64]; omega
theorem mul_lim {q y c : Nat} (hq : q < 4294967296) (hy : y < 4294967296) (hc : c < 4294967296) : q * y < 18446744065119617026 ∧ c + q * y < 18446744073709551616 ∧ (c + q * y) / 4294967296 < 4294967296 := by
  have : q * y ≤ 4294967295 * 4294967295 := Nat.mul_le_mul (by omega) (by omega)
  omega
/-- How the heap stands: the limbs of the number and those of the divisor. -/
structure Dv (h : Hp) (bu : Nat) (O : List Nat) (a : Option Addr) (n c : Nat) (V : List Nat) : Prop where
  wf : Wf h
  gu : h.get bu = some ⟨u3 O, .own⟩
  lv : Lm h a n c V
  ne : ∀ z, At a z → z ≠ bu
theorem Dv.put {h : Hp} {bu n c : Nat} {O O' : List Nat} {a : Option Addr} {V : List Nat} (d : Dv h bu O a n c V) : Dv (h.put bu ⟨u3 O', .own⟩) bu O' a n c V :=
  ⟨d.wf.put (d.wf.lt d.gu), gput, ⟨d.lv.rd.keep d.wf (F := fun z => z = bu) (Fm.put Fm.refl fun _ => rfl) d.ne, d.lv.le, d.lv.dl⟩, d.ne⟩
theorem put_self {h : Hp} {b : Nat} {o : Ob} (e : h.get b = some o) : h.put b o = h := by
  obtain ⟨s, g⟩ := h
  simp only [Hp.put, Hp.mk.injEq, true_and, and_true]
  funext x
  split
  · rename_i hx; subst hx; exact e.symm
  · rfl
theorem two_up {a b X s t : Nat} (e : a + X * s = b + X * t) (ha : a < X) (hb : b < X) : s = t ∧ a = b := by
  have h1 : (a + X * s) / X = s := by rw [Nat.add_mul_div_left _ _ (by omega), Nat.div_eq_of_lt ha, Nat.zero_add]
  have h2 : (b + X * t) / X = t := by rw [Nat.add_mul_div_left _ _ (by omega), Nat.div_eq_of_lt hb, Nat.zero_add]
  have h3 : s = t := by rw [← h1, ← h2, e]
  subst h3
  exact ⟨rfl, by omega⟩
theorem c_digitL {h : Hp} {bu j cu n c : Nat} {U V : List Nat} {a : Option Addr} (d : Dv h bu U a n c V) (hn : 2 ≤ n) (hn2 : n ≤ 400000) (hj : j + n + 1 ≤ U.length) (hcu : n + 1 ≤ cu) (hU : Dl B32 U) (hv1 : 2147483648 ≤ V.getD (n - 1) 0) (hlt : wn U j (n + 1) < vL B32 V * 4294967296) (hjl : U.length ≤ 1000000) :
    ACalls Try.prog 132 [.slice (some ⟨bu, j, none⟩) (n + 1) cu, .slice a n c] h fun v h' => v = .int .u32 ((wn U j (n + 1) / vL B32 V : Nat) : Int) ∧ ∃ O, h' = h.put bu ⟨u3 O, .own⟩ ∧ O.length = U.length ∧ Dl B32 O ∧ (∀ k, k < j ∨ j + n < k → O[k]? = U[k]?) ∧ wn O j (n + 1) = wn U j (n + 1) % vL B32 V := by
  refine num_digit_ok.snd hm rfl fun w => ?_
  rw [WF_eq, num_digit]
  obtain ⟨m, rfl⟩ : ∃ m, n = m + 2 := ⟨n - 2, by omega⟩
  have hVl := d.lv.len
  obtain ⟨v1, hv1e⟩ : ∃ v1, V[m + 1]? = some v1 := ⟨_, List.getElem?_eq_getElem (by omega)⟩
  obtain ⟨v2, hv2e⟩ : ∃ v2, V[m]? = some v2 := ⟨_, List.getElem?_eq_getElem (by omega)⟩
  obtain ⟨un, hun⟩ : ∃ un, U[j + (m + 2)]? = some un := ⟨_, List.getElem?_eq_getElem (by omega)⟩
  obtain ⟨un1, hun1⟩ : ∃ un, U[j + (m + 1)]? = some un := ⟨_, List.getElem?_eq_getElem (by omega)⟩
  obtain ⟨u2, hu2⟩ : ∃ un, U[j + m]? = some un := ⟨_, List.getElem?_eq_getElem (by omega)⟩
  have hv1' : 2147483648 ≤ v1 := by
    have e : V.getD (m + 2 - 1) 0 = v1 := by rw [List.getD_eq_getElem?_getD, show m + 2 - 1 = m + 1 from rfl, hv1e]; rfl
    rw [e] at hv1; exact hv1
  have v1h : v1 < 4294967296 := d.lv.dl.at hv1e
  have v2h : v2 < 4294967296 := d.lv.dl.at hv2e
  have unh : un < 4294967296 := hU.at hun
  have un1h : un1 < 4294967296 := hU.at hun1
  have u2h : u2 < 4294967296 := hU.at hu2
  have hvw : vL B32 V = wn V 0 (m + 2) := by unfold wn; rw [List.drop_zero, List.take_of_length_le (by omega)]
  have kn : Kn B32 (un * 4294967296 + un1) u2 v1 v2 (B32 ^ m) (vL B32 V) (wn U j (m + 2 + 1)) := by
    obtain ⟨p1, p2⟩ := wn_top2 (j := 0) d.lv.dl (show V[0 + m]? = some v2 by rw [Nat.zero_add]; exact hv2e) (show V[0 + (m + 1)]? = some v1 by rw [Nat.zero_add]; exact hv1e)
    obtain ⟨q1, q2⟩ := wn_top3 (j := j) hU hu2 hun1 hun
    rw [← hvw] at p1 p2
    exact ⟨by omega, v2h, u2h, Nat.pow_pos (by decide), p1, p2, q1, q2, hlt⟩
  have qB := kn.qB
  have qI := kn.init
  generalize hQ : wn U j (m + 2 + 1) / vL B32 V = Q at *
  obtain ⟨b1, o1, s1, v1', rfl, f1, e1, rv1⟩ := d.lv.rd.nat (i := m + 1) (by omega)
  rw [hv1e] at e1; cases e1
  obtain ⟨b2, o2, s2, v2', e2, f2, e3, rv2⟩ := d.lv.rd.nat (i := m) (by omega)
  cases e2
  rw [hv2e] at e3; cases e3
  have run := u3_rd d.gu hun
  have run1 := u3_rd d.gu hun1
  have ru2 := u3_rd d.gu hu2
  have eor := or_32 unh un1h
  have s21 : ((m + 2 : Nat) : Int) - 1 = ((m + 1 : Nat) : Int) := by omega
  have s22 : ((m + 2 : Nat) : Int) - 2 = ((m : Nat) : Int) := by omega
  have l1 : m + 2 < m + 2 + 1 := by omega
  have l2 : m + 1 < m + 2 + 1 := by omega
  have l3 : m + 1 < m + 2 := by omega
  have l4 : m < m + 2 := by omega
  have l5 : m < m + 2 + 1 := by omega
  have z1 : ((v1 : Int) = 0) = False := nzN (by omega)
  have topb : un * 4294967296 + un1 < 18446744073709551616 := by omega
  have qd : (un * 4294967296 + un1) / v1 < 8589934592 + 1 := by
    refine (Nat.div_lt_iff_lt_mul (by omega)).2 ?_
    have : 8589934593 * 2147483648 ≤ 8589934593 * v1 := Nat.mul_le_mul_left _ hv1'
    omega
  have rmd : (un * 4294967296 + un1) % v1 < v1 := Nat.mod_lt _ (by omega)
  have hdm : (un * 4294967296 + un1) / v1 * v1 + (un * 4294967296 + un1) % v1 = un * 4294967296 + un1 := by rw [Nat.mul_comm]; exact Nat.div_add_mod _ _
  generalize hq0 : (un * 4294967296 + un1) / v1 = q0 at *
  generalize hr0 : (un * 4294967296 + un1) % v1 = r0 at *
  simp +contextual (disch := omega) only [↓AM, ↓AV, AP, CQ, CN, i64, u64, run, run1, rv1, f1, eor, s21, l1, l2, l3, z1, ntdiv, ntmod, hq0, hr0]
  -- LOOP1
  refine WL.mk (fun k t h' => ∃ q r : Nat, h' = h ∧ q * v1 + r = un * 4294967296 + un1 ∧ Q ≤ q ∧ r < 4294967296 ∧ q ≤ 8589934592 ∧ k = q ∧ t = [(0, some (.slice (some ⟨bu, j, none⟩) (m + 2 + 1) cu)), (1, some (.slice (some ⟨b1, o1, s1⟩) (m + 2) c)), (5, some (.int .i64 ((m + 2 : Nat) : Int))), (7, some (.int .u64 (q : Int))), (8, some (.int .u64 (r : Int)))]) ⟨q0, q0, r0, rfl, hdm, qI, by omega, by omega, rfl, rfl⟩ ?_
  rintro q t h ⟨_, r, rfl, hqr, hQq, hr, hql, rfl, rfl⟩
  by_cases hgo : 4294967296 ≤ q ∨ r * 4294967296 + u2 < q * v2
  · have hdec := kn.dec hqr hgo
    obtain ⟨q, rfl⟩ : ∃ q', q = q' + 1 := ⟨q - 1, by omega⟩
    have hqr' : q * v1 + (r + v1) = un * 4294967296 + un1 := by rw [← hqr, Nat.add_mul, Nat.one_mul]; omega
    have hQ1 : Q ≤ q := by omega
    by_cases hrB : 4294967296 ≤ r + v1
    · have e7 : ((0 : Int) < (((r + v1) / 4294967296 : Nat) : Int)) = True := eq_true (by omega)
      obtain ⟨hqB, hq2⟩ := kn.brk (B := B32) hqr' hrB
      rw [hQ] at hq2
      by_cases hbig : 4294967296 ≤ q + 1
      · have e5 : ((0 : Int) < (((q + 1) / 4294967296 : Nat) : Int)) = True := eq_true (by omega)
        simp +contextual (disch := omega) only [↓AM, ↓AV, AP, CQ, CN, i64, u64, rv1, f1, s21, l3, e5, e7]
        have hs0 := put_self d.gu
        refine WL.mk (fun k t h' => ∃ O : List Nat, h' = h.put bu ⟨u3 O, .own⟩ ∧ O.length = U.length ∧ Dl B32 O ∧ ∃ i cy bor : Nat, i ≤ m + 2 ∧ k = m + 2 - i ∧ cy < 4294967296 ∧ bor ≤ 1 ∧ (∀ k, k < j ∨ j + i ≤ k → O[k]? = U[k]?) ∧ wn O j i + q * vL B32 (V.take i) = wn U j i + B32 ^ i * (bor + cy) ∧
            t = [(0, some (.slice (some ⟨bu, j, none⟩) (m + 2 + 1) cu)), (1, some (.slice (some ⟨b1, o1, s1⟩) (m + 2) c)), (5, some (.int .i64 ((m + 2 : Nat) : Int))), (7, some (.int .u64 (q : Int))), (9, some (.int .u64 (cy : Int))), (10, some (.int .u64 (bor : Int))), (85, some (.slice (some ⟨b1, o1, s1⟩) (m + 2) c)), (86, some (.int .i64 ((m + 2 : Nat) : Int))), (87, some (.int .i64 (i : Int)))])
          ⟨m + 2, U, hs0.symm, rfl, hU, 0, 0, 0, by omega, rfl, by decide, by decide, fun k _ => rfl, by simp [wn, vL], rfl⟩ ?_
        rintro k t _ ⟨O, rfl, hOl, hOd, i, cy, bor, hi, rfl, hcy, hbor, hout, hv, rfl⟩
        have dO := d.put (O' := O)
        by_cases hin : i < m + 2
        · obtain ⟨b3, o3, s3, y, e4, f3, hy, ry⟩ := dO.lv.rd.nat (i := i) hin
          cases e4
          have hyl : y < 4294967296 := d.lv.dl.at hy
          obtain ⟨u, hu⟩ : ∃ u, O[j + i]? = some u := ⟨_, List.getElem?_eq_getElem (by omega)⟩
          have hul : u < 4294967296 := hOd.at hu
          have hij := lt_l hu
          have huU : U[j + i]? = some u := by rw [← hout (j + i) (.inr (Nat.le_refl _))]; exact hu
          have ru := u3_rd dO.gu hu
          obtain ⟨m1, m2, m3⟩ := mul_lim hqB hyl hcy
          have m4 : (cy + q * y) % 4294967296 < 4294967296 := Nat.mod_lt _ (by decide)
          obtain ⟨D, kD, kD2, kD3⟩ := sub_key hul m4 hbor
          have hi2 : i < m + 2 + 1 := by omega
          have ul : leIs (j + i + 1) (u3 O) = true := by rw [← leIs_p, u3_len]; omega
          have us : spl (u3 O) (j + i) [.int .u32 ((D % 4294967296 : Nat) : Int)] = u3 (O.set (j + i) (D % 4294967296)) := spl_u3 hij
          have gO : (h.put bu ⟨u3 O, .own⟩).get bu = some ⟨u3 O, .own⟩ := gput
          have Dl64 : D < 18446744073709551616 := by omega
          simp +contextual (disch := omega) only [↓AM, ↓AV, AP, CQ, CN, i64, u64, gput, rput, put_put, hin, f1, ry, ru, u3_at hu, hi2, kD, shr_63, ul, us]
          refine ⟨m + 2 - (i + 1), by omega, O.set (j + i) (D % 4294967296), rfl, by simp [hOl], hOd.set (Nat.mod_lt _ (by decide)), i + 1, (cy + q * y) / 4294967296, D / 9223372036854775808, by omega, rfl, m3, kD2, ?_, ?_, rfl⟩
          · intro k hk
            rw [List.getElem?_set_ne (by omega)]
            exact hout k (by omega)
          · rw [wn_set hij, wn_at huU, take_u3 hy, Nat.pow_succ]
            have e5 : D % 4294967296 + (q * y) + bor + cy = u + 4294967296 * (D / 9223372036854775808 + (cy + q * y) / 4294967296) := by omega
            have e6 : B32 ^ i * (D % 4294967296) + B32 ^ i * (q * y) + B32 ^ i * (bor + cy) = B32 ^ i * u + B32 ^ i * B32 * (D / 9223372036854775808 + (cy + q * y) / 4294967296) := by
              rw [← Nat.mul_add, ← Nat.mul_add, Nat.mul_assoc, ← Nat.mul_add]; congr 1
              show D % 4294967296 + q * y + (bor + cy) = u + 4294967296 * (D / 9223372036854775808 + (cy + q * y) / 4294967296)
              omega
            have e7 : q * (vL B32 (V.take i) + B32 ^ i * y) = q * vL B32 (V.take i) + B32 ^ i * (q * y) := by rw [Nat.mul_add]; congr 1; ac_rfl
            rw [e7]
            omega
        have hie : i = m + 2 := by omega
        subst hie
        rw [List.take_of_length_le (l := V) (by omega)] at hv
        obtain ⟨m4, hO4⟩ : ∃ z, O[j + (m + 2)]? = some z := ⟨_, List.getElem?_eq_getElem (by omega)⟩
        have hm4 : m4 = un := by
          have := hout (j + (m + 2)) (.inr (Nat.le_refl _))
          rw [hO4, hun] at this
          exact Option.some.inj this
        subst hm4
        have hij := lt_l hO4
        have ru := u3_rd dO.gu hO4
        obtain ⟨D, kD, kD2, kD3⟩ := sub_key unh hcy hbor
        have ul : leIs (j + (m + 2) + 1) (u3 O) = true := by rw [← leIs_p, u3_len]; omega
        have us : spl (u3 O) (j + (m + 2)) [.int .u32 ((D % 4294967296 : Nat) : Int)] = u3 (O.set (j + (m + 2)) (D % 4294967296)) := spl_u3 hij
        have Dl64 : D < 18446744073709551616 := by omega
        have hw2 : wn (O.set (j + (m + 2)) (D % 4294967296)) j (m + 2 + 1) = wn O j (m + 2) + B32 ^ (m + 2) * (D % 4294967296) := wn_set hij
        have hwU : wn U j (m + 2 + 1) = wn U j (m + 2) + B32 ^ (m + 2) * m4 := wn_at hun
        have e8 : B32 ^ (m + 2) * (D % 4294967296) + B32 ^ (m + 2) * (bor + cy) = B32 ^ (m + 2) * m4 + B32 ^ (m + 2) * (4294967296 * (D / 9223372036854775808)) := by
          rw [← Nat.mul_add, ← Nat.mul_add]; congr 1; omega
        have hQV : Q * vL B32 V ≤ wn U j (m + 2 + 1) := by rw [← hQ]; exact kn.qV
        have hQV2 : wn U j (m + 2 + 1) % vL B32 V + Q * vL B32 V = wn U j (m + 2 + 1) := by rw [← hQ, Nat.mul_comm]; exact Nat.mod_add_div _ _
        have hQV3 : wn U j (m + 2 + 1) % vL B32 V < vL B32 V := Nat.mod_lt _ kn.v0
        have hOd2 : Dl B32 (O.set (j + (m + 2)) (D % 4294967296)) := hOd.set (Nat.mod_lt _ (by decide))
        have hPl : (O.set (j + (m + 2)) (D % 4294967296)).length = U.length := by simp [hOl]
        have hwl := wn_lt hOd2 j (m + 2 + 1)
        by_cases hz : D / 9223372036854775808 = 0
        · have ez : EqI ((D / 9223372036854775808 : Nat) : Int) 0 = True := by rw [hz]; exact eqI_self
          have kS : (m4 : Int) - (cy : Int) - (bor : Int) = (D : Int) := by rw [← kD, IntKind.wrap_u64, IntKind.wrap_u64]; omega
          simp +contextual (disch := omega) only [↓AM, ↓AV, AP, CQ, CN, i64, u64, gput, rput, put_put, hin, u3_at hO4, l1, kD, kS, shr_63, ul, us, ez]
          simp only [hz, Nat.mul_zero, Nat.add_zero] at e8
          have hle : q * vL B32 V ≤ wn U j (m + 2 + 1) := by omega
          have hqQ : q ≤ Q := by rw [← hQ]; exact (Nat.le_div_iff_mul_le kn.v0).2 hle
          have hqe : q = Q := by omega
          subst hqe
          refine ⟨by rw [Nat.mod_eq_of_lt hqB], _, rfl, hPl, hOd2, ?_, by omega⟩
          intro k hk
          rw [List.getElem?_set_ne (by omega)]
          exact hout k (by omega)
        have hz1 : D / 9223372036854775808 = 1 := by omega
        have ez : EqI ((D / 9223372036854775808 : Nat) : Int) 0 = False := eq_false (by unfold EqI; omega)
        simp +contextual (disch := omega) only [↓AM, ↓AV, AP, CQ, CN, i64, u64, gput, rput, put_put, hin, u3_at hO4, l1, kD, shr_63, ul, us, ez]
        rw [hz1, Nat.mul_one] at e8
        have epow : B32 ^ (m + 2) * 4294967296 = B32 ^ (m + 2 + 1) := (Nat.pow_succ ..).symm
        rw [epow] at e8
        have hgt : wn U j (m + 2 + 1) < q * vL B32 V := by omega
        have hqe : q = Q + 1 := by
          have : Q < q := by
            refine Nat.lt_of_not_le fun hh => ?_
            have := Nat.mul_le_mul_right (vL B32 V) hh
            omega
          omega
        subst hqe
        have dP := d.put (O' := O.set (j + (m + 2)) (D % 4294967296))
        have hP4 : (O.set (j + (m + 2)) (D % 4294967296))[j + (m + 2)]? = some (D % 4294967296) := List.getElem?_set_self hij
        have houtP : ∀ k, k < j ∨ j + (m + 2) < k → (O.set (j + (m + 2)) (D % 4294967296))[k]? = U[k]? := fun k hk => by
          rw [List.getElem?_set_ne (by omega)]
          exact hout k (by omega)
        have hwP : wn (O.set (j + (m + 2)) (D % 4294967296)) j (m + 2 + 1) = wn (O.set (j + (m + 2)) (D % 4294967296)) j (m + 2) + B32 ^ (m + 2) * (D % 4294967296) := wn_at hP4
        generalize O.set (j + (m + 2)) (D % 4294967296) = P at *
        refine WL.mk (fun k t h' => ∃ R : List Nat, h' = h.put bu ⟨u3 R, .own⟩ ∧ R.length = U.length ∧ Dl B32 R ∧ ∃ i ba : Nat, i ≤ m + 2 ∧ k = m + 2 - i ∧ ba ≤ 1 ∧ (∀ k, k < j ∨ j + i ≤ k → R[k]? = P[k]?) ∧ wn R j i + B32 ^ i * ba = wn P j i + vL B32 (V.take i) ∧
            t = [(0, some (.slice (some ⟨bu, j, none⟩) (m + 2 + 1) cu)), (5, some (.int .i64 ((m + 2 : Nat) : Int))), (7, some (.int .u64 ((Q + 1 : Nat) : Int))), (15, some (.int .u64 (ba : Int))), (138, some (.slice (some ⟨b1, o1, s1⟩) (m + 2) c)), (139, some (.int .i64 ((m + 2 : Nat) : Int))), (140, some (.int .i64 (i : Int)))])
          ⟨m + 2, P, rfl, hPl, hOd2, 0, 0, by omega, rfl, by decide, fun k _ => rfl, by simp [wn, vL], rfl⟩ ?_
        rintro k t _ ⟨R, rfl, hRl, hRd, i, ba, hi, rfl, hba, houtR, hvR, rfl⟩
        have dR := d.put (O' := R)
        by_cases hin : i < m + 2
        · obtain ⟨b3, o3, s3, y, e4, f3, hy, ry⟩ := dR.lv.rd.nat (i := i) hin
          cases e4
          have hyl : y < 4294967296 := d.lv.dl.at hy
          obtain ⟨u, hu⟩ : ∃ u, R[j + i]? = some u := ⟨_, List.getElem?_eq_getElem (by omega)⟩
          have hul : u < 4294967296 := hRd.at hu
          have hij := lt_l hu
          have huP : P[j + i]? = some u := by rw [← houtR (j + i) (.inr (Nat.le_refl _))]; exact hu
          have ru := u3_rd dR.gu hu
          have hi2 : i < m + 2 + 1 := by omega
          have ul : leIs (j + i + 1) (u3 R) = true := by rw [← leIs_p, u3_len]; omega
          have us : spl (u3 R) (j + i) [.int .u32 (((ba + (u + y)) % 4294967296 : Nat) : Int)] = u3 (R.set (j + i) ((ba + (u + y)) % 4294967296)) := spl_u3 hij
          simp +contextual (disch := omega) only [↓AM, ↓AV, AP, CQ, CN, i64, u64, gput, rput, put_put, hin, f1, ry, ru, u3_at hu, hi2, ul, us]
          refine ⟨m + 2 - (i + 1), by omega, R.set (j + i) ((ba + (u + y)) % 4294967296), rfl, by simp [hRl], hRd.set (Nat.mod_lt _ (by decide)), i + 1, (ba + (u + y)) / 4294967296, by omega, rfl, by omega, ?_, ?_, rfl⟩
          · intro k hk
            rw [List.getElem?_set_ne (by omega)]
            exact houtR k (by omega)
          · rw [wn_set hij, wn_at huP, take_u3 hy, Nat.pow_succ]
            have e6 : B32 ^ i * ((ba + (u + y)) % 4294967296) + B32 ^ i * B32 * ((ba + (u + y)) / 4294967296) = B32 ^ i * ba + (B32 ^ i * u + B32 ^ i * y) := by
              rw [← Nat.mul_add, ← Nat.mul_add, Nat.mul_assoc, ← Nat.mul_add]; congr 1; exact Nat.mod_add_div _ 4294967296
            omega
        have hie : i = m + 2 := by omega
        subst hie
        rw [List.take_of_length_le (l := V) (by omega)] at hvR
        have hR4 : R[j + (m + 2)]? = some (D % 4294967296) := by rw [houtR (j + (m + 2)) (.inr (Nat.le_refl _))]; exact hP4
        have hij := lt_l hR4
        have hRw := wn_lt hRd j (m + 2)
        have hVw : vL B32 V < B32 ^ (m + 2) := by have := vL_lt d.lv.dl; rw [hVl] at this; exact this
        obtain ⟨t1, t2⟩ := two_up (a := wn R j (m + 2)) (b := wn U j (m + 2 + 1) % vL B32 V) (X := B32 ^ (m + 2)) (s := D % 4294967296 + ba) (t := 4294967296) (by
          rw [Nat.mul_add, epow]
          have e9 : (Q + 1) * vL B32 V = Q * vL B32 V + vL B32 V := by rw [Nat.add_mul, Nat.one_mul]
          omega) hRw (by omega)
        have ul : leIs (j + (m + 2) + 1) (u3 R) = true := by rw [← leIs_p, u3_len]; omega
        have us : spl (u3 R) (j + (m + 2)) [.int .u32 0] = u3 (R.set (j + (m + 2)) 0) := spl_u3 hij
        have wz : IntKind.u32.wrap (((D % 4294967296 : Nat) : Int) + ((ba % 4294967296 : Nat) : Int)) = 0 := by
          rw [IntKind.wrap_u32]; omega
        have wz2 : IntKind.u32.wrap ((D % 4294967296 + ba % 4294967296 : Nat) : Int) = 0 := by
          rw [IntKind.wrap_u32]; omega
        have wz3 : (((D % 4294967296 + ba % 4294967296) % 4294967296 : Nat) : Int) = 0 := by omega
        simp +contextual (disch := omega) only [↓AM, ↓AV, AP, CQ, CN, i64, u64, gput, rput, put_put, hin, u3_at hR4, l1, ul, us, wz, wz2, wz3]
        refine ⟨by rw [Nat.mod_eq_of_lt (by omega)], _, rfl, by simp [hRl], hRd.set (by decide), ?_, ?_⟩
        · intro k hk
          rw [List.getElem?_set_ne (by omega), houtR k (by omega)]
          exact houtP k hk
        · rw [wn_set hij, Nat.mul_zero, Nat.add_zero]
          exact t2
      · have e5 : ((0 : Int) < (((q + 1) / 4294967296 : Nat) : Int)) = False := eq_false (by omega)
        have hcmp : r * 4294967296 + u2 < (q + 1) * v2 := hgo.resolve_left hbig
        have mb : (q + 1) * v2 ≤ 4294967296 * 4294967295 := Nat.mul_le_mul (by omega) (by omega)
        have eor2 := or_32 hr u2h
        simp +contextual (disch := omega) only [↓AM, ↓AV, AP, CQ, CN, i64, u64, rv1, rv2, ru2, f1, s21, s22, l3, l4, l5, e5, e7, eor2, hcmp]
        have hs0 := put_self d.gu
        refine WL.mk (fun k t h' => ∃ O : List Nat, h' = h.put bu ⟨u3 O, .own⟩ ∧ O.length = U.length ∧ Dl B32 O ∧ ∃ i cy bor : Nat, i ≤ m + 2 ∧ k = m + 2 - i ∧ cy < 4294967296 ∧ bor ≤ 1 ∧ (∀ k, k < j ∨ j + i ≤ k → O[k]? = U[k]?) ∧ wn O j i + q * vL B32 (V.take i) = wn U j i + B32 ^ i * (bor + cy) ∧
            t = [(0, some (.slice (some ⟨bu, j, none⟩) (m + 2 + 1) cu)), (1, some (.slice (some ⟨b1, o1, s1⟩) (m + 2) c)), (5, some (.int .i64 ((m + 2 : Nat) : Int))), (7, some (.int .u64 (q : Int))), (9, some (.int .u64 (cy : Int))), (10, some (.int .u64 (bor : Int))), (85, some (.slice (some ⟨b1, o1, s1⟩) (m + 2) c)), (86, some (.int .i64 ((m + 2 : Nat) : Int))), (87, some (.int .i64 (i : Int)))])
          ⟨m + 2, U, hs0.symm, rfl, hU, 0, 0, 0, by omega, rfl, by decide, by decide, fun k _ => rfl, by simp [wn, vL], rfl⟩ ?_
        rintro k t _ ⟨O, rfl, hOl, hOd, i, cy, bor, hi, rfl, hcy, hbor, hout, hv, rfl⟩
        have dO := d.put (O' := O)
        by_cases hin : i < m + 2
        · obtain ⟨b3, o3, s3, y, e4, f3, hy, ry⟩ := dO.lv.rd.nat (i := i) hin
          cases e4
          have hyl : y < 4294967296 := d.lv.dl.at hy
          obtain ⟨u, hu⟩ : ∃ u, O[j + i]? = some u := ⟨_, List.getElem?_eq_getElem (by omega)⟩
          have hul : u < 4294967296 := hOd.at hu
          have hij := lt_l hu
          have huU : U[j + i]? = some u := by rw [← hout (j + i) (.inr (Nat.le_refl _))]; exact hu
          have ru := u3_rd dO.gu hu
          obtain ⟨m1, m2, m3⟩ := mul_lim hqB hyl hcy
          have m4 : (cy + q * y) % 4294967296 < 4294967296 := Nat.mod_lt _ (by decide)
          obtain ⟨D, kD, kD2, kD3⟩ := sub_key hul m4 hbor
          have hi2 : i < m + 2 + 1 := by omega
          have ul : leIs (j + i + 1) (u3 O) = true := by rw [← leIs_p, u3_len]; omega
          have us : spl (u3 O) (j + i) [.int .u32 ((D % 4294967296 : Nat) : Int)] = u3 (O.set (j + i) (D % 4294967296)) := spl_u3 hij
          have gO : (h.put bu ⟨u3 O, .own⟩).get bu = some ⟨u3 O, .own⟩ := gput
          have Dl64 : D < 18446744073709551616 := by omega
          simp +contextual (disch := omega) only [↓AM, ↓AV, AP, CQ, CN, i64, u64, gput, rput, put_put, hin, f1, ry, ru, u3_at hu, hi2, kD, shr_63, ul, us]
          refine ⟨m + 2 - (i + 1), by omega, O.set (j + i) (D % 4294967296), rfl, by simp [hOl], hOd.set (Nat.mod_lt _ (by decide)), i + 1, (cy + q * y) / 4294967296, D / 9223372036854775808, by omega, rfl, m3, kD2, ?_, ?_, rfl⟩
          · intro k hk
            rw [List.getElem?_set_ne (by omega)]
            exact hout k (by omega)
          · rw [wn_set hij, wn_at huU, take_u3 hy, Nat.pow_succ]
            have e5 : D % 4294967296 + (q * y) + bor + cy = u + 4294967296 * (D / 9223372036854775808 + (cy + q * y) / 4294967296) := by omega
            have e6 : B32 ^ i * (D % 4294967296) + B32 ^ i * (q * y) + B32 ^ i * (bor + cy) = B32 ^ i * u + B32 ^ i * B32 * (D / 9223372036854775808 + (cy + q * y) / 4294967296) := by
              rw [← Nat.mul_add, ← Nat.mul_add, Nat.mul_assoc, ← Nat.mul_add]; congr 1
              show D % 4294967296 + q * y + (bor + cy) = u + 4294967296 * (D / 9223372036854775808 + (cy + q * y) / 4294967296)
              omega
            have e7 : q * (vL B32 (V.take i) + B32 ^ i * y) = q * vL B32 (V.take i) + B32 ^ i * (q * y) := by rw [Nat.mul_add]; congr 1; ac_rfl
            rw [e7]
            omega
        have hie : i = m + 2 := by omega
        subst hie
        rw [List.take_of_length_le (l := V) (by omega)] at hv
        obtain ⟨m4, hO4⟩ : ∃ z, O[j + (m + 2)]? = some z := ⟨_, List.getElem?_eq_getElem (by omega)⟩
        have hm4 : m4 = un := by
          have := hout (j + (m + 2)) (.inr (Nat.le_refl _))
          rw [hO4, hun] at this
          exact Option.some.inj this
        subst hm4
        have hij := lt_l hO4
        have ru := u3_rd dO.gu hO4
        obtain ⟨D, kD, kD2, kD3⟩ := sub_key unh hcy hbor
        have ul : leIs (j + (m + 2) + 1) (u3 O) = true := by rw [← leIs_p, u3_len]; omega
        have us : spl (u3 O) (j + (m + 2)) [.int .u32 ((D % 4294967296 : Nat) : Int)] = u3 (O.set (j + (m + 2)) (D % 4294967296)) := spl_u3 hij
        have Dl64 : D < 18446744073709551616 := by omega
        have hw2 : wn (O.set (j + (m + 2)) (D % 4294967296)) j (m + 2 + 1) = wn O j (m + 2) + B32 ^ (m + 2) * (D % 4294967296) := wn_set hij
        have hwU : wn U j (m + 2 + 1) = wn U j (m + 2) + B32 ^ (m + 2) * m4 := wn_at hun
        have e8 : B32 ^ (m + 2) * (D % 4294967296) + B32 ^ (m + 2) * (bor + cy) = B32 ^ (m + 2) * m4 + B32 ^ (m + 2) * (4294967296 * (D / 9223372036854775808)) := by
          rw [← Nat.mul_add, ← Nat.mul_add]; congr 1; omega
        have hQV : Q * vL B32 V ≤ wn U j (m + 2 + 1) := by rw [← hQ]; exact kn.qV
        have hQV2 : wn U j (m + 2 + 1) % vL B32 V + Q * vL B32 V = wn U j (m + 2 + 1) := by rw [← hQ, Nat.mul_comm]; exact Nat.mod_add_div _ _
        have hQV3 : wn U j (m + 2 + 1) % vL B32 V < vL B32 V := Nat.mod_lt _ kn.v0
        have hOd2 : Dl B32 (O.set (j + (m + 2)) (D % 4294967296)) := hOd.set (Nat.mod_lt _ (by decide))
        have hPl : (O.set (j + (m + 2)) (D % 4294967296)).length = U.length := by simp [hOl]
        have hwl := wn_lt hOd2 j (m + 2 + 1)
        by_cases hz : D / 9223372036854775808 = 0
        · have ez : EqI ((D / 9223372036854775808 : Nat) : Int) 0 = True := by rw [hz]; exact eqI_self
          have kS : (m4 : Int) - (cy : Int) - (bor : Int) = (D : Int) := by rw [← kD, IntKind.wrap_u64, IntKind.wrap_u64]; omega
          simp +contextual (disch := omega) only [↓AM, ↓AV, AP, CQ, CN, i64, u64, gput, rput, put_put, hin, u3_at hO4, l1, kD, kS, shr_63, ul, us, ez]
          simp only [hz, Nat.mul_zero, Nat.add_zero] at e8
          have hle : q * vL B32 V ≤ wn U j (m + 2 + 1) := by omega
          have hqQ : q ≤ Q := by rw [← hQ]; exact (Nat.le_div_iff_mul_le kn.v0).2 hle
          have hqe : q = Q := by omega
          subst hqe
          refine ⟨by rw [Nat.mod_eq_of_lt hqB], _, rfl, hPl, hOd2, ?_, by omega⟩
          intro k hk
          rw [List.getElem?_set_ne (by omega)]
          exact hout k (by omega)
        have hz1 : D / 9223372036854775808 = 1 := by omega
        have ez : EqI ((D / 9223372036854775808 : Nat) : Int) 0 = False := eq_false (by unfold EqI; omega)
        simp +contextual (disch := omega) only [↓AM, ↓AV, AP, CQ, CN, i64, u64, gput, rput, put_put, hin, u3_at hO4, l1, kD, shr_63, ul, us, ez]
        rw [hz1, Nat.mul_one] at e8
        have epow : B32 ^ (m + 2) * 4294967296 = B32 ^ (m + 2 + 1) := (Nat.pow_succ ..).symm
        rw [epow] at e8
        have hgt : wn U j (m + 2 + 1) < q * vL B32 V := by omega
        have hqe : q = Q + 1 := by
          have : Q < q := by
            refine Nat.lt_of_not_le fun hh => ?_
            have := Nat.mul_le_mul_right (vL B32 V) hh
            omega
          omega
        subst hqe
        have dP := d.put (O' := O.set (j + (m + 2)) (D % 4294967296))
        have hP4 : (O.set (j + (m + 2)) (D % 4294967296))[j + (m + 2)]? = some (D % 4294967296) := List.getElem?_set_self hij
        have houtP : ∀ k, k < j ∨ j + (m + 2) < k → (O.set (j + (m + 2)) (D % 4294967296))[k]? = U[k]? := fun k hk => by
          rw [List.getElem?_set_ne (by omega)]
          exact hout k (by omega)
        have hwP : wn (O.set (j + (m + 2)) (D % 4294967296)) j (m + 2 + 1) = wn (O.set (j + (m + 2)) (D % 4294967296)) j (m + 2) + B32 ^ (m + 2) * (D % 4294967296) := wn_at hP4
        generalize O.set (j + (m + 2)) (D % 4294967296) = P at *
        refine WL.mk (fun k t h' => ∃ R : List Nat, h' = h.put bu ⟨u3 R, .own⟩ ∧ R.length = U.length ∧ Dl B32 R ∧ ∃ i ba : Nat, i ≤ m + 2 ∧ k = m + 2 - i ∧ ba ≤ 1 ∧ (∀ k, k < j ∨ j + i ≤ k → R[k]? = P[k]?) ∧ wn R j i + B32 ^ i * ba = wn P j i + vL B32 (V.take i) ∧
            t = [(0, some (.slice (some ⟨bu, j, none⟩) (m + 2 + 1) cu)), (5, some (.int .i64 ((m + 2 : Nat) : Int))), (7, some (.int .u64 ((Q + 1 : Nat) : Int))), (15, some (.int .u64 (ba : Int))), (138, some (.slice (some ⟨b1, o1, s1⟩) (m + 2) c)), (139, some (.int .i64 ((m + 2 : Nat) : Int))), (140, some (.int .i64 (i : Int)))])
          ⟨m + 2, P, rfl, hPl, hOd2, 0, 0, by omega, rfl, by decide, fun k _ => rfl, by simp [wn, vL], rfl⟩ ?_
        rintro k t _ ⟨R, rfl, hRl, hRd, i, ba, hi, rfl, hba, houtR, hvR, rfl⟩
        have dR := d.put (O' := R)
        by_cases hin : i < m + 2
        · obtain ⟨b3, o3, s3, y, e4, f3, hy, ry⟩ := dR.lv.rd.nat (i := i) hin
          cases e4
          have hyl : y < 4294967296 := d.lv.dl.at hy
          obtain ⟨u, hu⟩ : ∃ u, R[j + i]? = some u := ⟨_, List.getElem?_eq_getElem (by omega)⟩
          have hul : u < 4294967296 := hRd.at hu
          have hij := lt_l hu
          have huP : P[j + i]? = some u := by rw [← houtR (j + i) (.inr (Nat.le_refl _))]; exact hu
          have ru := u3_rd dR.gu hu
          have hi2 : i < m + 2 + 1 := by omega
          have ul : leIs (j + i + 1) (u3 R) = true := by rw [← leIs_p, u3_len]; omega
          have us : spl (u3 R) (j + i) [.int .u32 (((ba + (u + y)) % 4294967296 : Nat) : Int)] = u3 (R.set (j + i) ((ba + (u + y)) % 4294967296)) := spl_u3 hij
          simp +contextual (disch := omega) only [↓AM, ↓AV, AP, CQ, CN, i64, u64, gput, rput, put_put, hin, f1, ry, ru, u3_at hu, hi2, ul, us]
          refine ⟨m + 2 - (i + 1), by omega, R.set (j + i) ((ba + (u + y)) % 4294967296), rfl, by simp [hRl], hRd.set (Nat.mod_lt _ (by decide)), i + 1, (ba + (u + y)) / 4294967296, by omega, rfl, by omega, ?_, ?_, rfl⟩
          · intro k hk
            rw [List.getElem?_set_ne (by omega)]
            exact houtR k (by omega)
          · rw [wn_set hij, wn_at huP, take_u3 hy, Nat.pow_succ]
            have e6 : B32 ^ i * ((ba + (u + y)) % 4294967296) + B32 ^ i * B32 * ((ba + (u + y)) / 4294967296) = B32 ^ i * ba + (B32 ^ i * u + B32 ^ i * y) := by
              rw [← Nat.mul_add, ← Nat.mul_add, Nat.mul_assoc, ← Nat.mul_add]; congr 1; exact Nat.mod_add_div _ 4294967296
            omega
        have hie : i = m + 2 := by omega
        subst hie
        rw [List.take_of_length_le (l := V) (by omega)] at hvR
        have hR4 : R[j + (m + 2)]? = some (D % 4294967296) := by rw [houtR (j + (m + 2)) (.inr (Nat.le_refl _))]; exact hP4
        have hij := lt_l hR4
        have hRw := wn_lt hRd j (m + 2)
        have hVw : vL B32 V < B32 ^ (m + 2) := by have := vL_lt d.lv.dl; rw [hVl] at this; exact this
        obtain ⟨t1, t2⟩ := two_up (a := wn R j (m + 2)) (b := wn U j (m + 2 + 1) % vL B32 V) (X := B32 ^ (m + 2)) (s := D % 4294967296 + ba) (t := 4294967296) (by
          rw [Nat.mul_add, epow]
          have e9 : (Q + 1) * vL B32 V = Q * vL B32 V + vL B32 V := by rw [Nat.add_mul, Nat.one_mul]
          omega) hRw (by omega)
        have ul : leIs (j + (m + 2) + 1) (u3 R) = true := by rw [← leIs_p, u3_len]; omega
        have us : spl (u3 R) (j + (m + 2)) [.int .u32 0] = u3 (R.set (j + (m + 2)) 0) := spl_u3 hij
        have wz : IntKind.u32.wrap (((D % 4294967296 : Nat) : Int) + ((ba % 4294967296 : Nat) : Int)) = 0 := by
          rw [IntKind.wrap_u32]; omega
        have wz2 : IntKind.u32.wrap ((D % 4294967296 + ba % 4294967296 : Nat) : Int) = 0 := by
          rw [IntKind.wrap_u32]; omega
        have wz3 : (((D % 4294967296 + ba % 4294967296) % 4294967296 : Nat) : Int) = 0 := by omega
        simp +contextual (disch := omega) only [↓AM, ↓AV, AP, CQ, CN, i64, u64, gput, rput, put_put, hin, u3_at hR4, l1, ul, us, wz, wz2, wz3]
        refine ⟨by rw [Nat.mod_eq_of_lt (by omega)], _, rfl, by simp [hRl], hRd.set (by decide), ?_, ?_⟩
        · intro k hk
          rw [List.getElem?_set_ne (by omega), houtR k (by omega)]
          exact houtP k hk
        · rw [wn_set hij, Nat.mul_zero, Nat.add_zero]
          exact t2
    · have e7 : ((0 : Int) < (((r + v1) / 4294967296 : Nat) : Int)) = False := eq_false (by omega)
      by_cases hbig : 4294967296 ≤ q + 1
      · have e5 : ((0 : Int) < (((q + 1) / 4294967296 : Nat) : Int)) = True := eq_true (by omega)
        simp +contextual (disch := omega) only [↓AM, ↓AV, AP, CQ, CN, i64, u64, rv1, f1, s21, l3, e5, e7]
        exact ⟨q, by omega, q, r + v1, hqr', hQ1, by omega, by omega, rfl, rfl⟩
      · have e5 : ((0 : Int) < (((q + 1) / 4294967296 : Nat) : Int)) = False := eq_false (by omega)
        have hcmp : r * 4294967296 + u2 < (q + 1) * v2 := hgo.resolve_left hbig
        have mb : (q + 1) * v2 ≤ 4294967296 * 4294967295 := Nat.mul_le_mul (by omega) (by omega)
        have eor2 := or_32 hr u2h
        simp +contextual (disch := omega) only [↓AM, ↓AV, AP, CQ, CN, i64, u64, rv1, rv2, ru2, f1, s21, s22, l3, l4, l5, e5, e7, eor2, hcmp]
        exact ⟨q, by omega, q, r + v1, hqr', hQ1, by omega, by omega, rfl, rfl⟩
  · have hqB : q < 4294967296 := by omega
    have hcmp : ¬ r * 4294967296 + u2 < q * v2 := fun hh => hgo (.inr hh)
    have e5 : ((0 : Int) < ((q / 4294967296 : Nat) : Int)) = False := eq_false (by omega)
    have hq2 := kn.fin (B := B32) hqr hqB (Nat.le_of_not_lt hcmp)
    rw [hQ] at hq2
    have mb : q * v2 ≤ 4294967296 * 4294967295 := Nat.mul_le_mul (by omega) (by omega)
    have eor2 := or_32 hr u2h
    simp +contextual (disch := omega) only [↓AM, ↓AV, AP, CQ, CN, i64, u64, rv1, rv2, ru2, f1, s21, s22, l3, l4, l5, e5, eor2, hcmp]
    have hs0 := put_self d.gu
    refine WL.mk (fun k t h' => ∃ O : List Nat, h' = h.put bu ⟨u3 O, .own⟩ ∧ O.length = U.length ∧ Dl B32 O ∧ ∃ i cy bor : Nat, i ≤ m + 2 ∧ k = m + 2 - i ∧ cy < 4294967296 ∧ bor ≤ 1 ∧ (∀ k, k < j ∨ j + i ≤ k → O[k]? = U[k]?) ∧ wn O j i + q * vL B32 (V.take i) = wn U j i + B32 ^ i * (bor + cy) ∧
        t = [(0, some (.slice (some ⟨bu, j, none⟩) (m + 2 + 1) cu)), (1, some (.slice (some ⟨b1, o1, s1⟩) (m + 2) c)), (5, some (.int .i64 ((m + 2 : Nat) : Int))), (7, some (.int .u64 (q : Int))), (9, some (.int .u64 (cy : Int))), (10, some (.int .u64 (bor : Int))), (85, some (.slice (some ⟨b1, o1, s1⟩) (m + 2) c)), (86, some (.int .i64 ((m + 2 : Nat) : Int))), (87, some (.int .i64 (i : Int)))])
      ⟨m + 2, U, hs0.symm, rfl, hU, 0, 0, 0, by omega, rfl, by decide, by decide, fun k _ => rfl, by simp [wn, vL], rfl⟩ ?_
    rintro k t _ ⟨O, rfl, hOl, hOd, i, cy, bor, hi, rfl, hcy, hbor, hout, hv, rfl⟩
    have dO := d.put (O' := O)
    by_cases hin : i < m + 2
    · obtain ⟨b3, o3, s3, y, e4, f3, hy, ry⟩ := dO.lv.rd.nat (i := i) hin
      cases e4
      have hyl : y < 4294967296 := d.lv.dl.at hy
      obtain ⟨u, hu⟩ : ∃ u, O[j + i]? = some u := ⟨_, List.getElem?_eq_getElem (by omega)⟩
      have hul : u < 4294967296 := hOd.at hu
      have hij := lt_l hu
      have huU : U[j + i]? = some u := by rw [← hout (j + i) (.inr (Nat.le_refl _))]; exact hu
      have ru := u3_rd dO.gu hu
      obtain ⟨m1, m2, m3⟩ := mul_lim hqB hyl hcy
      have m4 : (cy + q * y) % 4294967296 < 4294967296 := Nat.mod_lt _ (by decide)
      obtain ⟨D, kD, kD2, kD3⟩ := sub_key hul m4 hbor
      have hi2 : i < m + 2 + 1 := by omega
      have ul : leIs (j + i + 1) (u3 O) = true := by rw [← leIs_p, u3_len]; omega
      have us : spl (u3 O) (j + i) [.int .u32 ((D % 4294967296 : Nat) : Int)] = u3 (O.set (j + i) (D % 4294967296)) := spl_u3 hij
      have gO : (h.put bu ⟨u3 O, .own⟩).get bu = some ⟨u3 O, .own⟩ := gput
      have Dl64 : D < 18446744073709551616 := by omega
      simp +contextual (disch := omega) only [↓AM, ↓AV, AP, CQ, CN, i64, u64, gput, rput, put_put, hin, f1, ry, ru, u3_at hu, hi2, kD, shr_63, ul, us]
      refine ⟨m + 2 - (i + 1), by omega, O.set (j + i) (D % 4294967296), rfl, by simp [hOl], hOd.set (Nat.mod_lt _ (by decide)), i + 1, (cy + q * y) / 4294967296, D / 9223372036854775808, by omega, rfl, m3, kD2, ?_, ?_, rfl⟩
      · intro k hk
        rw [List.getElem?_set_ne (by omega)]
        exact hout k (by omega)
      · rw [wn_set hij, wn_at huU, take_u3 hy, Nat.pow_succ]
        have e5 : D % 4294967296 + (q * y) + bor + cy = u + 4294967296 * (D / 9223372036854775808 + (cy + q * y) / 4294967296) := by omega
        have e6 : B32 ^ i * (D % 4294967296) + B32 ^ i * (q * y) + B32 ^ i * (bor + cy) = B32 ^ i * u + B32 ^ i * B32 * (D / 9223372036854775808 + (cy + q * y) / 4294967296) := by
          rw [← Nat.mul_add, ← Nat.mul_add, Nat.mul_assoc, ← Nat.mul_add]; congr 1
          show D % 4294967296 + q * y + (bor + cy) = u + 4294967296 * (D / 9223372036854775808 + (cy + q * y) / 4294967296)
          omega
        have e7 : q * (vL B32 (V.take i) + B32 ^ i * y) = q * vL B32 (V.take i) + B32 ^ i * (q * y) := by rw [Nat.mul_add]; congr 1; ac_rfl
        rw [e7]
        omega
    have hie : i = m + 2 := by omega
    subst hie
    rw [List.take_of_length_le (l := V) (by omega)] at hv
    obtain ⟨m4, hO4⟩ : ∃ z, O[j + (m + 2)]? = some z := ⟨_, List.getElem?_eq_getElem (by omega)⟩
    have hm4 : m4 = un := by
      have := hout (j + (m + 2)) (.inr (Nat.le_refl _))
      rw [hO4, hun] at this
      exact Option.some.inj this
    subst hm4
    have hij := lt_l hO4
    have ru := u3_rd dO.gu hO4
    obtain ⟨D, kD, kD2, kD3⟩ := sub_key unh hcy hbor
    have ul : leIs (j + (m + 2) + 1) (u3 O) = true := by rw [← leIs_p, u3_len]; omega
    have us : spl (u3 O) (j + (m + 2)) [.int .u32 ((D % 4294967296 : Nat) : Int)] = u3 (O.set (j + (m + 2)) (D % 4294967296)) := spl_u3 hij
    have Dl64 : D < 18446744073709551616 := by omega
    have hw2 : wn (O.set (j + (m + 2)) (D % 4294967296)) j (m + 2 + 1) = wn O j (m + 2) + B32 ^ (m + 2) * (D % 4294967296) := wn_set hij
    have hwU : wn U j (m + 2 + 1) = wn U j (m + 2) + B32 ^ (m + 2) * m4 := wn_at hun
    have e8 : B32 ^ (m + 2) * (D % 4294967296) + B32 ^ (m + 2) * (bor + cy) = B32 ^ (m + 2) * m4 + B32 ^ (m + 2) * (4294967296 * (D / 9223372036854775808)) := by
      rw [← Nat.mul_add, ← Nat.mul_add]; congr 1; omega
    have hQV : Q * vL B32 V ≤ wn U j (m + 2 + 1) := by rw [← hQ]; exact kn.qV
    have hQV2 : wn U j (m + 2 + 1) % vL B32 V + Q * vL B32 V = wn U j (m + 2 + 1) := by rw [← hQ, Nat.mul_comm]; exact Nat.mod_add_div _ _
    have hQV3 : wn U j (m + 2 + 1) % vL B32 V < vL B32 V := Nat.mod_lt _ kn.v0
    have hOd2 : Dl B32 (O.set (j + (m + 2)) (D % 4294967296)) := hOd.set (Nat.mod_lt _ (by decide))
    have hPl : (O.set (j + (m + 2)) (D % 4294967296)).length = U.length := by simp [hOl]
    have hwl := wn_lt hOd2 j (m + 2 + 1)
    by_cases hz : D / 9223372036854775808 = 0
    · have ez : EqI ((D / 9223372036854775808 : Nat) : Int) 0 = True := by rw [hz]; exact eqI_self
      have kS : (m4 : Int) - (cy : Int) - (bor : Int) = (D : Int) := by rw [← kD, IntKind.wrap_u64, IntKind.wrap_u64]; omega
      simp +contextual (disch := omega) only [↓AM, ↓AV, AP, CQ, CN, i64, u64, gput, rput, put_put, hin, u3_at hO4, l1, kD, kS, shr_63, ul, us, ez]
      simp only [hz, Nat.mul_zero, Nat.add_zero] at e8
      have hle : q * vL B32 V ≤ wn U j (m + 2 + 1) := by omega
      have hqQ : q ≤ Q := by rw [← hQ]; exact (Nat.le_div_iff_mul_le kn.v0).2 hle
      have hqe : q = Q := by omega
      subst hqe
      refine ⟨by rw [Nat.mod_eq_of_lt hqB], _, rfl, hPl, hOd2, ?_, by omega⟩
      intro k hk
      rw [List.getElem?_set_ne (by omega)]
      exact hout k (by omega)
    have hz1 : D / 9223372036854775808 = 1 := by omega
    have ez : EqI ((D / 9223372036854775808 : Nat) : Int) 0 = False := eq_false (by unfold EqI; omega)
    simp +contextual (disch := omega) only [↓AM, ↓AV, AP, CQ, CN, i64, u64, gput, rput, put_put, hin, u3_at hO4, l1, kD, shr_63, ul, us, ez]
    rw [hz1, Nat.mul_one] at e8
    have epow : B32 ^ (m + 2) * 4294967296 = B32 ^ (m + 2 + 1) := (Nat.pow_succ ..).symm
    rw [epow] at e8
    have hgt : wn U j (m + 2 + 1) < q * vL B32 V := by omega
    have hqe : q = Q + 1 := by
      have : Q < q := by
        refine Nat.lt_of_not_le fun hh => ?_
        have := Nat.mul_le_mul_right (vL B32 V) hh
        omega
      omega
    subst hqe
    have dP := d.put (O' := O.set (j + (m + 2)) (D % 4294967296))
    have hP4 : (O.set (j + (m + 2)) (D % 4294967296))[j + (m + 2)]? = some (D % 4294967296) := List.getElem?_set_self hij
    have houtP : ∀ k, k < j ∨ j + (m + 2) < k → (O.set (j + (m + 2)) (D % 4294967296))[k]? = U[k]? := fun k hk => by
      rw [List.getElem?_set_ne (by omega)]
      exact hout k (by omega)
    have hwP : wn (O.set (j + (m + 2)) (D % 4294967296)) j (m + 2 + 1) = wn (O.set (j + (m + 2)) (D % 4294967296)) j (m + 2) + B32 ^ (m + 2) * (D % 4294967296) := wn_at hP4
    generalize O.set (j + (m + 2)) (D % 4294967296) = P at *
    refine WL.mk (fun k t h' => ∃ R : List Nat, h' = h.put bu ⟨u3 R, .own⟩ ∧ R.length = U.length ∧ Dl B32 R ∧ ∃ i ba : Nat, i ≤ m + 2 ∧ k = m + 2 - i ∧ ba ≤ 1 ∧ (∀ k, k < j ∨ j + i ≤ k → R[k]? = P[k]?) ∧ wn R j i + B32 ^ i * ba = wn P j i + vL B32 (V.take i) ∧
        t = [(0, some (.slice (some ⟨bu, j, none⟩) (m + 2 + 1) cu)), (5, some (.int .i64 ((m + 2 : Nat) : Int))), (7, some (.int .u64 ((Q + 1 : Nat) : Int))), (15, some (.int .u64 (ba : Int))), (138, some (.slice (some ⟨b1, o1, s1⟩) (m + 2) c)), (139, some (.int .i64 ((m + 2 : Nat) : Int))), (140, some (.int .i64 (i : Int)))])
      ⟨m + 2, P, rfl, hPl, hOd2, 0, 0, by omega, rfl, by decide, fun k _ => rfl, by simp [wn, vL], rfl⟩ ?_
    rintro k t _ ⟨R, rfl, hRl, hRd, i, ba, hi, rfl, hba, houtR, hvR, rfl⟩
    have dR := d.put (O' := R)
    by_cases hin : i < m + 2
    · obtain ⟨b3, o3, s3, y, e4, f3, hy, ry⟩ := dR.lv.rd.nat (i := i) hin
      cases e4
      have hyl : y < 4294967296 := d.lv.dl.at hy
      obtain ⟨u, hu⟩ : ∃ u, R[j + i]? = some u := ⟨_, List.getElem?_eq_getElem (by omega)⟩
      have hul : u < 4294967296 := hRd.at hu
      have hij := lt_l hu
      have huP : P[j + i]? = some u := by rw [← houtR (j + i) (.inr (Nat.le_refl _))]; exact hu
      have ru := u3_rd dR.gu hu
      have hi2 : i < m + 2 + 1 := by omega
      have ul : leIs (j + i + 1) (u3 R) = true := by rw [← leIs_p, u3_len]; omega
      have us : spl (u3 R) (j + i) [.int .u32 (((ba + (u + y)) % 4294967296 : Nat) : Int)] = u3 (R.set (j + i) ((ba + (u + y)) % 4294967296)) := spl_u3 hij
      simp +contextual (disch := omega) only [↓AM, ↓AV, AP, CQ, CN, i64, u64, gput, rput, put_put, hin, f1, ry, ru, u3_at hu, hi2, ul, us]
      refine ⟨m + 2 - (i + 1), by omega, R.set (j + i) ((ba + (u + y)) % 4294967296), rfl, by simp [hRl], hRd.set (Nat.mod_lt _ (by decide)), i + 1, (ba + (u + y)) / 4294967296, by omega, rfl, by omega, ?_, ?_, rfl⟩
      · intro k hk
        rw [List.getElem?_set_ne (by omega)]
        exact houtR k (by omega)
      · rw [wn_set hij, wn_at huP, take_u3 hy, Nat.pow_succ]
        have e6 : B32 ^ i * ((ba + (u + y)) % 4294967296) + B32 ^ i * B32 * ((ba + (u + y)) / 4294967296) = B32 ^ i * ba + (B32 ^ i * u + B32 ^ i * y) := by
          rw [← Nat.mul_add, ← Nat.mul_add, Nat.mul_assoc, ← Nat.mul_add]; congr 1; exact Nat.mod_add_div _ 4294967296
        omega
    have hie : i = m + 2 := by omega
    subst hie
    rw [List.take_of_length_le (l := V) (by omega)] at hvR
    have hR4 : R[j + (m + 2)]? = some (D % 4294967296) := by rw [houtR (j + (m + 2)) (.inr (Nat.le_refl _))]; exact hP4
    have hij := lt_l hR4
    have hRw := wn_lt hRd j (m + 2)
    have hVw : vL B32 V < B32 ^ (m + 2) := by have := vL_lt d.lv.dl; rw [hVl] at this; exact this
    obtain ⟨t1, t2⟩ := two_up (a := wn R j (m + 2)) (b := wn U j (m + 2 + 1) % vL B32 V) (X := B32 ^ (m + 2)) (s := D % 4294967296 + ba) (t := 4294967296) (by
      rw [Nat.mul_add, epow]
      have e9 : (Q + 1) * vL B32 V = Q * vL B32 V + vL B32 V := by rw [Nat.add_mul, Nat.one_mul]
      omega) hRw (by omega)
    have ul : leIs (j + (m + 2) + 1) (u3 R) = true := by rw [← leIs_p, u3_len]; omega
    have us : spl (u3 R) (j + (m + 2)) [.int .u32 0] = u3 (R.set (j + (m + 2)) 0) := spl_u3 hij
    have wz : IntKind.u32.wrap (((D % 4294967296 : Nat) : Int) + ((ba % 4294967296 : Nat) : Int)) = 0 := by
      rw [IntKind.wrap_u32]; omega
    have wz2 : IntKind.u32.wrap ((D % 4294967296 + ba % 4294967296 : Nat) : Int) = 0 := by
      rw [IntKind.wrap_u32]; omega
    have wz3 : (((D % 4294967296 + ba % 4294967296) % 4294967296 : Nat) : Int) = 0 := by omega
    simp +contextual (disch := omega) only [↓AM, ↓AV, AP, CQ, CN, i64, u64, gput, rput, put_put, hin, u3_at hR4, l1, ul, us, wz, wz2, wz3]
    refine ⟨by rw [Nat.mod_eq_of_lt (by omega)], _, rfl, by simp [hRl], hRd.set (by decide), ?_, ?_⟩
    · intro k hk
      rw [List.getElem?_set_ne (by omega), houtR k (by omega)]
      exact houtP k hk
    · rw [wn_set hij, Nat.mul_zero, Nat.add_zero]
      exact t2
end Go.Proofs.Ytbfbgkhlngkifaa.Nu

/- Limbs divided by limbs. Plain theorems over the abstract machine.
   Conditions: none. -/
namespace Go.Proofs.Ytbfbgkhlngkifaa.Nu
open Go Go.RowKit Go.Proofs.Ytbfbgkhlngkifaa.Am Go.Proofs.Ytbfbgkhlngkifaa.Af Go.Proofs.Ytbfbgkhlngkifaa.Md
set_option linter.unusedVariables false
set_option linter.unusedSimpArgs false
set_option linter.defProp false
set_option maxRecDepth 20000
set_option maxHeartbeats 2000000

theorem lm_get {h : Hp} {b n c : Nat} {O : List Nat} (hg : h.get b = some ⟨u3 O, .own⟩) (hd : Dl B32 O) (hn : n ≤ O.length) (hc : n ≤ c) : Lm h (some ⟨b, 0, none⟩) n c (O.take n) := by
  refine ⟨Rd.of rfl ?_, hc, hd.take n⟩
  rw [Nat.mul_one, rdN_mk hg (by show 0 + n ≤ (u3 O).length; rw [u3_len]; omega)]
  show some (((u3 O).drop 0).take n) = _
  rw [List.drop_zero, u3_take]
theorem vl_split (O : List Nat) (k : Nat) (hk : k ≤ O.length) : vL B32 O = vL B32 (O.take k) + B32 ^ k * vL B32 (O.drop k) := vL_take b32 hk
/-- What is small has nothing above. -/
theorem vl_small {O : List Nat} {n : Nat} (h : vL B32 O < B32 ^ n) : vL B32 (O.take n) = vL B32 O := by
  rcases Nat.lt_or_ge n O.length with hl | hl
  · have e := vl_split O n (by omega)
    have : vL B32 (O.drop n) = 0 := by
      refine Nat.eq_zero_of_not_pos fun hp => ?_
      have := Nat.mul_le_mul_left (B32 ^ n) (show 1 ≤ vL B32 (O.drop n) by omega)
      omega
    rw [this, Nat.mul_zero, Nat.add_zero] at e
    exact e.symm
  · rw [List.take_of_length_le hl]
theorem dg_len_lt {x n : Nat} (h : (dg x).length ≤ n) : x < B32 ^ n := by
  have h1 := vL_lt (dg_dl x)
  rw [dg_val] at h1
  exact Nat.lt_of_lt_of_le h1 (Nat.pow_le_pow_right (by decide) h)
/-- The highest limb. -/
theorem dg_top {y n : Nat} (hn : (dg y).length = n + 1) : ∃ t, (dg y)[n]? = some t ∧ 0 < t ∧ t < 4294967296 ∧ B32 ^ n * t ≤ y ∧ y < B32 ^ n * (t + 1) := by
  obtain ⟨t, ht⟩ : ∃ t, (dg y)[n]? = some t := ⟨_, List.getElem?_eq_getElem (by omega)⟩
  have hd := dg_dl y
  have e := take_u3 ht
  rw [List.take_of_length_le (by omega), dg_val] at e
  have hl := vL_lt (hd.take n)
  rw [List.length_take, Nat.min_eq_left (by omega)] at hl
  have hnz : (dg y).getLast? ≠ some 0 := dig_nz (hB := b32) y
  have htl := hd.at ht
  refine ⟨t, ht, Nat.pos_of_ne_zero fun h0 => hnz ?_, htl, by omega, ?_⟩
  · rw [List.getLast?_eq_getElem?, hn]
    show (dg y)[n]? = _
    rw [ht, h0]
  · rw [Nat.mul_add, Nat.mul_one]; omega
theorem pow_by {t b : Nat} (hb : b < 32) (h : t * 2 ^ b < 4294967296) : (t + 1) * 2 ^ b ≤ 4294967296 := by
  have e : (4294967296 : Nat) = 2 ^ (32 - b) * 2 ^ b := by rw [← Nat.pow_add, show 32 - b + b = 32 by omega]
  rw [e] at h ⊢
  have := Nat.lt_of_mul_lt_mul_right h
  exact Nat.mul_le_mul_right _ this
/-- The divisor, moved up: as many limbs, and the highest one great. -/
theorem moved {y n t b : Nat} {Ub : List Nat} (hn : (dg y).length = n + 1) (ht : (dg y)[n]? = some t) (hb : b < 32) (h1 : 2147483648 ≤ t * 2 ^ b) (h2 : t * 2 ^ b < 4294967296) (hl : Ub.length = n + 1 + 1) (hd : Dl B32 Ub) (hv : vL B32 Ub = y * 2 ^ b) :
    vL B32 (Ub.take (n + 1)) = y * 2 ^ b ∧ 2147483648 ≤ (Ub.take (n + 1)).getD n 0 ∧ y * 2 ^ b < B32 ^ (n + 1) ∧ B32 ^ n * 2 ^ b ≤ y * 2 ^ b := by
  obtain ⟨t', ht', t0, tl, tlo, thi⟩ := dg_top hn
  rw [ht] at ht'
  cases ht'
  have hp : 0 < 2 ^ b := Nat.pow_pos (by decide)
  have hlt : y * 2 ^ b < B32 ^ (n + 1) := by
    have e1 : y * 2 ^ b < B32 ^ n * (t + 1) * 2 ^ b := Nat.mul_lt_mul_of_pos_right thi hp
    rw [Nat.mul_assoc] at e1
    have e2 := Nat.mul_le_mul_left (B32 ^ n) (pow_by hb h2)
    rw [Nat.pow_succ]
    exact Nat.lt_of_lt_of_le e1 e2
  have hs : vL B32 (Ub.take (n + 1)) = y * 2 ^ b := by rw [vl_small (by rw [hv]; exact hlt), hv]
  refine ⟨hs, ?_, hlt, ?_⟩
  · obtain ⟨z, hz⟩ : ∃ z, Ub[n]? = some z := ⟨_, List.getElem?_eq_getElem (by omega)⟩
    have hz2 : (Ub.take (n + 1)).getD n 0 = z := by
      rw [List.getD_eq_getElem?_getD, List.getElem?_take, if_pos (by omega), hz]; rfl
    rw [hz2]
    have e := take_u3 hz
    have hl2 := vL_lt (hd.take n)
    rw [List.length_take, Nat.min_eq_left (by omega)] at hl2
    rw [hs] at e
    have e3 : B32 ^ n * t * 2 ^ b ≤ y * 2 ^ b := Nat.mul_le_mul_right _ tlo
    rw [Nat.mul_assoc] at e3
    have e4 : B32 ^ n * (t * 2 ^ b) < B32 ^ n * (z + 1) := by rw [Nat.mul_add, Nat.mul_one]; omega
    have := Nat.lt_of_mul_lt_mul_left e4
    omega
  · refine Nat.mul_le_mul_right _ (Nat.le_trans ?_ tlo)
    exact Nat.le_mul_of_pos_right _ t0
/-- The limbs of what is moved down again. -/
theorem down_step {x b i p q : Nat} {O : List Nat} (hx : vL B32 O = x) (hd : Dl B32 O) (hb : b < 32) (hp : O[i]? = some p) (hq : O[i + 1]? = some q) : (x / 2 ^ b) / B32 ^ i % 4294967296 = ((q * 4294967296 + p) / 2 ^ b) % 4294967296 := by
  have hi := lt_l hq
  have e1 := vl_split O i (by omega)
  have e2 : O.drop i = p :: q :: O.drop (i + 2) := by
    rw [List.drop_eq_getElem_cons (by omega), List.drop_eq_getElem_cons (by omega)]
    rw [List.getElem?_eq_getElem (by omega)] at hp hq
    rw [Option.some.inj hp, Option.some.inj hq]
  have hl := vL_lt (hd.take i)
  rw [List.length_take, Nat.min_eq_left (by omega)] at hl
  rw [e2, vL, vL] at e1
  have e3 : x / B32 ^ i = p + 4294967296 * (q + 4294967296 * vL B32 (O.drop (i + 2))) := by
    rw [← hx, e1, Nat.add_mul_div_left _ _ (Nat.pow_pos (by decide)), Nat.div_eq_of_lt hl, Nat.zero_add]
  rw [Nat.div_div_eq_div_mul, Nat.mul_comm (2 ^ b), ← Nat.div_div_eq_div_mul, e3]
  generalize vL B32 (O.drop (i + 2)) = T
  have e4 : p + 4294967296 * (q + 4294967296 * T) = (q * 4294967296 + p) + 2 ^ b * (4294967296 * (2 ^ (32 - b) * T)) := by
    have e5 : 2 ^ b * (4294967296 * (2 ^ (32 - b) * T)) = 4294967296 * 4294967296 * T := by
      have e6 : 2 ^ b * 2 ^ (32 - b) = 4294967296 := by rw [← Nat.pow_add, show b + (32 - b) = 32 by omega]
      calc 2 ^ b * (4294967296 * (2 ^ (32 - b) * T)) = 4294967296 * (2 ^ b * 2 ^ (32 - b)) * T := by ac_rfl
        _ = _ := by rw [e6]
    rw [e5]
    omega
  rw [e4, Nat.add_mul_div_left _ _ (Nat.pow_pos (by decide)), Nat.add_mul_mod_self_left]
theorem shr_by {x b : Nat} (hb : b < 32) : (x : Int).fdiv (2 ^ min b IntKind.u64.bits) = ((x / 2 ^ b : Nat) : Int) := by
  rw [show min b IntKind.u64.bits = b from Nat.min_eq_left (by show b ≤ 64; omega)]
  rw [Int.fdiv_eq_ediv_of_nonneg _ (Int.pow_nonneg (by omega))]
  rw [Int.natCast_ediv, Int.natCast_pow]; rfl
end Go.Proofs.Ytbfbgkhlngkifaa.Nu

/- Limbs divided by limbs, walked. Plain theorems over the abstract machine.
   Conditions: none. -/
namespace Go.Proofs.Ytbfbgkhlngkifaa.Nu
open Go Go.RowKit Go.Proofs.Ytbfbgkhlngkifaa.Am Go.Proofs.Ytbfbgkhlngkifaa.Af Go.Proofs.Ytbfbgkhlngkifaa.Md
set_option linter.unusedVariables false
set_option linter.unusedSimpArgs false
set_option linter.defProp false
set_option maxRecDepth 20000
set_option maxHeartbeats 2000000

theorem slA {k j c : Nat} (h : ¬ c = j) : slAddr k 0 none 1 j c true = ⟨k, j, none⟩ := by simp [slAddr, h]
theorem c_divG {h : Hp} {a b : Option Addr} {c d x y : Nat} (la : Lm h a (dg x).length c (dg x)) (lb : Lm h b (dg y).length d (dg y)) (hx : (dg x).length ≤ 100000) (hy : (dg y).length ≤ 100000) (hy0 : 0 < y) :
    ACalls Try.prog 118 [.slice a (dg x).length c, .slice b (dg y).length d] h fun r h' => ∃ u v, r = .tuple #[u, v] ∧ LmV h' u (x / y) ∧ LmV h' v (x % y) ∧ Fm No h h' := by
  by_cases hyB : y < 4294967296
  · exact c_div la lb (by omega) hy0 hyB
  refine num_divMag_ok.snd hm rfl fun w => ?_
  rw [WF_eq, num_divMag]
  have hyl2 : 2 ≤ (dg y).length := by
    rcases Nat.lt_or_ge (dg y).length 2 with h2 | h2
    · exfalso
      have := dg_len_lt (x := y) (n := 1) (by omega)
      rw [Nat.pow_one] at this
      exact hyB this
    · exact h2
  simp +contextual (disch := omega) only [↓AM, ↓AV, AP, CQ, i64]
  refine (c_cmp la lb (by omega) (by omega)).use ?_
  rintro _ h w1 ⟨⟨q, rfl, q1, q2, q3, q4⟩, rfl⟩
  by_cases hlt : x < y
  · have hq : q < 0 := q1.2 hlt
    simp +contextual (disch := omega) only [↓AM, ↓AV, AP, CQ, i64, hq]
    refine (c_clone la (by omega)).use ?_
    rintro _ h2 w2 ⟨l, fm⟩
    simp +contextual (disch := omega) only [↓AM, ↓AV, AP, CQ, i64]
    rw [Nat.div_eq_of_lt hlt, Nat.mod_eq_of_lt hlt]
    exact ⟨_, _, rfl, lmv0, l, fm⟩
  have hq : ¬ q < 0 := fun h => hlt (q1.1 h)
  have hll : (dg y).length ≤ (dg x).length := by
    rcases Nat.lt_or_ge (dg x).length (dg y).length with h2 | h2
    · have := len_lt b32 (dg_dl x) (dig_nz (hB := b32) y) h2
      rw [dg_val, show vL B32 (dig B32 b32 y) = y from dg_val y] at this
      omega
    · exact h2
  obtain ⟨n, hn⟩ : ∃ n, (dg y).length = n + 1 := ⟨(dg y).length - 1, by omega⟩
  obtain ⟨t, ht, t0, tl, -, -⟩ := dg_top hn
  obtain ⟨b2, o2, s2, t', rfl, f2, ht', rt⟩ := lb.rd.nat (i := n) (by omega)
  rw [ht] at ht'
  cases ht'
  have e1 : EqI (((n + 1 : Nat)) : Int) 1 = False := eq_false (by unfold EqI; omega)
  have nn1 : n < n + 1 := by omega
  have xlt := dg_len_lt (Nat.le_refl (dg x).length)
  rw [hn] at lb hll ⊢
  simp +contextual (disch := omega) only [↓AM, ↓AV, AP, CQ, i64, hq, e1, f2, rt, nn1]
  refine (c_Lz t0 tl).use ?_
  rintro _ h w2 ⟨rfl, by_, rfl, hby, hb1, hb2⟩
  simp +contextual (disch := omega) only [↓AM, ↓AV, AP, CQ, i64]
  generalize hX : (dg x).length = lx at *
  have xval : vL B32 (dg x) = x := dg_val x
  have yval : vL B32 (dg y) = y := dg_val y
  refine (c_shift la (by omega) hby).use ?_
  rintro _ h3 w3 ⟨k1, U0, rfl, hk1, g1, hU0l, hU0d, hU0v, f3⟩
  simp +contextual (disch := omega) only [↓AM, ↓AV, AP, CQ, i64]
  have lb3 : Lm h3 (some ⟨b2, o2, s2⟩) (n + 1) d (dg y) := ⟨lb.rd.keepW w2 f3 nNo, lb.le, lb.dl⟩
  refine (c_shift lb3 (by omega) hby).use ?_
  rintro _ h4 w4 ⟨k2, Ub, rfl, hk2, g2, hUbl, hUbd, hUbv, f4⟩
  have hk1' := w3.lt g1
  have g1 := f4.keep w3 g1 (fun f => f)
  have hk2' := w4.lt g2
  rw [xval] at hU0v
  rw [yval] at hUbv
  obtain ⟨m1, m2, m3, m4⟩ := moved hn ht hby hb1 hb2 hUbl hUbd hUbv
  have f34 := f3.trans f4 fun _ _ f => f
  have hVl : (Ub.take (n + 1)).length = n + 1 := by rw [List.length_take]; omega
  have sl1 : slAddr k2 0 none 1 0 (n + 1 + 1) true = ⟨k2, 0, none⟩ := slA (by omega)
  have hVd := hUbd.take (n + 1)
  generalize hV : Ub.take (n + 1) = V at *
  have lV : ∀ g : Hp, g.get k2 = some ⟨u3 Ub, .own⟩ → Lm g (some ⟨k2, 0, none⟩) (n + 1) (n + 1 + 1) V := fun g hg => by
    have := lm_get (n := n + 1) (c := n + 1 + 1) hg hUbd (by omega) (by omega)
    rw [hV] at this; exact this
  obtain ⟨mq, hmq⟩ : ∃ mq, lx = mq + (n + 1) := ⟨lx - (n + 1), by omega⟩
  have emq : (lx : Int) - ((n + 1 : Nat) : Int) = (mq : Int) := by omega
  obtain ⟨h5, e5⟩ : ∃ g, h4.new ⟨u3 (List.replicate (mq + 1) 0), .own⟩ = g := ⟨_, rfl⟩
  obtain ⟨kq, ekq⟩ : ∃ g, h4.size = g := ⟨_, rfl⟩
  have w5 : Wf h5 := e5 ▸ w4.new
  have f5 : Fm No h4 h5 := e5 ▸ Fm.new Fm.refl
  have gq : h5.get kq = some ⟨u3 (List.replicate (mq + 1) 0), .own⟩ := by rw [← e5, ← ekq]; exact gnew
  have f35 := f34.trans f5 fun _ _ f => f
  have bl : n + 1 ≤ n + 1 + 1 := by omega
  simp +contextual (disch := omega) only [↓AM, ↓AV, AP, CQ, i64, bnds, Option.isNone, flagOk_none, capOk, sl1, emq, rep_u3, e5, ekq]
  refine ⟨by omega, by omega, ?_⟩
  have V0 : 0 < y * 2 ^ by_ := Nat.mul_pos hy0 (Nat.pow_pos (by decide))
  have zl : ∀ k, vL B32 ((List.replicate (mq + 1) 0).drop k) = 0 := fun k => by rw [List.drop_replicate]; exact vL_zeros _ _
  have top0 : vL B32 (U0.drop (mq + 1)) < y * 2 ^ by_ := by
    have e := vl_split U0 (mq + 1) (by omega)
    rw [hU0v] at e
    have hp : 0 < 2 ^ by_ := Nat.pow_pos (by decide)
    have e2 : x * 2 ^ by_ < B32 ^ lx * 2 ^ by_ := Nat.mul_lt_mul_of_pos_right xlt hp
    rw [hmq, show mq + (n + 1) = (mq + 1) + n by omega, Nat.pow_add, Nat.mul_assoc] at e2
    have e3 : B32 ^ (mq + 1) * vL B32 (U0.drop (mq + 1)) < B32 ^ (mq + 1) * (B32 ^ n * 2 ^ by_) := by omega
    have := Nat.lt_of_mul_lt_mul_left e3
    omega
  refine WL.mk (fun k t h' => k ≤ mq + 1 ∧ ∃ O Q : List Nat, Wf h' ∧ Fm No h h' ∧ h'.get k1 = some ⟨u3 O, .own⟩ ∧ h'.get k2 = some ⟨u3 Ub, .own⟩ ∧ h'.get kq = some ⟨u3 Q, .own⟩ ∧ O.length = lx + 1 ∧ Q.length = mq + 1 ∧ Dl B32 O ∧ Dl B32 Q ∧ O.take k = U0.take k ∧ vL B32 (U0.drop k) = vL B32 (Q.drop k) * (y * 2 ^ by_) + vL B32 (O.drop k) ∧ vL B32 (O.drop k) < y * 2 ^ by_ ∧
      t = [(4, some (.slice (some ⟨kq, 0, none⟩) (mq + 1) (mq + 1))), (8, some (.int .i64 (by_ : Int))), (9, some (.slice (some ⟨k1, 0, none⟩) (lx + 1) (lx + 1))), (10, some (.slice (some ⟨k2, 0, none⟩) (n + 1) (n + 1 + 1))), (11, some (.int .i64 ((n + 1 : Nat) : Int))), (12, some (.int .i64 ((k : Int) - 1)))])
    ⟨mq + 1, Nat.le_refl _, U0, _, w5, f35, f5.keep w4 g1 (fun f => f), f5.keep w4 g2 (fun f => f), gq, hU0l, by simp, hU0d, Dl.zeros _, rfl, by rw [zl]; simp, top0, by rw [show (((mq + 1 : Nat)) : Int) - 1 = (mq : Int) by omega]⟩ ?_
  rintro k t h' ⟨hk, O, Q, w', f', p1, p2, p3, hOl, hQl, hOd, hQd, htk, hv, hr, rfl⟩
  cases k with
  | zero =>
    have e2 : ((0 : Int) ≤ ((0 : Nat) : Int) - 1) = False := by simp
    have hv : x * 2 ^ by_ = vL B32 Q * (y * 2 ^ by_) + vL B32 O := by rw [← hU0v]; exact hv
    have hr : vL B32 O < y * 2 ^ by_ := hr
    have hp : 0 < 2 ^ by_ := Nat.pow_pos (by decide)
    have vq : vL B32 Q = x / y := by
      have : x * 2 ^ by_ / (y * 2 ^ by_) = vL B32 Q := by rw [hv, Nat.mul_comm (vL B32 Q), Nat.mul_add_div V0, Nat.div_eq_of_lt hr]; rfl
      rw [← this, Nat.mul_div_mul_right _ _ hp]
    have vo : vL B32 O = x % y * 2 ^ by_ := by
      have : x * 2 ^ by_ % (y * 2 ^ by_) = vL B32 O := by rw [hv, Nat.mul_comm (vL B32 Q), Nat.mul_add_mod, Nat.mod_eq_of_lt hr]
      rw [← this, Nat.mul_mod_mul_right]
    have vo2 : vL B32 O / 2 ^ by_ = x % y := by rw [vo]; exact Nat.mul_div_cancel _ hp
    have xyb : x % y < B32 ^ (n + 1) := by
      have h1 : x % y < y := Nat.mod_lt _ hy0
      have h2 : y ≤ y * 2 ^ by_ := Nat.le_mul_of_pos_right _ hp
      omega
    obtain ⟨h6, e6⟩ : ∃ g, h'.new ⟨u3 (List.replicate (n + 1) 0), .own⟩ = g := ⟨_, rfl⟩
    obtain ⟨kr, ekr⟩ : ∃ g, h'.size = g := ⟨_, rfl⟩
    have w6 : Wf h6 := e6 ▸ w'.new
    have f6 : Fm No h' h6 := e6 ▸ Fm.new Fm.refl
    have gr : h6.get kr = some ⟨u3 (List.replicate (n + 1) 0), .own⟩ := by rw [← e6, ← ekr]; exact gnew
    have k1r := w'.lt p1
    have kqr := w'.lt p3
    have hks := f'.size
    simp +contextual (disch := omega) only [↓AM, ↓AV, AP, CQ, i64, e2, rep_u3, e6, ekr]
    refine ⟨by omega, ?_⟩
    refine WL.mk (fun k t g => ∃ R : List Nat, Wf g ∧ Fm (fun z => z = kr) h6 g ∧ g.get kr = some ⟨u3 R, .own⟩ ∧ R.length = n + 1 ∧ Dl B32 R ∧ ∃ i : Nat, i ≤ n + 1 ∧ k = n + 1 - i ∧ vL B32 R = (vL B32 O / 2 ^ by_) % B32 ^ i ∧ (∀ j, i ≤ j → j < R.length → R[j]? = some 0) ∧
        t = [(4, some (.slice (some ⟨kq, 0, none⟩) (mq + 1) (mq + 1))), (5, some (.slice (some ⟨kr, 0, none⟩) (n + 1) (n + 1))), (8, some (.int .i64 (by_ : Int))), (9, some (.slice (some ⟨k1, 0, none⟩) (lx + 1) (lx + 1))), (107, some (.int .i64 ((n + 1 : Nat) : Int))), (108, some (.int .i64 (i : Int)))])
      ⟨n + 1, _, w6, Fm.refl, gr, by simp, Dl.zeros _, 0, by omega, rfl, by rw [vL_zeros, Nat.pow_zero, Nat.mod_one], fun j h1 h2 => by rw [List.getElem?_replicate, if_pos (by simpa using h2)], rfl⟩ ?_
    rintro k t g ⟨R, wg, fg, gg, hRl, hRd, i, hi, rfl, hvR, hzR, rfl⟩
    have gO : g.get k1 = some ⟨u3 O, .own⟩ := fg.keep w6 (f6.keep w' p1 (fun f => f)) (by omega)
    have gQ : g.get kq = some ⟨u3 Q, .own⟩ := fg.keep w6 (f6.keep w' p3 (fun f => f)) (by omega)
    have fall : Fm No h g := (f'.trans f6 fun _ _ f => f).trans fg fun z hz e => by omega
    by_cases hin : i < n + 1
    · obtain ⟨p, hp1⟩ : ∃ p, O[i]? = some p := ⟨_, List.getElem?_eq_getElem (by omega)⟩
      obtain ⟨q, hq1⟩ : ∃ q, O[i + 1]? = some q := ⟨_, List.getElem?_eq_getElem (by omega)⟩
      have pl : p < 4294967296 := hOd.at hp1
      have ql : q < 4294967296 := hOd.at hq1
      have rp := u3_rd gO hp1
      have rq := u3_rd gO hq1
      have eor := or_32 ql pl
      have es := shr_by (x := q * 4294967296 + p) hby
      have hq64 : (q * 4294967296 + p) / 2 ^ by_ ≤ q * 4294967296 + p := Nat.div_le_self _ _
      have hij : i < R.length := by omega
      have l1 : i + 1 < lx + 1 := by omega
      have l2 : i < lx + 1 := by omega
      have ul : leIs (i + 1) (u3 R) = true := by rw [← leIs_p, u3_len]; omega
      have us : spl (u3 R) i [.int .u32 (((q * 4294967296 + p) / 2 ^ by_ % 4294967296 : Nat) : Int)] = u3 (R.set i ((q * 4294967296 + p) / 2 ^ by_ % 4294967296)) := spl_u3 hij
      simp +contextual (disch := omega) only [↓AM, ↓AV, AP, CQ, CN, i64, u64, hin, rp, rq, l1, l2, eor, es, gg, ul, us]
      have fp : Fm (fun z => z = kr) g (g.put kr ⟨u3 (R.set i ((q * 4294967296 + p) / 2 ^ by_ % 4294967296)), .own⟩) := Fm.put Fm.refl fun _ => rfl
      refine ⟨n + 1 - (i + 1), by omega, R.set i ((q * 4294967296 + p) / 2 ^ by_ % 4294967296), wg.put (wg.lt gg), fg.trans fp fun _ _ e => e, by first | rfl | exact gput, by simp [hRl], hRd.set (Nat.mod_lt _ (by decide)), i + 1, by omega, rfl, ?_, ?_, rfl⟩
      · have h0 := vL_set (B := B32) (d := (q * 4294967296 + p) / 2 ^ by_ % 4294967296) (hzR i (Nat.le_refl _) hij)
        rw [Nat.mul_zero, Nat.add_zero] at h0
        rw [h0, hvR, Nat.pow_succ, Nat.mod_mul, down_step rfl hOd hby hp1 hq1]
      · intro j h1 h2
        rw [List.getElem?_set_ne (by omega)]
        exact hzR j (by omega) (by simpa using h2)
    · have hie : i = n + 1 := by omega
      subst hie
      rw [vo2, Nat.mod_eq_of_lt xyb] at hvR
      simp +contextual (disch := omega) only [↓AM, ↓AV, AP, CQ, CN, i64, hin]
      have lQ := lm_get (n := mq + 1) (c := mq + 1) gQ hQd (by omega) (Nat.le_refl _)
      rw [List.take_of_length_le (by omega)] at lQ
      refine (c_trim lQ (by omega)).use ?_
      rintro u g1 w7 ⟨lu, rfl⟩
      rw [vq] at lu
      simp +contextual (disch := omega) only [↓AM, ↓AV, AP, CQ, CN, i64]
      have lR := lm_get (n := n + 1) (c := n + 1) gg hRd (by omega) (Nat.le_refl _)
      rw [List.take_of_length_le (by omega)] at lR
      refine (c_trim lR (by omega)).use ?_
      rintro v g2 w8 ⟨lv, rfl⟩
      rw [hvR] at lv
      obtain ⟨ua, uc, rfl, lu⟩ := lu
      obtain ⟨va, vc, rfl, lv⟩ := lv
      simp +contextual (disch := omega) only [↓AM, ↓AV, AP, CQ, CN, i64]
      exact ⟨_, _, rfl, ⟨_, _, rfl, lu⟩, ⟨_, _, rfl, lv⟩, fall⟩
  | succ k =>
    have hks := f'.size
    obtain ⟨ok, hok⟩ : ∃ z, O[k]? = some z := ⟨_, List.getElem?_eq_getElem (by omega)⟩
    have huk : U0[k]? = some ok := by
      have := congrArg (·[k]?) htk
      simp only [List.getElem?_take, show k < k + 1 by omega, if_true] at this
      rw [← this]; exact hok
    have okl : ok < 4294967296 := hOd.at hok
    have dO : vL B32 (O.drop k) = ok + B32 * vL B32 (O.drop (k + 1)) := by
      rw [List.drop_eq_getElem_cons (by omega)]
      rw [List.getElem?_eq_getElem (by omega)] at hok
      rw [Option.some.inj hok, vL]
    have dU : vL B32 (U0.drop k) = ok + B32 * vL B32 (U0.drop (k + 1)) := by
      rw [List.drop_eq_getElem_cons (by omega)]
      rw [List.getElem?_eq_getElem (by omega)] at huk
      rw [Option.some.inj huk, vL]
    have hlt2 : vL B32 (O.drop k) < y * 2 ^ by_ * 4294967296 := by
      have : B32 * (vL B32 (O.drop (k + 1)) + 1) ≤ B32 * (y * 2 ^ by_) := Nat.mul_le_mul_left _ hr
      rw [Nat.mul_add, Nat.mul_one] at this
      rw [dO, Nat.mul_comm _ 4294967296]
      have e : B32 * (y * 2 ^ by_) = 4294967296 * (y * 2 ^ by_) := rfl
      have eB : B32 = 4294967296 := rfl
      omega
    have hws : wn O k (n + 1 + 1) = vL B32 (O.drop k) := by
      unfold wn
      refine vl_small (Nat.lt_of_lt_of_le hlt2 ?_)
      rw [Nat.pow_succ]
      exact Nat.mul_le_mul_right _ (Nat.le_of_lt m3)
    have dv : Dv h' k1 O (some ⟨k2, 0, none⟩) (n + 1) (n + 1 + 1) V := ⟨w', p1, lV h' p2, fun z hz => by rw [At.some] at hz; have hz : k2 = z := hz; omega⟩
    have sl2 : slAddr k1 0 none 1 k (lx + 1) true = ⟨k1, 0 + k * 1, none⟩ := by rw [Nat.zero_add, Nat.mul_one]; exact slA (by omega)
    have ek : ((k : Int) + ((n + 1 : Nat) : Int) + 1) = ((k + (n + 1) + 1 : Nat) : Int) := by omega
    have el : k + (n + 1) + 1 - k = n + 1 + 1 := by omega
    simp +contextual (disch := omega) only [↓AM, ↓AV, AP, CQ, i64, bnds, Option.isNone, flagOk_none, capOk, sl2, ek]
    have hVv : vL B32 V = y * 2 ^ by_ := m1
    have dg := c_digitL (cu := lx + 1 - k) (j := k) dv (by omega) (by omega) (by omega) (by omega) hOd m2 (by rw [hws, hVv]; exact hlt2) (by omega)
    rw [el]
    refine ⟨⟨by omega, by omega⟩, ?_⟩
    refine dg.use ?_
    rintro _ _ w7 ⟨rfl, O2, rfl, hO2l, hO2d, hO2o, hO2w⟩
    rw [hws, hVv] at hO2w ⊢
    obtain ⟨hA, eA⟩ : ∃ g, h'.put k1 ⟨u3 O2, .own⟩ = g := ⟨_, rfl⟩
    rw [eA] at w7
    have fA : Fm (fun z => z = k1) h' hA := eA ▸ Fm.put Fm.refl fun _ => rfl
    have a1 : hA.get k1 = some ⟨u3 O2, .own⟩ := eA ▸ gput
    have k1q : k1 ≠ kq := by have := f'.size; omega
    have a2 := fA.keep w' p2 (show ¬ k2 = k1 by omega)
    have a3 := fA.keep w' p3 (fun e => k1q e.symm)
    have hkq : k < Q.length := by omega
    have qb : vL B32 (O.drop k) / (y * 2 ^ by_) < 4294967296 := (Nat.div_lt_iff_lt_mul V0).2 (by rw [Nat.mul_comm]; exact hlt2)
    generalize hqd : vL B32 (O.drop k) / (y * 2 ^ by_) = qd at *
    have ul : leIs (k + 1) (u3 Q) = true := by rw [← leIs_p, u3_len]; omega
    have us : spl (u3 Q) k [.int .u32 (qd : Int)] = u3 (Q.set k qd) := spl_u3 hkq
    have lk : k < mq + 1 := by omega
    simp +contextual (disch := omega) only [↓AM, ↓AV, AP, CQ, i64, eA, a3, ul, us, lk]
    have fp : Fm (fun z => z = kq) hA (hA.put kq ⟨u3 (Q.set k qd), .own⟩) := Fm.put Fm.refl fun _ => rfl
    have dO2 : vL B32 (O2.drop k) = vL B32 (O.drop k) % (y * 2 ^ by_) := by
      have e := vl_split (O2.drop k) (n + 1 + 1) (by rw [List.length_drop]; omega)
      have e2 : (O2.drop k).drop (n + 1 + 1) = (O.drop k).drop (n + 1 + 1) := by
        rw [List.drop_drop, List.drop_drop]
        refine List.ext_getElem? fun z => ?_
        rw [List.getElem?_drop, List.getElem?_drop]
        exact hO2o _ (.inr (by omega))
      have e3 := vl_split (O.drop k) (n + 1 + 1) (by rw [List.length_drop]; omega)
      have hws' : vL B32 ((O.drop k).take (n + 1 + 1)) = vL B32 (O.drop k) := hws
      have hO2w' : vL B32 ((O2.drop k).take (n + 1 + 1)) = vL B32 (O.drop k) % (y * 2 ^ by_) := hO2w
      rw [e, hO2w', e2]
      omega
    refine ⟨k, by omega, by omega, O2, Q.set k qd, w7.put (w7.lt a3), ?_, (get_put k1q).trans a1, (get_put (by omega)).trans a2, by first | rfl | exact gput, by omega, by simp [hQl], hO2d, hQd.set qb, ?_, ?_, ?_, rfl⟩
    · exact (f'.trans fA fun z hz e => by omega).trans fp fun z hz e => by omega
    · have : O.take k = U0.take k := by
        have := congrArg (List.take k) htk
        rw [List.take_take, List.take_take, Nat.min_eq_left (by omega)] at this
        exact this
      rw [← this]
      refine List.ext_getElem? fun z => ?_
      rw [List.getElem?_take, List.getElem?_take]
      split
      · exact hO2o z (.inl (by omega))
      · rfl
    · have e4 : (Q.set k qd).drop k = qd :: Q.drop (k + 1) := by
        rw [List.drop_eq_getElem_cons (by simp; omega), List.getElem_set_self, List.drop_set_of_lt (by omega)]
      rw [e4, vL, dO2, dU, hv]
      have e5 := Nat.div_add_mod (vL B32 (O.drop k)) (y * 2 ^ by_)
      rw [hqd, dO] at e5
      rw [dO, Nat.add_mul, Nat.mul_add, Nat.mul_assoc, Nat.mul_comm qd]
      omega
    · rw [dO2]; exact Nat.mod_lt _ V0
end Go.Proofs.Ytbfbgkhlngkifaa.Nu

/- Whole numbers divided, fractions made of any numbers. Plain theorems over the abstract machine.
   Conditions: none. -/
namespace Go.Proofs.Ytbfbgkhlngkifaa.Nu
open Go Go.RowKit Go.Proofs.Ytbfbgkhlngkifaa.Am Go.Proofs.Ytbfbgkhlngkifaa.Af Go.Proofs.Ytbfbgkhlngkifaa.Md
set_option linter.unusedVariables false
set_option linter.unusedSimpArgs false
set_option linter.defProp false
set_option maxRecDepth 20000
set_option maxHeartbeats 2000000

theorem dg_mono {x y : Nat} (h : x ≤ y) : (dg x).length ≤ (dg y).length := by
  refine dg_len ?_
  have := vL_lt (dg_dl y)
  rw [dg_val] at this
  omega
theorem IntAt.same {h h' : Hp} {b o : Nat} {x : Int} (n : IntAt h b o x) (w : Wf h) (wr : Wr (fun y => y = b) h h') (e0 : h'.rd b o = h.rd b o) (e1 : h'.rd b (o + 1) = h.rd b (o + 1)) : IntAt h' b o x := by
  have sf := n.x.sf
  obtain ⟨cs, oa, c, h1, h2, h3, h4, h5⟩ := n
  obtain ⟨cs', g1, g2, g3⟩ := wr.ln b cs rfl h1
  rw [rd_mk g1, rd_mk h1] at e0 e1
  exact ⟨cs', oa, c, g1, g3 h2, e0.trans h3, e1.trans h4, h5.wr w wr sf⟩
/-- A fraction at a place, above with its sign. -/
def RatI (h : Hp) (b : Nat) (p : Int) (q : Nat) : Prop := IntAt h b 0 p ∧ NatAt h b 2 q
theorem RatI.keep {h h' : Hp} {b q : Nat} {p : Int} (r : RatI h b p q) (w : Wf h) (fm : Fm No h h') : RatI h' b p q := ⟨r.1.keep w fm, r.2.keep w fm⟩
theorem z_div {z : Int} {g : Nat} (h : g ∣ z.natAbs) : (if decide (z < 0) then -((z.natAbs / g : Nat) : Int) else ((z.natAbs / g : Nat) : Int)) = z / (g : Int) := by
  obtain ⟨k, hk⟩ := h
  rcases Nat.eq_zero_or_pos g with rfl | hg
  · have : z = 0 := by simp at hk; omega
    subst this; simp
  · have e1 : z.natAbs / g = k := by rw [hk]; exact Nat.mul_div_cancel_left k hg
    rw [e1]
    have hgz : (g : Int) ≠ 0 := by omega
    by_cases hz : z < 0
    · have ez : z = (g : Int) * (-(k : Int)) := by
        have : (z.natAbs : Int) = (g : Int) * (k : Int) := by rw [hk]; exact Int.natCast_mul _ _
        rw [Int.mul_neg]; omega
      rw [if_pos (by simpa using hz), ez, Int.mul_ediv_cancel_left _ hgz]
    · have ez : z = (g : Int) * (k : Int) := by
        have : (z.natAbs : Int) = (g : Int) * (k : Int) := by rw [hk]; exact Int.natCast_mul _ _
        omega
      rw [if_neg (by simpa using hz), ez, Int.mul_ediv_cancel_left _ hgz]
theorem c_SetFracG {h : Hp} {bx ba oa bb ob q : Nat} {z : Int} (xa : XAt h bx 2) (na : IntAt h ba oa z) (nb : NatAt h bb ob q) (hpl : (dg z.natAbs).length ≤ 50000) (hq0 : 0 < q) (hql : (dg q).length ≤ 50000) :
    ACalls Try.prog 94 [.pointer (some ⟨bx, 0, none⟩), .pointer (some ⟨ba, oa, none⟩), .pointer (some ⟨bb, ob, none⟩)] h fun r h' => r = .pointer (some ⟨bx, 0, none⟩) ∧ Wr (fun y => y = bx) h h' ∧ RatI h' bx (z / ((Nat.gcd z.natAbs q : Nat) : Int)) (q / Nat.gcd z.natAbs q) := by
  refine num_Rat__SetFrac_ok.snd hm rfl fun w => ?_
  rw [WF_eq, num_Rat__SetFrac]
  obtain ⟨ca, a, c, ga, sa, a0, a1, la⟩ := na
  obtain ⟨cb, b, d, gb, sb, b0, b1, lb⟩ := nb
  have r0 := (rd_mk ga (i := oa)).trans a0
  have r1 := (rd_mk ga (i := oa + 1)).trans a1
  have q0 := (rd_mk gb (i := ob)).trans b0
  have q1 := (rd_mk gb (i := ob + 1)).trans b1
  have hdiv := z_div (z := z) (g := Nat.gcd z.natAbs q) (Nat.gcd_dvd_left _ _)
  generalize hzp : z.natAbs = p at *
  have hg0 : 0 < Nat.gcd p q := Nat.gcd_pos_of_pos_right _ hq0
  have hg : (dg (Nat.gcd p q)).length ≤ 50000 := Nat.le_trans (dg_mono (Nat.gcd_le_right _ hq0)) hql
  have bne : (decide (z < 0) != false) = decide (z < 0) := by cases decide (z < 0) <;> rfl
  simp +contextual (disch := omega) only [↓AM, ↓AV, AP, CQ, r0, r1, q0, q1, bne]
  refine (c_clone la (by omega)).use ?_
  rintro _ h1 w1 ⟨l, fm⟩
  have r1 := (rd_mk (fm.keep w ga (fun f => f)) (i := oa + 1)).trans a1
  have q1 := (rd_mk (fm.keep w gb (fun f => f)) (i := ob + 1)).trans b1
  simp +contextual (disch := omega) only [↓AM, ↓AV, AP, CQ, r1, q1]
  refine WL.mk (fun k t h' => Wf h' ∧ Fm No h h' ∧ ∃ x u v, (dg k).length ≤ 50000 ∧ (dg x).length ≤ 50000 ∧ Nat.gcd x k = Nat.gcd p q ∧ LmV h' u x ∧ LmV h' v k ∧
      t = [(0, some (.pointer (some ⟨bx, 0, none⟩))), (1, some (.pointer (some ⟨ba, oa, none⟩))), (2, some (.pointer (some ⟨bb, ob, none⟩))), (7, some u), (8, some v)])
    ⟨q, w1, fm, p, _, _, hql, hpl, rfl, l, ⟨b, d, rfl, lb.rd.keepW w fm nNo, lb.le, lb.dl⟩, rfl⟩ ?_
  rintro k t h2 ⟨w2, fm2, x, u, v, hk, hx, hgc, ⟨au, cu, rfl, lu⟩, ⟨av, cv, rfl, lv⟩, rfl⟩
  rcases Nat.eq_zero_or_pos k with rfl | hk0
  · have e0 : ((0 : Int) < ((dg 0).length : Int)) = False := by rw [dg_0]; simp
    simp +contextual (disch := omega) only [↓AM, ↓AV, AP, CQ, e0]
    rw [Nat.gcd_zero_right] at hgc
    have r1 := (rd_mk (fm2.keep w ga (fun f => f)) (i := oa + 1)).trans a1
    have la2 := la.rd.keepW w fm2 nNo
    have lb2 := lb.rd.keepW w fm2 nNo
    simp +contextual (disch := omega) only [↓AM, ↓AV, AP, CQ, r1]
    rw [hgc] at lu ⊢
    refine (c_divG ⟨la2, la.le, la.dl⟩ lu (by omega) (by omega) hg0).use ?_
    rintro _ h3 w3 ⟨up, _, rfl, lup, -, fm3⟩
    have fm3h := fm2.trans fm3 fun _ _ f => f
    have q1 := (rd_mk (fm3h.keep w gb (fun f => f)) (i := ob + 1)).trans b1
    simp +contextual (disch := omega) only [↓AM, ↓AV, AP, CQ, q1]
    refine (c_divG ⟨lb2.keepW w2 fm3 nNo, lb.le, lb.dl⟩ ⟨lu.rd.keepW w2 fm3 nNo, lu.le, lu.dl⟩ (by omega) (by omega) hg0).use ?_
    rintro _ h4 w4 ⟨dn, _, rfl, ldn, -, fm4⟩
    have fm4h := fm3h.trans fm4 fun _ _ f => f
    have r0 := (rd_mk (fm4h.keep w ga (fun f => f)) (i := oa)).trans a0
    have q0 := (rd_mk (fm4h.keep w gb (fun f => f)) (i := ob)).trans b0
    simp +contextual (disch := omega) only [↓AM, ↓AV, AP, CQ, r0, q0, bne]
    have xa4 := xa.keep w fm4h
    refine (c_setS (decide (z < 0)) (xa4.le (o' := 0) (by omega)) (lup.keep w3 fm4)).use ?_
    rintro _ h5 w5 ⟨rfl, wr5, n5, -⟩
    simp +contextual (disch := omega) only [↓AM, ↓AV, AP, CQ]
    have xa5 := xa4.wr w4 wr5
    refine (c_set xa5 (ldn.wr w4 wr5 xa4.sf)).use ?_
    rintro _ h6 w6 ⟨rfl, wr6, n6, sm⟩
    simp +contextual (disch := omega) only [↓AM, ↓AV, AP, CQ]
    refine ⟨((Wr.of (F := fun y => y = bx) w fm4h).trans w w4 wr5 fun _ _ f => f).trans w w5 wr6 fun _ _ f => f, by rw [← hdiv]; exact n5.same w5 wr6 (sm 0 (by omega) (by omega)) (sm 1 (by omega) (by omega)), n6⟩
  · have e0 : ((0 : Int) < ((dg k).length : Int)) = True := eq_true (by have := dg_pos.2 hk0; omega)
    simp +contextual (disch := omega) only [↓AM, ↓AV, AP, CQ, e0]
    refine (c_divG lu lv (by omega) (by omega) hk0).use ?_
    rintro _ h3 w3 ⟨qu, rm, rfl, -, lrm, fm3⟩
    simp +contextual (disch := omega) only [↓AM, ↓AV, AP, CQ]
    refine ⟨x % k, Nat.mod_lt _ hk0, w3, fm2.trans fm3 fun _ _ f => f, k, _, _, Nat.le_trans (dg_mono (Nat.le_of_lt (Nat.mod_lt _ hk0))) hk, hk, ?_, ⟨av, cv, rfl, lv.rd.keepW w2 fm3 nNo, lv.le, lv.dl⟩, lrm, rfl⟩
    rw [← hgc, Nat.gcd_comm x k, Nat.gcd_rec k x, Nat.gcd_comm]
theorem tdiv_sgn (a b : Int) : (if (decide (a < 0) != decide (b < 0)) then -((a.natAbs / b.natAbs : Nat) : Int) else ((a.natAbs / b.natAbs : Nat) : Int)) = a.tdiv b ∧ (if decide (a < 0) then -((a.natAbs % b.natAbs : Nat) : Int) else ((a.natAbs % b.natAbs : Nat) : Int)) = a.tmod b := by
  have key : ∀ n m : Nat, (n : Int).tdiv (m : Int) = ((n / m : Nat) : Int) ∧ (n : Int).tmod (m : Int) = ((n % m : Nat) : Int) := fun n m => ⟨rfl, rfl⟩
  have ab : ∀ k : Nat, ((k : Nat) : Int).natAbs = k := fun k => by omega
  have pos : ∀ k : Nat, ¬ ((k : Int) < 0) := fun k => by omega
  by_cases ha : a < 0 <;> by_cases hb : b < 0
  · obtain ⟨n, rfl⟩ : ∃ n : Nat, a = -(n : Int) := ⟨a.natAbs, by omega⟩
    obtain ⟨m, rfl⟩ : ∃ m : Nat, b = -(m : Int) := ⟨b.natAbs, by omega⟩
    rw [decide_eq_true ha, decide_eq_true hb, Int.natAbs_neg, Int.natAbs_neg, ab, ab, Int.neg_tdiv, Int.tdiv_neg, Int.neg_neg, Int.neg_tmod, Int.tmod_neg, (key n m).1, (key n m).2]
    exact ⟨rfl, rfl⟩
  · obtain ⟨n, rfl⟩ : ∃ n : Nat, a = -(n : Int) := ⟨a.natAbs, by omega⟩
    obtain ⟨m, rfl⟩ : ∃ m : Nat, b = (m : Int) := ⟨b.natAbs, by omega⟩
    rw [decide_eq_true ha, decide_eq_false hb, Int.natAbs_neg, ab, ab, Int.neg_tdiv, Int.neg_tmod, (key n m).1, (key n m).2]
    exact ⟨rfl, rfl⟩
  · obtain ⟨n, rfl⟩ : ∃ n : Nat, a = (n : Int) := ⟨a.natAbs, by omega⟩
    obtain ⟨m, rfl⟩ : ∃ m : Nat, b = -(m : Int) := ⟨b.natAbs, by omega⟩
    rw [decide_eq_false ha, decide_eq_true hb, Int.natAbs_neg, ab, ab, Int.tdiv_neg, Int.tmod_neg, (key n m).1, (key n m).2]
    exact ⟨rfl, rfl⟩
  · obtain ⟨n, rfl⟩ : ∃ n : Nat, a = (n : Int) := ⟨a.natAbs, by omega⟩
    obtain ⟨m, rfl⟩ : ∃ m : Nat, b = (m : Int) := ⟨b.natAbs, by omega⟩
    rw [decide_eq_false ha, decide_eq_false hb, ab, ab, (key n m).1, (key n m).2]
    exact ⟨rfl, rfl⟩
theorem c_QuoRemG {h : Hp} {bx ox ba oa bb ob br or' : Nat} {x y : Int} (xa : XAt h bx ox) (ra : XAt h br or') (hne : bx ≠ br) (na : IntAt h ba oa x) (nb : IntAt h bb ob y) (hx : (dg x.natAbs).length ≤ 100000) (hy0 : y ≠ 0) (hy : (dg y.natAbs).length ≤ 100000) :
    ACalls Try.prog 120 [.pointer (some ⟨bx, ox, none⟩), .pointer (some ⟨ba, oa, none⟩), .pointer (some ⟨bb, ob, none⟩), .pointer (some ⟨br, or', none⟩)] h fun r h' =>
      r = .tuple #[.pointer (some ⟨bx, ox, none⟩), .pointer (some ⟨br, or', none⟩)] ∧ Wr (fun y => y = bx ∨ y = br) h h' ∧ IntAt h' bx ox (x.tdiv y) ∧ IntAt h' br or' (x.tmod y) := by
  refine num_Int__QuoRem_ok.snd hm rfl fun w => ?_
  rw [WF_eq, num_Int__QuoRem]
  obtain ⟨ca, a, c, ga, sa, a0, a1, la⟩ := na
  obtain ⟨cb, b, d, gb, sb, b0, b1, lb⟩ := nb
  have r0 := (rd_mk ga (i := oa)).trans a0
  have r1 := (rd_mk ga (i := oa + 1)).trans a1
  have q0 := (rd_mk gb (i := ob)).trans b0
  have q1 := (rd_mk gb (i := ob + 1)).trans b1
  obtain ⟨t1, t2⟩ := tdiv_sgn x y
  simp +contextual (disch := omega) only [↓AM, ↓AV, AP, CQ, r0, r1, q0, q1]
  refine (c_divG la lb hx hy (by omega)).use ?_
  rintro _ h1 w1 ⟨u, v, rfl, lu, lv, fm⟩
  have r1 := (rd_mk (fm.keep w ga (fun f => f)) (i := oa + 1)).trans a1
  have q1 := (rd_mk (fm.keep w gb (fun f => f)) (i := ob + 1)).trans b1
  simp +contextual (disch := omega) only [↓AM, ↓AV, AP, CQ, r1, q1]
  have ra1 := ra.keep w fm
  have xa1 := xa.keep w fm
  refine (c_setS (decide (x < 0)) ra1 lv).use ?_
  rintro _ h2 w2 ⟨rfl, wr, n, -⟩
  rw [t2] at n
  simp +contextual (disch := omega) only [↓AM, ↓AV, AP, CQ]
  have xa2 := xa1.wr w1 wr
  refine (c_setS (decide (x < 0) != decide (y < 0)) xa2 (lu.wr w1 wr ra1.sf)).use ?_
  rintro _ h3 w3 ⟨rfl, wr3, n3, -⟩
  rw [t1] at n3
  simp +contextual (disch := omega) only [↓AM, ↓AV, AP, CQ]
  refine ⟨((Wr.of (F := fun y => y = bx ∨ y = br) w fm).trans w w1 wr fun _ _ f => .inr f).trans w w2 wr3 fun _ _ f => .inl f, n3, n.wr w2 wr3 xa2.sf (fun e => hne e.symm)⟩
theorem c_SignG {h : Hp} {b o : Nat} {z : Int} (n : IntAt h b o z) :
    ACalls Try.prog 114 [.pointer (some ⟨b, o, none⟩)] h fun r h' => r = .int .i64 (sgnZ z) ∧ h' = h := by
  refine num_Int__Sign_ok.snd hm rfl fun w => ?_
  rw [WF_eq, num_Int__Sign]
  have r0 := n.r0
  obtain ⟨a, c, r1, la⟩ := n.r1
  by_cases hz : z = 0
  · have e0 : EqI ((dg z.natAbs).length : Int) 0 = True := eq_true (by rw [hz]; show EqI ((dg 0).length : Int) 0; rw [dg_0]; rfl)
    simp +contextual (disch := omega) only [↓AM, ↓AV, AP, CQ, r1, e0]
    rw [hz]; rfl
  · have e0 : EqI ((dg z.natAbs).length : Int) 0 = False := eq_false (by have := dg_pos.2 (show 0 < z.natAbs by omega); unfold EqI; omega)
    by_cases hn : z < 0
    · have e1 : decide (z < 0) = true := decide_eq_true hn
      rw [e1] at r0
      simp +contextual (disch := omega) only [↓AM, ↓AV, AP, CQ, r1, r0, e0]
      unfold sgnZ
      rw [if_pos hn]
    · have e1 : decide (z < 0) = false := decide_eq_false hn
      rw [e1] at r0
      simp +contextual (disch := omega) only [↓AM, ↓AV, AP, CQ, r1, r0, e0]
      unfold sgnZ
      rw [if_neg hn, if_neg hz]
theorem c_lowS {h : Hp} {b o x : Nat} {z : Int} (n : IntAt h b o z) (hzx : z.natAbs = x) (hx : x < 18446744073709551616) :
    ACalls Try.prog 119 [.pointer (some ⟨b, o, none⟩)] h fun r h' => r = .int .u64 (x : Int) ∧ h' = h := by
  refine num_Int__low_ok.snd hm rfl fun w => ?_
  rw [WF_eq, num_Int__low]
  obtain ⟨a, c, r1, la⟩ := n.r1
  rw [hzx] at r1 la
  have hlen : (dg x).length ≤ 2 := by
    rcases Nat.lt_or_ge 2 (dg x).length with h | h
    · exfalso
      have h1 := vL_ge b32 (dig_nz (hB := b32) x) (by intro e; rw [show dg x = [] from e] at h; simp at h)
      rw [show vL B32 (dig B32 b32 x) = x from dg_val x] at h1
      have h2 : B32 ^ 2 ≤ B32 ^ ((dig B32 b32 x).length - 1) := Nat.pow_le_pow_right (by decide) (by show 2 ≤ (dg x).length - 1; omega)
      have : B32 ^ 2 = 18446744073709551616 := by decide
      omega
    · exact h
  have emn : intMin [.int .i64 2, .int .i64 ((dg x).length : Int)] = some (.int .i64 ((dg x).length : Int)) := by
    have : (dg x).length = 0 ∨ (dg x).length = 1 ∨ (dg x).length = 2 := by omega
    rcases this with e | e | e <;> rw [e] <;> rfl
  simp +contextual (disch := omega) only [↓AM, ↓AV, AP, CQ, i64, r1, emn]
  refine WL.mk (fun k t h' => h' = h ∧ k ≤ (dg x).length ∧ t = [(0, some (.pointer (some ⟨b, o, none⟩))), (3, some (.int .u64 ((vL B32 ((dg x).drop k) : Nat) : Int))), (4, some (.int .i64 ((k : Int) - 1)))]) ⟨(dg x).length, rfl, Nat.le_refl _, by rw [List.drop_eq_nil_of_le (Nat.le_refl _)]; rfl⟩ ?_
  rintro k t hh ⟨rfl, hk, rfl⟩
  cases k with
  | zero =>
    have e2 : ((0 : Int) ≤ ((0 : Nat) : Int) - 1) = False := by simp
    simp +contextual (disch := omega) only [↓AM, ↓AV, AP, CQ, i64, e2, List.drop_zero]
    rw [dg_val]
  | succ k =>
    have hk1 : k < (dg x).length := by omega
    obtain ⟨b1, o1, s1, p, rfl, f1, hp, r2⟩ := la.rd.nat hk1
    have hpl : p < 4294967296 := la.dl.at hp
    have hvl : vL B32 ((dg x).drop (k + 1)) < 4294967296 := by
      have h1 := vL_lt (B := B32) (l := (dg x).drop (k + 1)) fun d hd => dg_dl x d (List.mem_of_mem_drop hd)
      rw [List.length_drop] at h1
      have h2 : B32 ^ ((dg x).length - (k + 1)) ≤ B32 ^ 1 := Nat.pow_le_pow_right (by decide) (by omega)
      have : B32 ^ 1 = 4294967296 := by decide
      omega
    have ed : vL B32 ((dg x).drop k) = vL B32 ((dg x).drop (k + 1)) * 4294967296 + p := by
      rw [List.drop_eq_getElem_cons hk1]
      rw [List.getElem?_eq_getElem hk1] at hp
      rw [Option.some.inj hp, vL]
      show p + 4294967296 * _ = _
      omega
    generalize vL B32 ((dg x).drop (k + 1)) = v at *
    have eor := or_32 hvl hpl
    simp +contextual (disch := omega) only [↓AM, ↓AV, AP, CQ, CN, i64, u64, f1, r1, r2, hk1, eor]
    exact ⟨k, by omega, by omega, by rw [ed]⟩
theorem c_Int64G {h : Hp} {b o : Nat} {z : Int} (n : IntAt h b o z) (hz : -9223372036854775807 ≤ z ∧ z ≤ 9223372036854775807) :
    ACalls Try.prog 97 [.pointer (some ⟨b, o, none⟩)] h fun r h' => r = .int .i64 z ∧ h' = h := by
  refine num_Int__Int64_ok.snd hm rfl fun w => ?_
  rw [WF_eq, num_Int__Int64]
  have r0 := n.r0
  by_cases hn : z < 0
  · have e1 : decide (z < 0) = true := decide_eq_true hn
    rw [e1] at r0
    simp +contextual (disch := omega) only [↓AM, ↓AV, AP, CQ, r0]
    refine (c_lowS n rfl (by omega)).use ?_
    rintro _ _ w2 ⟨rfl, rfl⟩
    have e2 : 0 - (z.natAbs : Int) = z := by omega
    simp +contextual (disch := omega) only [↓AM, ↓AV, AP, CQ, i64, e2]
  · have e1 : decide (z < 0) = false := decide_eq_false hn
    rw [e1] at r0
    simp +contextual (disch := omega) only [↓AM, ↓AV, AP, CQ, r0]
    refine (c_lowS n rfl (by omega)).use ?_
    rintro _ _ w2 ⟨rfl, rfl⟩
    have e2 : (z.natAbs : Int) = z := by omega
    simp +contextual (disch := omega) only [↓AM, ↓AV, AP, CQ, i64, e2]
theorem c_IsInt64 {h : Hp} {b o : Nat} {z : Int} (n : IntAt h b o z) (hl : (dg z.natAbs).length ≤ 100000) :
    ACalls Try.prog 96 [.pointer (some ⟨b, o, none⟩)] h fun r h' => r = .bool (decide (-9223372036854775808 ≤ z ∧ z ≤ 9223372036854775807)) ∧ h' = h := by
  refine num_Int__IsInt64_ok.snd hm rfl fun w => ?_
  rw [WF_eq, num_Int__IsInt64]
  have r0 := n.r0
  obtain ⟨a, c, r1, la⟩ := n.r1
  by_cases hl2 : (2 : Int) < ((dg z.natAbs).length : Int)
  · have hbig : 18446744073709551616 ≤ z.natAbs := by
      refine Nat.le_of_not_lt fun hh => ?_
      have := dg_len (x := z.natAbs) (k := 2) (Nat.lt_of_lt_of_le hh (by decide))
      omega
    simp +contextual (disch := omega) only [↓AM, ↓AV, AP, CQ, r1, hl2]
    rw [decide_eq_false (by omega)]
  · have hsm : z.natAbs < 18446744073709551616 := by
      have := dg_len_lt (x := z.natAbs) (n := 2) (by omega)
      exact Nat.lt_of_lt_of_le this (by decide)
    simp +contextual (disch := omega) only [↓AM, ↓AV, AP, CQ, r1, hl2]
    refine (c_lowS n rfl hsm).use ?_
    rintro _ _ w2 ⟨rfl, rfl⟩
    by_cases h1 : (z.natAbs : Int) < 9223372036854775808
    · simp +contextual (disch := omega) only [↓AM, ↓AV, AP, CQ, h1]
      rw [decide_eq_true (by omega)]
    · by_cases hn : z < 0
      · have e1 : decide (z < 0) = true := decide_eq_true hn
        rw [e1] at r0
        simp +contextual (disch := omega) only [↓AM, ↓AV, AP, CQ, h1, r0]
        exact congrArg Value.bool (decide_eq_decide.2 (by unfold EqI; omega))
      · have e1 : decide (z < 0) = false := decide_eq_false hn
        rw [e1] at r0
        simp +contextual (disch := omega) only [↓AM, ↓AV, AP, CQ, h1, r0]
        rw [decide_eq_false (by omega)]
end Go.Proofs.Ytbfbgkhlngkifaa.Nu

/- Rates, days, samples' checks. Plain theorems over the abstract machine.
   Conditions: none. -/
namespace Go.Proofs.Ytbfbgkhlngkifaa.Md
open Go Go.RowKit Go.Proofs.Ytbfbgkhlngkifaa.Am Go.Proofs.Ytbfbgkhlngkifaa.Af
set_option linter.unusedVariables false
set_option linter.unusedSimpArgs false
set_option maxRecDepth 20000
set_option maxHeartbeats 1000000

theorem c_mwithin {h : Hp} {n a b : Int} : ACalls Try.prog 45 [.int .i64 n, .int .i64 a, .int .i64 b] h fun v h' => v = .bool (decide (a ≤ n ∧ n ≤ b)) ∧ h' = h := by
  refine model_within_ok.snd hm rfl fun w => ?_
  rw [WF_eq, model_within]
  simp +contextual only [↓AM, ↓AV, AP]
  exact ⟨fun h => by simp [h], fun h => by simp [h]⟩
theorem c_cwithin {h : Hp} {n a b : Int} : ACalls Try.prog 30 [.int .i64 n, .int .i64 a, .int .i64 b] h fun v h' => v = .bool (decide (a ≤ n ∧ n ≤ b)) ∧ h' = h := by
  refine code_within_ok.snd hm rfl fun w => ?_
  rw [WF_eq, code_within]
  simp +contextual only [↓AM, ↓AV, AP]
  exact ⟨fun h => by simp [h], fun h => by simp [h]⟩
theorem c_tick {h : Hp} {n : Int} : ACalls Try.prog 79 [.int .i64 n] h fun v h' => v = .bool (decide (-1099511627776 ≤ n ∧ n ≤ 1099511627776)) ∧ h' = h := by
  refine model_tick_ok.snd hm rfl fun w => ?_
  rw [WF_eq, model_tick]
  simp +contextual only [↓AM, ↓AV, AP]
  refine c_mwithin.use ?_
  rintro _ _ w1 ⟨rfl, rfl⟩
  simp +contextual only [↓AM, ↓AV, AP]

/-! ### rates -/
def okR (F : Int) (D : Bool) : Prop := (1 ≤ F ∧ F ≤ 60) ∧ (D = true → F = 30 ∨ F = 60)
instance (F : Int) (D : Bool) : Decidable (okR F D) := by unfold okR; infer_instance
def chkR (F : Int) (D : Bool) : Int := if okR F D then 0 else 1
abbrev rateV (F : Int) (D : Bool) : Value := .agg #[.int .i64 F, .bool D]
def missN (F : Int) (D : Bool) : Int := if D then F / 15 else 0
theorem c_chk {h : Hp} {F : Int} {D : Bool} : ACalls Try.prog 21 [rateV F D] h fun v h' => v = .int .i64 (chkR F D) ∧ Fm No h h' := by
  refine code_Check_ok.snd hm rfl fun w => ?_
  rw [WF_eq, code_Check, rateV]
  simp +contextual only [↓AM, ↓AV, AP]
  refine c_cwithin.use ?_
  rintro _ _ w1 ⟨rfl, rfl⟩
  by_cases h1 : 1 ≤ F ∧ F ≤ 60
  case neg =>
    simp +contextual only [↓AM, ↓AV, AP, h1]
    exact ⟨by simp [chkR, okR, h1], Fm.new Fm.refl⟩
  cases D
  · simp +contextual only [↓AM, ↓AV, AP, h1]
    exact ⟨by simp [chkR, okR, h1], Fm.new Fm.refl⟩
  simp +contextual only [↓AM, ↓AV, AP, h1]
  · refine ⟨fun a => ⟨fun b => ⟨?_, Fm.new Fm.refl⟩, fun b => ⟨?_, Fm.new Fm.refl⟩⟩, fun a => ⟨?_, Fm.new Fm.refl⟩⟩ <;> simp only [EqI] at * <;> simp_all [chkR, okR]
theorem c_dropped {h : Hp} {F : Int} {D : Bool} (hF : 1 ≤ F ∧ F ≤ 60) : ACalls Try.prog 69 [rateV F D] h fun v h' => v = .int .i64 (missN F D) ∧ Fm No h h' := by
  refine code_steps__dropped_ok.snd hm rfl fun w => ?_
  rw [WF_eq, code_steps__dropped, rateV]
  have e1 : F.tdiv 15 = F / 15 := Int.tdiv_eq_ediv_of_nonneg (by omega)
  cases D <;> simp +contextual (disch := omega) only [↓AM, ↓AV, AP, CQ, i64, e1]
  · exact ⟨rfl, Fm.new Fm.refl⟩
  · exact ⟨by decide, rfl, Fm.new Fm.refl⟩
theorem miss_b {F : Int} (D : Bool) (hF : 1 ≤ F ∧ F ≤ 60) : 0 ≤ missN F D ∧ missN F D ≤ 4 := by unfold missN; split <;> omega
theorem c_ten {h : Hp} {F : Int} {D : Bool} (hF : 1 ≤ F ∧ F ≤ 60) : ACalls Try.prog 44 [rateV F D] h fun v h' => v = .int .i64 (600 * F - 9 * missN F D) ∧ Fm No h h' := by
  refine code_steps__ten_ok.snd hm rfl fun w => ?_
  rw [WF_eq, code_steps__ten, rateV]
  simp +contextual (disch := omega) only [↓AM, ↓AV, AP, CQ, i64]
  refine (c_dropped hF).use ?_
  rintro _ h1 w1 ⟨rfl, fm⟩
  have hd := miss_b D hF
  simp +contextual (disch := omega) only [↓AM, ↓AV, AP, CQ, i64]
  refine ⟨rd_mk (fm.keep w.new gnew id), ?_⟩
  exact (Fm.new Fm.refl).trans fm fun _ _ => id
theorem c_day {h : Hp} {F : Int} {D : Bool} (hF : 1 ≤ F ∧ F ≤ 60) : ACalls Try.prog 22 [rateV F D] h fun v h' => v = .int .i64 (144 * (600 * F - 9 * missN F D)) ∧ Fm No h h' := by
  refine code_steps__day_ok.snd hm rfl fun w => ?_
  rw [WF_eq, code_steps__day, rateV]
  simp +contextual (disch := omega) only [↓AM, ↓AV, AP, CQ, i64]
  refine (c_ten hF).use ?_
  rintro _ h1 w1 ⟨rfl, fm⟩
  have hd := miss_b D hF
  simp +contextual (disch := omega) only [↓AM, ↓AV, AP, CQ, i64]
  exact (Fm.new Fm.refl).trans fm fun _ _ => id
def hourN (F d : Int) : Nat → Int
  | 0 => 0
  | i + 1 => hourN F d i + (60 * F - if (i : Int) % 10 = 0 then 0 else d)
theorem hourN_b {F d : Int} (hF : 1 ≤ F ∧ F ≤ 60) (hd : 0 ≤ d ∧ d ≤ 4) : ∀ i : Nat, 0 ≤ hourN F d i ∧ hourN F d i ≤ 3600 * (i : Int)
  | 0 => by simp [hourN]
  | i + 1 => by
    have := hourN_b hF hd i
    unfold hourN
    split <;> omega
theorem hourN_60 {F d : Int} : hourN F d 60 = 3600 * F - 54 * d := by
  simp [hourN]
  omega
end Go.Proofs.Ytbfbgkhlngkifaa.Md

/- Fractions multiplied and divided; whole numbers divided. Plain theorems over the abstract machine.
   Conditions: none. -/
namespace Go.Proofs.Ytbfbgkhlngkifaa.Nu
open Go Go.RowKit Go.Proofs.Ytbfbgkhlngkifaa.Am Go.Proofs.Ytbfbgkhlngkifaa.Af Go.Proofs.Ytbfbgkhlngkifaa.Md
set_option linter.unusedVariables false
set_option linter.unusedSimpArgs false
set_option linter.defProp false
set_option maxRecDepth 20000
set_option maxHeartbeats 1000000

theorem c_Set {h : Hp} {bx ox ba oa x : Nat} (xa : XAt h bx ox) (na : NatAt h ba oa x) (hx : (dg x).length ≤ 400000) :
    ACalls Try.prog 123 [.pointer (some ⟨bx, ox, none⟩), .pointer (some ⟨ba, oa, none⟩)] h fun r h' => r = .pointer (some ⟨bx, ox, none⟩) ∧ Wr (fun y => y = bx) h h' ∧ NatAt h' bx ox x := by
  refine num_Int__Set_ok.snd hm rfl fun w => ?_
  rw [WF_eq, num_Int__Set]
  obtain ⟨ca, a, c, ga, sa, a0, a1, la⟩ := na
  have r0 := (rd_mk ga (i := oa)).trans a0
  have r1 := (rd_mk ga (i := oa + 1)).trans a1
  simp +contextual (disch := omega) only [↓AM, ↓AV, AP, CQ, r0, r1]
  refine (c_clone la (by omega)).use ?_
  rintro _ h1 w1 ⟨l, fm⟩
  have r0 := (rd_mk (fm.keep w ga (fun f => f)) (i := oa)).trans a0
  have r1 := (rd_mk (fm.keep w ga (fun f => f)) (i := oa + 1)).trans a1
  simp +contextual (disch := omega) only [↓AM, ↓AV, AP, CQ, r0, r1]
  refine (c_set (xa.keep w fm) l).use ?_
  rintro _ h2 w2 ⟨rfl, wr, n, -⟩
  simp +contextual (disch := omega) only [↓AM, ↓AV, AP, CQ]
  exact ⟨(Wr.of (F := fun y => y = bx) w fm).trans w w1 wr fun _ _ f => f, n⟩
theorem RatAt.keep {h h' : Hp} {b p q : Nat} (r : RatAt h b p q) (w : Wf h) (fm : Fm No h h') : RatAt h' b p q := ⟨r.1.keep w fm, r.2.keep w fm⟩
theorem c_QuoR {h : Hp} {bx by' bz p1 q1 p2 q2 : Nat} (xa : XAt h bx 2) (y : RatAt h by' p1 q1) (z : RatAt h bz p2 q2) (h1 : p1 < B32 ^ 2) (h2 : q1 < B32 ^ 2) (h3 : p2 < B32 ^ 2) (h4 : q2 < B32 ^ 2) (hq1 : 0 < q1) (hq2 : 0 < q2) (hp2 : 0 < p2) (hB : q1 * p2 < 4294967296) :
    ACalls Try.prog 112 [.pointer (some ⟨bx, 0, none⟩), .pointer (some ⟨by', 0, none⟩), .pointer (some ⟨bz, 0, none⟩)] h fun r h' => r = .pointer (some ⟨bx, 0, none⟩) ∧ Wr (fun y => y = bx) h h' ∧ RatAt h' bx (p1 * q2 / Nat.gcd (p1 * q2) (q1 * p2)) (q1 * p2 / Nat.gcd (p1 * q2) (q1 * p2)) := by
  refine num_Rat__Quo_ok.snd hm rfl fun w => ?_
  rw [WF_eq, num_Rat__Quo]
  have le4 : ∀ {x}, x < B32 ^ 2 → (dg x).length ≤ 400000 := fun h => dg_len4 (Nat.lt_trans h (by decide))
  have hP : p1 * q2 < B32 ^ 4 := by
    have : p1 * q2 < B32 ^ 2 * B32 ^ 2 := Nat.mul_lt_mul'' h1 h4
    rwa [← Nat.pow_add] at this
  simp +contextual (disch := omega) only [↓AM, ↓AV, AP, CQ]
  refine (c_down z hq2).use ?_
  rintro _ hA w1 ⟨rfl, rfl⟩
  simp +contextual (disch := omega) only [↓AM, ↓AV, AP, CQ]
  refine (c_prod y.1 z.2 (le4 h1) (le4 h4)).use ?_
  rintro _ hB1 w2 ⟨b1, rfl, hb1, n1, fm1⟩
  simp +contextual (disch := omega) only [↓AM, ↓AV, AP, CQ]
  refine (c_down (y.keep w1 fm1) hq1).use ?_
  rintro _ hC w3 ⟨rfl, rfl⟩
  simp +contextual (disch := omega) only [↓AM, ↓AV, AP, CQ]
  refine (c_prod (y.keep w1 fm1).2 (z.keep w1 fm1).1 (le4 h2) (le4 h3)).use ?_
  rintro _ hD w4 ⟨b2, rfl, hb2, n2, fm2⟩
  simp +contextual (disch := omega) only [↓AM, ↓AV, AP, CQ]
  have fm12 := fm1.trans fm2 fun _ _ f => f
  refine (c_SetFrac (xa.keep w1 fm12) (n1.keep w3 fm2) n2 hP (Nat.mul_pos hq1 hp2) hB).use ?_
  rintro _ hE w5 ⟨rfl, wr, rt⟩
  simp +contextual (disch := omega) only [↓AM, ↓AV, AP, CQ]
  exact ⟨(Wr.of (F := fun y => y = bx) w1 fm12).trans w1 w4 wr fun _ _ f => f, rt⟩
theorem c_MulR {h : Hp} {bx by' bz p1 q1 p2 q2 : Nat} (xa : XAt h bx 2) (y : RatAt h by' p1 q1) (z : RatAt h bz p2 q2) (h1 : p1 < B32 ^ 2) (h2 : q1 < B32 ^ 2) (h3 : p2 < B32 ^ 2) (h4 : q2 < B32 ^ 2) (hq1 : 0 < q1) (hq2 : 0 < q2) (hB : q1 * q2 < 4294967296) :
    ACalls Try.prog 61 [.pointer (some ⟨bx, 0, none⟩), .pointer (some ⟨by', 0, none⟩), .pointer (some ⟨bz, 0, none⟩)] h fun r h' => r = .pointer (some ⟨bx, 0, none⟩) ∧ Wr (fun y => y = bx) h h' ∧ RatAt h' bx (p1 * p2 / Nat.gcd (p1 * p2) (q1 * q2)) (q1 * q2 / Nat.gcd (p1 * p2) (q1 * q2)) := by
  refine num_Rat__Mul_ok.snd hm rfl fun w => ?_
  rw [WF_eq, num_Rat__Mul]
  have le4 : ∀ {x}, x < B32 ^ 2 → (dg x).length ≤ 400000 := fun h => dg_len4 (Nat.lt_trans h (by decide))
  have hP : p1 * p2 < B32 ^ 4 := by
    have : p1 * p2 < B32 ^ 2 * B32 ^ 2 := Nat.mul_lt_mul'' h1 h3
    rwa [← Nat.pow_add] at this
  simp +contextual (disch := omega) only [↓AM, ↓AV, AP, CQ]
  refine (c_prod y.1 z.1 (le4 h1) (le4 h3)).use ?_
  rintro _ hB1 w2 ⟨b1, rfl, hb1, n1, fm1⟩
  simp +contextual (disch := omega) only [↓AM, ↓AV, AP, CQ]
  refine (c_down (y.keep w fm1) hq1).use ?_
  rintro _ hC w3 ⟨rfl, rfl⟩
  simp +contextual (disch := omega) only [↓AM, ↓AV, AP, CQ]
  refine (c_down (z.keep w fm1) hq2).use ?_
  rintro _ hC' w3' ⟨rfl, rfl⟩
  simp +contextual (disch := omega) only [↓AM, ↓AV, AP, CQ]
  refine (c_prod (y.keep w fm1).2 (z.keep w fm1).2 (le4 h2) (le4 h4)).use ?_
  rintro _ hD w4 ⟨b2, rfl, hb2, n2, fm2⟩
  simp +contextual (disch := omega) only [↓AM, ↓AV, AP, CQ]
  have fm12 := fm1.trans fm2 fun _ _ f => f
  refine (c_SetFrac (xa.keep w fm12) (n1.keep w3' fm2) n2 hP (Nat.mul_pos hq1 hq2) hB).use ?_
  rintro _ hE w5 ⟨rfl, wr, rt⟩
  simp +contextual (disch := omega) only [↓AM, ↓AV, AP, CQ]
  exact ⟨(Wr.of (F := fun y => y = bx) w fm12).trans w w4 wr fun _ _ f => f, rt⟩
theorem NatAt.r0 {h : Hp} {b o x : Nat} (n : NatAt h b o x) : h.rd b o = some (.bool false) := by
  obtain ⟨cs, oa, c, h1, h2, h3, h4, h5⟩ := n
  exact (rd_mk h1).trans h3
theorem NatAt.r1 {h : Hp} {b o x : Nat} (n : NatAt h b o x) : ∃ oa c, h.rd b (o + 1) = some (.slice oa (dg x).length c) ∧ Lm h oa (dg x).length c (dg x) := by
  obtain ⟨cs, oa, c, h1, h2, h3, h4, h5⟩ := n
  exact ⟨oa, c, (rd_mk h1).trans h4, h5⟩
theorem c_Div {h : Hp} {bx ox ba oa bb ob x y : Nat} (xa : XAt h bx ox) (na : NatAt h ba oa x) (nb : NatAt h bb ob y) (hx : x < B32 ^ 4) (hy0 : 0 < y) (hy : y < 4294967296) :
    ACalls Try.prog 98 [.pointer (some ⟨bx, ox, none⟩), .pointer (some ⟨ba, oa, none⟩), .pointer (some ⟨bb, ob, none⟩)] h fun r h' => r = .pointer (some ⟨bx, ox, none⟩) ∧ Wr (fun y => y = bx) h h' ∧ NatAt h' bx ox (x / y) := by
  refine num_Int__Div_ok.snd hm rfl fun w => ?_
  rw [WF_eq, num_Int__Div]
  simp +contextual (disch := omega) only [↓AM, ↓AV, AP, CQ]
  refine (c_newI (v := 1) (by decide)).use ?_
  rintro _ h1 w1 ⟨b1, rfl, hb1, n1, fm1⟩
  have nb1 := nb.keep w fm1
  have na1 := na.keep w fm1
  have xa1 := xa.keep w fm1
  have r0 := nb1.r0
  simp +contextual (disch := omega) only [↓AM, ↓AV, AP, CQ, r0]
  have fm2 : Fm No h1 (h1.new ⟨[.bool false, .slice none 0 0], .own⟩) := Fm.new Fm.refl
  have hlt := xa1.lt w1
  refine (c_QuoRem (xa1.keep w1 fm2) (x_new (o := 0) (by decide)) (by omega) (na1.keep w1 fm2) (nb1.keep w1 fm2) (dg_len4 hx) hy0 hy).use ?_
  rintro _ h3 w3 ⟨rfl, wr, n3, n4⟩
  have r0 := n4.r0
  simp +contextual (disch := omega) only [↓AM, ↓AV, AP, CQ, r0]
  exact ⟨(Wr.of (F := fun y => y = bx) w (fm1.trans fm2 fun _ _ f => f)).trans w w1.new wr fun z hz f => f.elim id fun e => by have := fm1.size; omega, n3⟩
theorem c_Mod {h : Hp} {bx ox ba oa bb ob x y : Nat} (xa : XAt h bx ox) (na : NatAt h ba oa x) (nb : NatAt h bb ob y) (hx : x < B32 ^ 4) (hy0 : 0 < y) (hy : y < 4294967296) :
    ACalls Try.prog 101 [.pointer (some ⟨bx, ox, none⟩), .pointer (some ⟨ba, oa, none⟩), .pointer (some ⟨bb, ob, none⟩)] h fun r h' => r = .pointer (some ⟨bx, ox, none⟩) ∧ Wr (fun y => y = bx) h h' ∧ NatAt h' bx ox (x % y) := by
  refine num_Int__Mod_ok.snd hm rfl fun w => ?_
  rw [WF_eq, num_Int__Mod]
  obtain ⟨a, c, r1, lb⟩ := nb.r1
  simp +contextual (disch := omega) only [↓AM, ↓AV, AP, CQ, r1]
  have fm3 : Fm No h (((h.new ⟨[.bool false, .slice a (dg y).length c], .own⟩).new ⟨[.bool false, .slice none 0 0], .own⟩).new ⟨[.bool false, .slice none 0 0], .own⟩) := Fm.new (Fm.new (Fm.new Fm.refl))
  refine (c_QuoRem ((x_new (o := 0) (by decide)).keep w.new.new (Fm.new Fm.refl)) (x_new (o := 0) (by decide)) (by simp only [size_new]; omega) (na.keep w fm3) (nb.keep w fm3) (dg_len4 hx) hy0 hy).use ?_
  rintro _ h3 w3 ⟨rfl, wr, n3, n4⟩
  have r0 := n4.r0
  have fmT : Fm No h h3 := fm3.trans wr.fm fun z hz f => by
    simp only [size_new] at f
    omega
  simp +contextual (disch := omega) only [↓AM, ↓AV, AP, CQ, r0]
  refine (c_Set (xa.keep w fmT) n4 (dg_len4 (Nat.lt_trans (Nat.mod_lt _ hy0) (Nat.lt_trans hy (by decide))))).use ?_
  rintro _ h4 w4 ⟨rfl, wr4, n5⟩
  simp +contextual (disch := omega) only [↓AM, ↓AV, AP, CQ]
  exact ⟨(Wr.of (F := fun y => y = bx) w fmT).trans w w3 wr4 fun _ _ f => f, n5⟩

/-! ### the program's words -/
theorem c_ratio {h : Hp} {p q : Nat} (hp : (p : Int) ≤ 9223372036854775807) (hq0 : 0 < q) (hq : q < 4294967296) :
    ACalls Try.prog 27 [.int .i64 (p : Int), .int .i64 (q : Int)] h fun r h' => ∃ b, r = .pointer (some ⟨b, 0, none⟩) ∧ h.size ≤ b ∧ RatAt h' b (p / Nat.gcd p q) (q / Nat.gcd p q) ∧ Fm No h h' := by
  refine code_ratio_ok.snd hm rfl fun w => ?_
  rw [WF_eq, code_ratio]
  simp +contextual (disch := omega) only [↓AM, ↓AV, AP, CQ]
  refine (c_NewRat hp hq0 hq).use ?_
  rintro _ h1 w1 ⟨b, rfl, h2, h3, h4⟩
  simp +contextual (disch := omega) only [↓AM, ↓AV, AP, CQ]
  exact ⟨_, rfl, h2, h3, h4⟩
def upN (F : Nat) (D : Bool) : Nat := if D then F * 1000 else F
def dnN (D : Bool) : Nat := if D then 1001 else 1
def rtG (F : Nat) (D : Bool) : Nat := Nat.gcd (upN F D) (dnN D)
theorem c_rate {h : Hp} {F : Nat} {D : Bool} (hF : 1 ≤ F ∧ F ≤ 60) :
    ACalls Try.prog 65 [rateV (F : Int) D] h fun r h' => ∃ b, r = .pointer (some ⟨b, 0, none⟩) ∧ h.size ≤ b ∧ RatAt h' b (upN F D / rtG F D) (dnN D / rtG F D) ∧ Fm No h h' := by
  refine code_steps__rate_ok.snd hm rfl fun w => ?_
  rw [WF_eq, code_steps__rate, rateV]
  have fm : Fm No h (h.new ⟨[.int .i64 (F : Int), .bool D], .own⟩) := Fm.new Fm.refl
  cases D
  · simp +contextual (disch := omega) only [↓AM, ↓AV, AP, CQ, i64]
    refine (c_ratio (p := F) (q := 1) (by omega) (by decide) (by decide)).use ?_
    rintro _ h1 w1 ⟨b, rfl, h2, h3, h4⟩
    simp +contextual (disch := omega) only [↓AM, ↓AV, AP, CQ]
    exact ⟨_, rfl, Nat.le_trans fm.size h2, h3, fm.trans h4 fun _ _ f => f⟩
  · have e : (F : Int) * 1000 = ((F * 1000 : Nat) : Int) := rfl
    simp +contextual (disch := omega) only [↓AM, ↓AV, AP, CQ, i64, e]
    refine (c_ratio (p := F * 1000) (q := 1001) (by omega) (by decide) (by decide)).use ?_
    rintro _ h1 w1 ⟨b, rfl, h2, h3, h4⟩
    simp +contextual (disch := omega) only [↓AM, ↓AV, AP, CQ]
    exact ⟨_, rfl, Nat.le_trans fm.size h2, h3, fm.trans h4 fun _ _ f => f⟩
theorem c_cdown {h : Hp} {b p q : Nat} (r : RatAt h b p q) (hp : p < B32 ^ 4) (hq0 : 0 < q) (hq : q < 4294967296) :
    ACalls Try.prog 63 [.pointer (some ⟨b, 0, none⟩)] h fun v h' => ∃ b', v = .pointer (some ⟨b', 0, none⟩) ∧ h.size ≤ b' ∧ NatAt h' b' 0 (p / q) ∧ Fm No h h' := by
  refine code_down_ok.snd hm rfl fun w => ?_
  rw [WF_eq, code_down]
  simp +contextual (disch := omega) only [↓AM, ↓AV, AP, CQ]
  have fm : Fm No h (h.new ⟨[.bool false, .slice none 0 0], .own⟩) := Fm.new Fm.refl
  have rk := r.keep w fm
  have x0 : XAt (h.new ⟨[.bool false, .slice none 0 0], .own⟩) h.size 0 := x_new (by decide)
  generalize hh : h.new ⟨[.bool false, .slice none 0 0], .own⟩ = h0 at *
  refine c_Num.use ?_
  rintro _ _ w1 ⟨rfl, rfl⟩
  simp +contextual (disch := omega) only [↓AM, ↓AV, AP, CQ]
  refine (c_Denom rk hq0).use ?_
  rintro _ _ w1 ⟨rfl, rfl⟩
  simp +contextual (disch := omega) only [↓AM, ↓AV, AP, CQ]
  refine (c_Div x0 rk.1 rk.2 hp hq0 hq).use ?_
  rintro _ h4 w4 ⟨rfl, wr4, n5⟩
  simp +contextual (disch := omega) only [↓AM, ↓AV, AP, CQ]
  exact ⟨_, rfl, Nat.le_refl _, n5, fm.trans wr4.fm fun x hx f => by subst f; omega⟩
theorem c_modulo {h : Hp} {F : Nat} {D : Bool} {b x : Nat} (hF : 1 ≤ F ∧ F ≤ 60) (n : NatAt h b 0 x) (hx : x < B32 ^ 4) :
    ACalls Try.prog 67 [rateV (F : Int) D, .pointer (some ⟨b, 0, none⟩)] h fun v h' => v = .int .i64 ((x : Int) % (144 * (600 * (F : Int) - 9 * missN F D))) ∧ Fm No h h' := by
  refine code_steps__modulo_ok.snd hm rfl fun w => ?_
  rw [WF_eq, code_steps__modulo, rateV]
  have g : ((h.new ⟨[.int .i64 (F : Int), .bool D], .own⟩).new ⟨[.bool false, .slice none 0 0], .own⟩).rdN h.size 0 2 = some [.int .i64 (F : Int), .bool D] := by
    rw [rdN_keep (get_new (Nat.lt_succ_self _))]; exact rdN_new rfl
  simp +contextual (disch := omega) only [↓AM, ↓AV, AP, CQ, i64, g]
  have hd := miss_b D (F := (F : Int)) (by omega)
  obtain ⟨dn, hdn⟩ : ∃ dn : Nat, 144 * (600 * (F : Int) - 9 * missN F D) = (dn : Int) := ⟨_, (Int.toNat_of_nonneg (by omega)).symm⟩
  have fm0 : Fm No h ((h.new ⟨[.int .i64 (F : Int), .bool D], .own⟩).new ⟨[.bool false, .slice none 0 0], .own⟩) := Fm.new (Fm.new Fm.refl)
  have x0 : XAt ((h.new ⟨[.int .i64 (F : Int), .bool D], .own⟩).new ⟨[.bool false, .slice none 0 0], .own⟩) (h.new ⟨[.int .i64 (F : Int), .bool D], .own⟩).size 0 := x_new (by decide)
  refine (c_day (F := (F : Int)) (by omega)).use ?_
  rintro _ h1 w1 ⟨rfl, fm1⟩
  rw [hdn]
  simp +contextual (disch := omega) only [↓AM, ↓AV, AP, CQ, i64]
  refine (c_newI (v := dn) (by omega)).use ?_
  rintro _ h2 w2 ⟨b2, rfl, hb2, n2, fm2⟩
  simp +contextual (disch := omega) only [↓AM, ↓AV, AP, CQ, i64]
  have fm12 := fm1.trans fm2 fun _ _ f => f
  have fmh := fm0.trans fm12 fun _ _ f => f
  refine (c_Mod (x0.keep w.new.new fm12) (n.keep w fmh) n2 hx (by omega) (by omega)).use ?_
  rintro _ h3 w3 ⟨rfl, wr3, n3⟩
  simp +contextual (disch := omega) only [↓AM, ↓AV, AP, CQ, i64]
  have hlt : x % dn < dn := Nat.mod_lt _ (by omega)
  have hbd : x % dn ≤ 9223372036854775807 := by omega
  refine (c_Int64 n3 hbd).use ?_
  rintro _ _ w4 ⟨rfl, rfl⟩
  generalize hm : x % dn = m at *
  simp +contextual (disch := omega) only [↓AM, ↓AV, AP, CQ, i64]
  refine ⟨by rw [← hm]; rfl, fmh.trans wr3.fm fun z hz f => ?_⟩
  simp only [size_new] at f
  omega
end Go.Proofs.Ytbfbgkhlngkifaa.Nu

/- Fractions of any sign, by value: made, multiplied, added, subtracted, divided, compared. Plain theorems over the abstract machine.
   Conditions: none. -/
namespace Go.Proofs.Ytbfbgkhlngkifaa.Nu
open Go Go.RowKit Go.Proofs.Ytbfbgkhlngkifaa.Am Go.Proofs.Ytbfbgkhlngkifaa.Af Go.Proofs.Ytbfbgkhlngkifaa.Md
set_option linter.unusedVariables false
set_option linter.unusedSimpArgs false
set_option linter.defProp false
set_option maxRecDepth 20000
set_option maxHeartbeats 2000000

/-- In lowest terms. -/
abbrev lwN (z : Int) (d : Nat) : Int := z / ((Nat.gcd z.natAbs d : Nat) : Int)
abbrev lwD (z : Int) (d : Nat) : Nat := d / Nat.gcd z.natAbs d
theorem lw_eq {z z' : Int} {d d' : Nat} (hd : 0 < d) (hd' : 0 < d') (h : z * (d' : Int) = z' * (d : Int)) : lwN z d = lwN z' d' ∧ lwD z d = lwD z' d' := by
  have e := (Rat.normalize_eq_iff (by omega : d ≠ 0) (by omega : d' ≠ 0)).2 h
  rw [Rat.normalize_eq, Rat.normalize_eq] at e
  exact ⟨congrArg Rat.num e, congrArg Rat.den e⟩
theorem lw_pos {z : Int} {d : Nat} (hd : 0 < d) : 0 < lwD z d := Nat.div_pos (Nat.gcd_le_right _ hd) (Nat.gcd_pos_of_pos_right _ hd)
theorem lw_val {z : Int} {d : Nat} (hd : 0 < d) : lwN z d * (d : Int) = z * (lwD z d : Int) := by
  have h1 : ((Nat.gcd z.natAbs d : Nat) : Int) * (z / ((Nat.gcd z.natAbs d : Nat) : Int)) = z := Int.mul_ediv_cancel' (Int.ofNat_dvd_left.2 (Nat.gcd_dvd_left _ _))
  have h2 : Nat.gcd z.natAbs d * (d / Nat.gcd z.natAbs d) = d := Nat.mul_div_cancel' (Nat.gcd_dvd_right _ _)
  unfold lwN lwD
  generalize z / ((Nat.gcd z.natAbs d : Nat) : Int) = N at *
  generalize d / Nat.gcd z.natAbs d = D at *
  generalize Nat.gcd z.natAbs d = g at *
  subst h1
  subst h2
  rw [Int.natCast_mul]
  simp only [Int.mul_comm, Int.mul_left_comm, Int.mul_assoc]
theorem lw_leD {z : Int} {d : Nat} : lwD z d ≤ d := Nat.div_le_self _ _
theorem lw_leN {z : Int} {d : Nat} (hd : 0 < d) : (lwN z d).natAbs ≤ z.natAbs := by
  unfold lwN
  rw [Int.natAbs_ediv_of_dvd (Int.ofNat_dvd_left.2 (Nat.gcd_dvd_left _ _))]
  exact Nat.div_le_self _ _
/-- A fraction by its value. -/
def Rq (h : Hp) (b : Nat) (z : Int) (d : Nat) : Prop := 0 < d ∧ RatI h b (lwN z d) (lwD z d)
theorem Rq.keep {h h' : Hp} {b d : Nat} {z : Int} (r : Rq h b z d) (w : Wf h) (fm : Fm No h h') : Rq h' b z d := ⟨r.1, r.2.keep w fm⟩
theorem Rq.eq {h : Hp} {b d d' : Nat} {z z' : Int} (r : Rq h b z d) (hd : 0 < d') (e : z * (d' : Int) = z' * (d : Int)) : Rq h b z' d' := by
  obtain ⟨h1, h2⟩ := lw_eq r.1 hd e
  exact ⟨hd, h1 ▸ h2 ▸ r.2⟩
theorem Rq.x {h : Hp} {b d : Nat} {z : Int} (r : Rq h b z d) : XAt h b 2 := r.2.2.x
/-- Small enough. -/
abbrev Lim : Nat := B32 ^ 100
theorem Rq.lens {h : Hp} {b d : Nat} {z : Int} (r : Rq h b z d) (h1 : z.natAbs < Lim) (h2 : d < Lim) : (dg (lwN z d).natAbs).length ≤ 100 ∧ (dg (lwD z d)).length ≤ 100 :=
  ⟨dg_len (Nat.lt_of_le_of_lt (lw_leN r.1) h1), dg_len (Nat.lt_of_le_of_lt lw_leD h2)⟩
theorem lim_mul {x y : Nat} (hx : (dg x).length ≤ 100) (hy : (dg y).length ≤ 100) : (dg (x * y)).length ≤ 200 := by
  have h1 := vL_lt (dg_dl x)
  have h2 := vL_lt (dg_dl y)
  rw [dg_val] at h1 h2
  refine dg_len ?_
  have e1 : B32 ^ (dg x).length ≤ B32 ^ 100 := Nat.pow_le_pow_right (by decide) hx
  have e2 : B32 ^ (dg y).length ≤ B32 ^ 100 := Nat.pow_le_pow_right (by decide) hy
  have : x * y < B32 ^ 100 * B32 ^ 100 := Nat.mul_lt_mul'' (by omega) (by omega)
  rwa [← Nat.pow_add] at this
theorem c_prodS {h : Hp} {ba oa bb ob : Nat} {x y : Int} (na : IntAt h ba oa x) (nb : IntAt h bb ob y) (hx : (dg x.natAbs).length ≤ 400000) (hy : (dg y.natAbs).length ≤ 400000) :
    ACalls Try.prog 95 [.pointer (some ⟨ba, oa, none⟩), .pointer (some ⟨bb, ob, none⟩)] h fun r h' => ∃ b, r = .pointer (some ⟨b, 0, none⟩) ∧ h.size ≤ b ∧ IntAt h' b 0 (x * y) ∧ Fm No h h' := by
  refine num_product_ok.snd hm rfl fun w => ?_
  rw [WF_eq, num_product]
  simp +contextual (disch := omega) only [↓AM, ↓AV, AP, CQ]
  have fm : Fm No h (h.new ⟨[.bool false, .slice none 0 0], .own⟩) := Fm.new Fm.refl
  refine (c_MulS (x_new (by decide)) (na.keep w fm) (nb.keep w fm) hx hy).use ?_
  rintro _ h2 w2 ⟨rfl, wr, n⟩
  simp +contextual (disch := omega) only [↓AM, ↓AV, AP, CQ]
  exact ⟨_, rfl, Nat.le_refl _, n, wr_new w wr⟩
theorem c_downI {h : Hp} {b q : Nat} (r : NatAt h b 2 q) (hq : 0 < q) :
    ACalls Try.prog 93 [.pointer (some ⟨b, 0, none⟩)] h fun r h' => r = .pointer (some ⟨b, 2, none⟩) ∧ h' = h := by
  refine num_Rat__down_ok.snd hm rfl fun w => ?_
  rw [WF_eq, num_Rat__down]
  obtain ⟨cb, a, d, gb, sb, b0, b1, lb⟩ := r
  have q1 := (rd_mk gb (i := 3)).trans b1
  have e0 : EqI ((dg q).length : Int) 0 = False := eq_false (by have := dg_pos.2 hq; unfold EqI; omega)
  simp +contextual (disch := omega) only [↓AM, ↓AV, AP, CQ, q1, e0]
theorem ac4 (a b c d : Int) : a * b * (c * d) = a * c * (b * d) := by simp only [Int.mul_comm, Int.mul_left_comm, Int.mul_assoc]
theorem c_RMul {h : Hp} {bx by' bz d1 d2 : Nat} {z1 z2 : Int} (xa : XAt h bx 2) (y : Rq h by' z1 d1) (z : Rq h bz z2 d2) (h1 : z1.natAbs < Lim) (h2 : d1 < Lim) (h3 : z2.natAbs < Lim) (h4 : d2 < Lim) :
    ACalls Try.prog 61 [.pointer (some ⟨bx, 0, none⟩), .pointer (some ⟨by', 0, none⟩), .pointer (some ⟨bz, 0, none⟩)] h fun r h' => r = .pointer (some ⟨bx, 0, none⟩) ∧ Wr (fun y => y = bx) h h' ∧ Rq h' bx (z1 * z2) (d1 * d2) := by
  refine num_Rat__Mul_ok.snd hm rfl fun w => ?_
  rw [WF_eq, num_Rat__Mul]
  obtain ⟨l1, l2⟩ := y.lens h1 h2
  obtain ⟨l3, l4⟩ := z.lens h3 h4
  have p1 := lw_pos (z := z1) y.1
  have p2 := lw_pos (z := z2) z.1
  have e1 := lw_val (z := z1) y.1
  have e2 := lw_val (z := z2) z.1
  have Y := y.2
  have Z := z.2
  have y0 := y.1
  have z0 := z.1
  clear y z
  generalize lwN z1 d1 = n1 at *
  generalize lwD z1 d1 = q1 at *
  generalize lwN z2 d2 = n2 at *
  generalize lwD z2 d2 = q2 at *
  simp +contextual (disch := omega) only [↓AM, ↓AV, AP, CQ]
  refine (c_prodS Y.1 Z.1 (by omega) (by omega)).use ?_
  rintro _ hB1 w2 ⟨b1, rfl, hb1, m1, fm1⟩
  simp +contextual (disch := omega) only [↓AM, ↓AV, AP, CQ]
  refine (c_downI (Y.keep w fm1).2 p1).use ?_
  rintro _ hC w3 ⟨rfl, rfl⟩
  simp +contextual (disch := omega) only [↓AM, ↓AV, AP, CQ]
  refine (c_downI (Z.keep w fm1).2 p2).use ?_
  rintro _ hC w4 ⟨rfl, rfl⟩
  simp +contextual (disch := omega) only [↓AM, ↓AV, AP, CQ]
  refine (c_prod (Y.keep w fm1).2 (Z.keep w fm1).2 (by omega) (by omega)).use ?_
  rintro _ hD w5 ⟨b2, rfl, hb2, m2, fm2⟩
  simp +contextual (disch := omega) only [↓AM, ↓AV, AP, CQ]
  have fm12 := fm1.trans fm2 fun _ _ f => f
  have hpl : (dg (n1 * n2).natAbs).length ≤ 50000 := by rw [Int.natAbs_mul]; exact Nat.le_trans (lim_mul l1 l3) (by decide)
  refine (c_SetFracG (xa.keep w fm12) (m1.keep w4 fm2) m2 hpl (Nat.mul_pos p1 p2) (Nat.le_trans (lim_mul l2 l4) (by decide))).use ?_
  rintro _ hE w6 ⟨rfl, wr, rt⟩
  simp +contextual (disch := omega) only [↓AM, ↓AV, AP, CQ]
  refine ⟨(Wr.of (F := fun y => y = bx) w fm12).trans w w5 wr fun _ _ f => f, ?_⟩
  refine Rq.eq (z := n1 * n2) (d := q1 * q2) ⟨Nat.mul_pos p1 p2, rt⟩ (Nat.mul_pos y0 z0) ?_
  rw [Int.natCast_mul, Int.natCast_mul, ac4, e1, e2, ac4]
theorem c_RCmp {h : Hp} {by' bz d1 d2 : Nat} {z1 z2 : Int} (y : Rq h by' z1 d1) (z : Rq h bz z2 d2) (h1 : z1.natAbs < Lim) (h2 : d1 < Lim) (h3 : z2.natAbs < Lim) (h4 : d2 < Lim) :
    ACalls Try.prog 89 [.pointer (some ⟨by', 0, none⟩), .pointer (some ⟨bz, 0, none⟩)] h fun r h' => r = .int .i64 (cmpZ (z1 * d2) (z2 * d1)) ∧ Fm No h h' := by
  refine num_Rat__Cmp_ok.snd hm rfl fun w => ?_
  rw [WF_eq, num_Rat__Cmp]
  obtain ⟨l1, l2⟩ := y.lens h1 h2
  obtain ⟨l3, l4⟩ := z.lens h3 h4
  have p1 := lw_pos (z := z1) y.1
  have p2 := lw_pos (z := z2) z.1
  have e1 := lw_val (z := z1) y.1
  have e2 := lw_val (z := z2) z.1
  have Y := y.2
  have Z := z.2
  have y0 := y.1
  have z0 := z.1
  clear y z
  generalize lwN z1 d1 = n1 at *
  generalize lwD z1 d1 = q1 at *
  generalize lwN z2 d2 = n2 at *
  generalize lwD z2 d2 = q2 at *
  simp +contextual (disch := omega) only [↓AM, ↓AV, AP, CQ]
  refine (c_downI Z.2 p2).use ?_
  rintro _ hC w3 ⟨rfl, rfl⟩
  simp +contextual (disch := omega) only [↓AM, ↓AV, AP, CQ]
  refine (c_prodS Y.1 Z.2.int (by omega) (by rw [show ((q2 : Nat) : Int).natAbs = q2 by omega]; omega)).use ?_
  rintro _ hB1 w2 ⟨b1, rfl, hb1, m1, fm1⟩
  simp +contextual (disch := omega) only [↓AM, ↓AV, AP, CQ]
  refine (c_downI (Y.keep w3 fm1).2 p1).use ?_
  rintro _ hC w4 ⟨rfl, rfl⟩
  simp +contextual (disch := omega) only [↓AM, ↓AV, AP, CQ]
  refine (c_prodS (Z.keep w3 fm1).1 (Y.keep w3 fm1).2.int (by omega) (by rw [show ((q1 : Nat) : Int).natAbs = q1 by omega]; omega)).use ?_
  rintro _ hD w5 ⟨b2, rfl, hb2, m2, fm2⟩
  simp +contextual (disch := omega) only [↓AM, ↓AV, AP, CQ]
  have k1 : (dg (n1 * (q2 : Int)).natAbs).length ≤ 1000000 := by rw [Int.natAbs_mul, show ((q2 : Nat) : Int).natAbs = q2 by omega]; exact Nat.le_trans (lim_mul l1 l4) (by decide)
  have k2 : (dg (n2 * (q1 : Int)).natAbs).length ≤ 1000000 := by rw [Int.natAbs_mul, show ((q1 : Nat) : Int).natAbs = q1 by omega]; exact Nat.le_trans (lim_mul l3 l2) (by decide)
  refine (c_CmpS (m1.keep w2 fm2) m2 k1 k2).use ?_
  rintro _ hE w6 ⟨rfl, rfl⟩
  simp +contextual (disch := omega) only [↓AM, ↓AV, AP, CQ]
  refine ⟨?_, fm1.trans fm2 fun _ _ f => f⟩
  congr 1
  -- the same order
  have P : (0 : Int) < (d1 : Int) * (d2 : Int) := Int.mul_pos (by omega) (by omega)
  have Q : (0 : Int) < (q1 : Int) * (q2 : Int) := Int.mul_pos (by omega) (by omega)
  have f1 : n1 * (q2 : Int) * ((d1 : Int) * (d2 : Int)) = z1 * (d2 : Int) * ((q1 : Int) * (q2 : Int)) := by
    rw [show n1 * (q2 : Int) * ((d1 : Int) * (d2 : Int)) = (n1 * (d1 : Int)) * ((q2 : Int) * (d2 : Int)) from ac4 _ _ _ _, e1]
    simp only [Int.mul_comm, Int.mul_left_comm, Int.mul_assoc]
  have f2 : n2 * (q1 : Int) * ((d1 : Int) * (d2 : Int)) = z2 * (d1 : Int) * ((q1 : Int) * (q2 : Int)) := by
    have : n2 * (q1 : Int) * ((d1 : Int) * (d2 : Int)) = (n2 * (d2 : Int)) * ((q1 : Int) * (d1 : Int)) := by simp only [Int.mul_comm, Int.mul_left_comm, Int.mul_assoc]
    rw [this, e2]
    simp only [Int.mul_comm, Int.mul_left_comm, Int.mul_assoc]
  have lt1 : n1 * (q2 : Int) < n2 * (q1 : Int) ↔ z1 * (d2 : Int) < z2 * (d1 : Int) := by
    rw [← Int.mul_lt_mul_right P, f1, f2, Int.mul_lt_mul_right Q]
  have eq1 : n1 * (q2 : Int) = n2 * (q1 : Int) ↔ z1 * (d2 : Int) = z2 * (d1 : Int) := by
    rw [← Int.mul_eq_mul_right_iff (Int.ne_of_gt P), f1, f2, Int.mul_eq_mul_right_iff (Int.ne_of_gt Q)]
  unfold cmpZ
  simp only [lt1, eq1]
end Go.Proofs.Ytbfbgkhlngkifaa.Nu

/- Fractions by value: added, subtracted, their signs, made of two numbers, rounded down. Plain theorems over the abstract machine.
   Conditions: none. -/
namespace Go.Proofs.Ytbfbgkhlngkifaa.Nu
open Go Go.RowKit Go.Proofs.Ytbfbgkhlngkifaa.Am Go.Proofs.Ytbfbgkhlngkifaa.Af Go.Proofs.Ytbfbgkhlngkifaa.Md
set_option linter.unusedVariables false
set_option linter.unusedSimpArgs false
set_option linter.defProp false
set_option maxRecDepth 20000
set_option maxHeartbeats 2000000

theorem nabs (x : Nat) : ((x : Nat) : Int).natAbs = x := by omega
theorem len_add {x y : Int} (hx : (dg x.natAbs).length ≤ 200) (hy : (dg y.natAbs).length ≤ 200) : (dg (x + y).natAbs).length ≤ 201 := by
  have h1 := vL_lt (dg_dl x.natAbs)
  have h2 := vL_lt (dg_dl y.natAbs)
  rw [dg_val] at h1 h2
  refine dg_len ?_
  have e1 : B32 ^ (dg x.natAbs).length ≤ B32 ^ 200 := Nat.pow_le_pow_right (by decide) hx
  have e2 : B32 ^ (dg y.natAbs).length ≤ B32 ^ 200 := Nat.pow_le_pow_right (by decide) hy
  have e3 : B32 ^ 201 = B32 ^ 200 * B32 := Nat.pow_succ ..
  have e4 : B32 ^ 200 * 2 ≤ B32 ^ 200 * B32 := Nat.mul_le_mul_left _ (by decide)
  have := Int.natAbs_add_le x y
  rw [e3]
  omega
theorem val_add {n1 n2 z1 z2 q1 q2 d1 d2 : Int} (e1 : n1 * d1 = z1 * q1) (e2 : n2 * d2 = z2 * q2) : (n1 * q2 + n2 * q1) * (d1 * d2) = (z1 * d2 + z2 * d1) * (q1 * q2) := by
  have a1 : n1 * q2 * (d1 * d2) = n1 * d1 * (q2 * d2) := ac4 _ _ _ _
  have a2 : n2 * q1 * (d1 * d2) = n2 * d2 * (q1 * d1) := by rw [Int.mul_comm d1 d2]; exact ac4 _ _ _ _
  rw [Int.add_mul, Int.add_mul, a1, a2, e1, e2]
  simp only [Int.mul_comm, Int.mul_left_comm, Int.mul_assoc]
theorem val_sub {n1 n2 z1 z2 q1 q2 d1 d2 : Int} (e1 : n1 * d1 = z1 * q1) (e2 : n2 * d2 = z2 * q2) : (n1 * q2 - n2 * q1) * (d1 * d2) = (z1 * d2 - z2 * d1) * (q1 * q2) := by
  have a1 : n1 * q2 * (d1 * d2) = n1 * d1 * (q2 * d2) := ac4 _ _ _ _
  have a2 : n2 * q1 * (d1 * d2) = n2 * d2 * (q1 * d1) := by rw [Int.mul_comm d1 d2]; exact ac4 _ _ _ _
  rw [Int.sub_mul, Int.sub_mul, a1, a2, e1, e2]
  simp only [Int.mul_comm, Int.mul_left_comm, Int.mul_assoc]
theorem c_RAdd {h : Hp} {bx by' bz d1 d2 : Nat} {z1 z2 : Int} (xa : XAt h bx 2) (y : Rq h by' z1 d1) (z : Rq h bz z2 d2) (h1 : z1.natAbs < Lim) (h2 : d1 < Lim) (h3 : z2.natAbs < Lim) (h4 : d2 < Lim) :
    ACalls Try.prog 66 [.pointer (some ⟨bx, 0, none⟩), .pointer (some ⟨by', 0, none⟩), .pointer (some ⟨bz, 0, none⟩)] h fun r h' => r = .pointer (some ⟨bx, 0, none⟩) ∧ Wr (fun y => y = bx) h h' ∧ Rq h' bx (z1 * d2 + z2 * d1) (d1 * d2) := by
  refine num_Rat__Add_ok.snd hm rfl fun w => ?_
  rw [WF_eq, num_Rat__Add]
  obtain ⟨l1, l2⟩ := y.lens h1 h2
  obtain ⟨l3, l4⟩ := z.lens h3 h4
  have p1 := lw_pos (z := z1) y.1
  have p2 := lw_pos (z := z2) z.1
  have e1 := lw_val (z := z1) y.1
  have e2 := lw_val (z := z2) z.1
  have Y := y.2
  have Z := z.2
  have y0 := y.1
  have z0 := z.1
  clear y z
  generalize lwN z1 d1 = n1 at *
  generalize lwD z1 d1 = q1 at *
  generalize lwN z2 d2 = n2 at *
  generalize lwD z2 d2 = q2 at *
  simp +contextual (disch := omega) only [↓AM, ↓AV, AP, CQ]
  refine (c_downI Z.2 p2).use ?_
  rintro _ hC w3 ⟨rfl, rfl⟩
  simp +contextual (disch := omega) only [↓AM, ↓AV, AP, CQ]
  refine (c_prodS Y.1 Z.2.int (by omega) (by rw [nabs]; omega)).use ?_
  rintro _ hB1 w2 ⟨b1, rfl, hb1, m1, fm1⟩
  simp +contextual (disch := omega) only [↓AM, ↓AV, AP, CQ]
  refine (c_downI (Y.keep w3 fm1).2 p1).use ?_
  rintro _ hC w4 ⟨rfl, rfl⟩
  simp +contextual (disch := omega) only [↓AM, ↓AV, AP, CQ]
  refine (c_prodS (Z.keep w3 fm1).1 (Y.keep w3 fm1).2.int (by omega) (by rw [nabs]; omega)).use ?_
  rintro _ hD w5 ⟨b2, rfl, hb2, m2, fm2⟩
  simp +contextual (disch := omega) only [↓AM, ↓AV, AP, CQ]
  have fm12 := fm1.trans fm2 fun _ _ f => f
  have k1 : (dg (n1 * (q2 : Int)).natAbs).length ≤ 200 := by rw [Int.natAbs_mul, nabs]; exact lim_mul l1 l4
  have k2 : (dg (n2 * (q1 : Int)).natAbs).length ≤ 200 := by rw [Int.natAbs_mul, nabs]; exact lim_mul l3 l2
  have m1k := m1.keep w2 fm2
  have lt1 := m1.x.lt w2
  refine (c_AddS m1k.x m1k.sgn m2.sgn (by omega) (by omega)).use ?_
  rintro _ hE w6 ⟨rfl, wr, m3⟩
  simp +contextual (disch := omega) only [↓AM, ↓AV, AP, CQ]
  rw [valS_int, valS_int] at m3
  have ff : Fm No _ hE := fm12.trans wr.fm fun x hx f => by subst f; omega
  refine (c_downI (Y.keep w3 ff).2 p1).use ?_
  rintro _ hG w7 ⟨rfl, rfl⟩
  simp +contextual (disch := omega) only [↓AM, ↓AV, AP, CQ]
  refine (c_downI (Z.keep w3 ff).2 p2).use ?_
  rintro _ hG w8 ⟨rfl, rfl⟩
  simp +contextual (disch := omega) only [↓AM, ↓AV, AP, CQ]
  refine (c_prod (Y.keep w3 ff).2 (Z.keep w3 ff).2 (by omega) (by omega)).use ?_
  rintro _ hF w9 ⟨b4, rfl, hb4, m4, fm4⟩
  simp +contextual (disch := omega) only [↓AM, ↓AV, AP, CQ]
  have ff4 := ff.trans fm4 fun _ _ f => f
  refine (c_SetFracG (xa.keep w3 ff4) (m3.keep w6 fm4) m4 (Nat.le_trans (len_add k1 k2) (by decide)) (Nat.mul_pos p1 p2) (Nat.le_trans (lim_mul l2 l4) (by decide))).use ?_
  rintro _ hH w10 ⟨rfl, wr', rt⟩
  simp +contextual (disch := omega) only [↓AM, ↓AV, AP, CQ]
  refine ⟨(Wr.of (F := fun y => y = bx) w3 ff4).trans w3 w9 wr' fun _ _ f => f, ?_⟩
  refine Rq.eq (z := n1 * (q2 : Int) + n2 * (q1 : Int)) (d := q1 * q2) ⟨Nat.mul_pos p1 p2, rt⟩ (Nat.mul_pos y0 z0) ?_
  rw [Int.natCast_mul, Int.natCast_mul]
  exact val_add e1 e2
theorem c_RSub {h : Hp} {bx by' bz d1 d2 : Nat} {z1 z2 : Int} (xa : XAt h bx 2) (y : Rq h by' z1 d1) (z : Rq h bz z2 d2) (h1 : z1.natAbs < Lim) (h2 : d1 < Lim) (h3 : z2.natAbs < Lim) (h4 : d2 < Lim) :
    ACalls Try.prog 64 [.pointer (some ⟨bx, 0, none⟩), .pointer (some ⟨by', 0, none⟩), .pointer (some ⟨bz, 0, none⟩)] h fun r h' => r = .pointer (some ⟨bx, 0, none⟩) ∧ Wr (fun y => y = bx) h h' ∧ Rq h' bx (z1 * d2 - z2 * d1) (d1 * d2) := by
  refine num_Rat__Sub_ok.snd hm rfl fun w => ?_
  rw [WF_eq, num_Rat__Sub]
  obtain ⟨l1, l2⟩ := y.lens h1 h2
  obtain ⟨l3, l4⟩ := z.lens h3 h4
  have p1 := lw_pos (z := z1) y.1
  have p2 := lw_pos (z := z2) z.1
  have e1 := lw_val (z := z1) y.1
  have e2 := lw_val (z := z2) z.1
  have Y := y.2
  have Z := z.2
  have y0 := y.1
  have z0 := z.1
  clear y z
  generalize lwN z1 d1 = n1 at *
  generalize lwD z1 d1 = q1 at *
  generalize lwN z2 d2 = n2 at *
  generalize lwD z2 d2 = q2 at *
  simp +contextual (disch := omega) only [↓AM, ↓AV, AP, CQ]
  refine (c_downI Z.2 p2).use ?_
  rintro _ hC w3 ⟨rfl, rfl⟩
  simp +contextual (disch := omega) only [↓AM, ↓AV, AP, CQ]
  refine (c_prodS Y.1 Z.2.int (by omega) (by rw [nabs]; omega)).use ?_
  rintro _ hB1 w2 ⟨b1, rfl, hb1, m1, fm1⟩
  simp +contextual (disch := omega) only [↓AM, ↓AV, AP, CQ]
  refine (c_downI (Y.keep w3 fm1).2 p1).use ?_
  rintro _ hC w4 ⟨rfl, rfl⟩
  simp +contextual (disch := omega) only [↓AM, ↓AV, AP, CQ]
  refine (c_prodS (Z.keep w3 fm1).1 (Y.keep w3 fm1).2.int (by omega) (by rw [nabs]; omega)).use ?_
  rintro _ hD w5 ⟨b2, rfl, hb2, m2, fm2⟩
  simp +contextual (disch := omega) only [↓AM, ↓AV, AP, CQ]
  have fm12 := fm1.trans fm2 fun _ _ f => f
  have k1 : (dg (n1 * (q2 : Int)).natAbs).length ≤ 200 := by rw [Int.natAbs_mul, nabs]; exact lim_mul l1 l4
  have k2 : (dg (n2 * (q1 : Int)).natAbs).length ≤ 200 := by rw [Int.natAbs_mul, nabs]; exact lim_mul l3 l2
  have m1k := m1.keep w2 fm2
  have lt1 := m1.x.lt w2
  refine (c_SubS m1k.x m1k m2 (by omega) (by omega)).use ?_
  rintro _ hE w6 ⟨rfl, wr, m3⟩
  simp +contextual (disch := omega) only [↓AM, ↓AV, AP, CQ]
  have ff : Fm No _ hE := fm12.trans wr.fm fun x hx f => by subst f; omega
  refine (c_downI (Y.keep w3 ff).2 p1).use ?_
  rintro _ hG w7 ⟨rfl, rfl⟩
  simp +contextual (disch := omega) only [↓AM, ↓AV, AP, CQ]
  refine (c_downI (Z.keep w3 ff).2 p2).use ?_
  rintro _ hG w8 ⟨rfl, rfl⟩
  simp +contextual (disch := omega) only [↓AM, ↓AV, AP, CQ]
  refine (c_prod (Y.keep w3 ff).2 (Z.keep w3 ff).2 (by omega) (by omega)).use ?_
  rintro _ hF w9 ⟨b4, rfl, hb4, m4, fm4⟩
  simp +contextual (disch := omega) only [↓AM, ↓AV, AP, CQ]
  have ff4 := ff.trans fm4 fun _ _ f => f
  refine (c_SetFracG (xa.keep w3 ff4) (m3.keep w6 fm4) m4 (by rw [Int.sub_eq_add_neg]; exact Nat.le_trans (len_add k1 (by rw [Int.natAbs_neg]; exact k2)) (by decide)) (Nat.mul_pos p1 p2) (Nat.le_trans (lim_mul l2 l4) (by decide))).use ?_
  rintro _ hH w10 ⟨rfl, wr', rt⟩
  simp +contextual (disch := omega) only [↓AM, ↓AV, AP, CQ]
  refine ⟨(Wr.of (F := fun y => y = bx) w3 ff4).trans w3 w9 wr' fun _ _ f => f, ?_⟩
  refine Rq.eq (z := n1 * (q2 : Int) - n2 * (q1 : Int)) (d := q1 * q2) ⟨Nat.mul_pos p1 p2, rt⟩ (Nat.mul_pos y0 z0) ?_
  rw [Int.natCast_mul, Int.natCast_mul]
  exact val_sub e1 e2
theorem c_RSign {h : Hp} {b d : Nat} {z : Int} (r : Rq h b z d) :
    ACalls Try.prog 88 [.pointer (some ⟨b, 0, none⟩)] h fun v h' => v = .int .i64 (sgnZ z) ∧ h' = h := by
  refine num_Rat__Sign_ok.snd hm rfl fun w => ?_
  rw [WF_eq, num_Rat__Sign]
  simp +contextual (disch := omega) only [↓AM, ↓AV, AP, CQ]
  refine (c_SignG r.2.1).use ?_
  rintro _ _ w1 ⟨rfl, rfl⟩
  simp +contextual (disch := omega) only [↓AM, ↓AV, AP, CQ]
  congr 1
  have e := lw_val (z := z) r.1
  have p := lw_pos (z := z) r.1
  have d0 := r.1
  unfold sgnZ
  by_cases h1 : z < 0
  · have : lwN z d < 0 := Classical.byContradiction fun q => by
      have a : 0 ≤ lwN z d * (d : Int) := Int.mul_nonneg (by omega) (by omega)
      have b : z * (lwD z d : Int) < 0 := Int.mul_neg_of_neg_of_pos h1 (by omega)
      omega
    rw [if_pos h1, if_pos this]
  · by_cases h2 : z = 0
    · have : lwN z d = 0 := by subst h2; simp [lwN]
      rw [if_neg h1, if_pos h2, if_neg (by omega), if_pos this]
    · have : 0 < lwN z d := Classical.byContradiction fun q => by
        have a : lwN z d * (d : Int) ≤ 0 := Int.mul_nonpos_of_nonpos_of_nonneg (by omega) (by omega)
        have b : 0 < z * (lwD z d : Int) := Int.mul_pos (by omega) (by omega)
        omega
      rw [if_neg h1, if_neg h2, if_neg (by omega), if_neg (by omega)]
theorem c_NewRatG {h : Hp} {z : Int} {d : Nat} (hz : -9223372036854775808 ≤ z ∧ z ≤ 9223372036854775807) (hd0 : 0 < d) (hd : (d : Int) ≤ 9223372036854775807) :
    ACalls Try.prog 68 [.int .i64 z, .int .i64 (d : Int)] h fun r h' => ∃ b, r = .pointer (some ⟨b, 0, none⟩) ∧ h.size ≤ b ∧ Rq h' b z d ∧ Fm No h h' := by
  refine num_NewRat_ok.snd hm rfl fun w => ?_
  rw [WF_eq, num_NewRat]
  simp +contextual (disch := omega) only [↓AM, ↓AV, AP, CQ]
  refine (c_newIS hz).use ?_
  rintro _ h1 w1 ⟨b1, rfl, hb1, n1, fm1⟩
  simp +contextual (disch := omega) only [↓AM, ↓AV, AP, CQ]
  refine (c_newI (v := d) (by omega)).use ?_
  rintro _ h2 w2 ⟨b2, rfl, hb2, n2, fm2⟩
  simp +contextual (disch := omega) only [↓AM, ↓AV, AP, CQ]
  have fm12 := fm1.trans fm2 fun _ _ f => f
  have lz : (dg z.natAbs).length ≤ 50000 := Nat.le_trans (dg_len (k := 2) (Nat.lt_of_lt_of_le (show z.natAbs < 18446744073709551616 by omega) (by decide))) (by decide)
  have ld : (dg d).length ≤ 50000 := Nat.le_trans (dg_len (k := 2) (Nat.lt_of_lt_of_le (show d < 18446744073709551616 by omega) (by decide))) (by decide)
  refine (c_SetFracG (x_new4.keep w.new fm12) (n1.keep w1 fm2) n2 lz hd0 ld).use ?_
  rintro _ h3 w3 ⟨rfl, wr, rt⟩
  simp +contextual (disch := omega) only [↓AM, ↓AV, AP, CQ]
  exact ⟨_, rfl, Nat.le_refl _, ⟨hd0, rt⟩, ((Fm.new Fm.refl).trans fm12 fun _ _ f => f).trans wr.fm fun x hx f => by subst f; omega⟩
theorem c_mrat {h : Hp} {z : Int} {d : Nat} (hz : -9223372036854775808 ≤ z ∧ z ≤ 9223372036854775807) (hd0 : 0 < d) (hd : (d : Int) ≤ 9223372036854775807) :
    ACalls Try.prog 83 [.int .i64 z, .int .i64 (d : Int)] h fun r h' => ∃ b, r = .pointer (some ⟨b, 0, none⟩) ∧ h.size ≤ b ∧ Rq h' b z d ∧ Fm No h h' := by
  refine model_rat_ok.snd hm rfl fun w => ?_
  rw [WF_eq, model_rat]
  simp +contextual (disch := omega) only [↓AM, ↓AV, AP, CQ]
  refine (c_NewRatG hz hd0 hd).use ?_
  rintro _ h1 w1 ⟨b, rfl, h2, h3, h4⟩
  simp +contextual (disch := omega) only [↓AM, ↓AV, AP, CQ]
  exact ⟨_, rfl, h2, h3, h4⟩
theorem c_cratio {h : Hp} {z : Int} {d : Nat} (hz : -9223372036854775808 ≤ z ∧ z ≤ 9223372036854775807) (hd0 : 0 < d) (hd : (d : Int) ≤ 9223372036854775807) :
    ACalls Try.prog 27 [.int .i64 z, .int .i64 (d : Int)] h fun r h' => ∃ b, r = .pointer (some ⟨b, 0, none⟩) ∧ h.size ≤ b ∧ Rq h' b z d ∧ Fm No h h' := by
  refine code_ratio_ok.snd hm rfl fun w => ?_
  rw [WF_eq, code_ratio]
  simp +contextual (disch := omega) only [↓AM, ↓AV, AP, CQ]
  refine (c_NewRatG hz hd0 hd).use ?_
  rintro _ h1 w1 ⟨b, rfl, h2, h3, h4⟩
  simp +contextual (disch := omega) only [↓AM, ↓AV, AP, CQ]
  exact ⟨_, rfl, h2, h3, h4⟩
theorem c_mratOf {h : Hp} {z : Int} {d : Nat} (hz : -9223372036854775808 ≤ z ∧ z ≤ 9223372036854775807) (hd0 : 0 < d) (hd : (d : Int) ≤ 9223372036854775807) :
    ACalls Try.prog 51 [.agg #[.int .i64 z, .int .i64 (d : Int)]] h fun r h' => ∃ b, r = .pointer (some ⟨b, 0, none⟩) ∧ h.size ≤ b ∧ Rq h' b z d ∧ Fm No h h' := by
  refine model_ratOf_ok.snd hm rfl fun w => ?_
  rw [WF_eq, model_ratOf]
  simp +contextual (disch := omega) only [↓AM, ↓AV, AP, CQ]
  have fm : Fm No h (h.new ⟨[.int .i64 z, .int .i64 (d : Int)], .own⟩) := Fm.new Fm.refl
  refine (c_mrat hz hd0 hd).use ?_
  rintro _ h1 w1 ⟨b, rfl, h2, h3, h4⟩
  simp +contextual (disch := omega) only [↓AM, ↓AV, AP, CQ]
  exact ⟨_, rfl, Nat.le_trans fm.size h2, h3, fm.trans h4 fun _ _ f => f⟩
theorem c_Valid {h : Hp} {z d : Int} :
    ACalls Try.prog 17 [.agg #[.int .i64 z, .int .i64 d]] h fun r h' => r = .bool (decide ((1 ≤ d ∧ d ≤ 1152921504606846976) ∧ (-1152921504606846976 ≤ z ∧ z ≤ 1152921504606846976))) ∧ Fm No h h' := by
  refine exact_Valid_ok.snd hm rfl fun w => ?_
  rw [WF_eq, exact_Valid]
  have fm : Fm No h (h.new ⟨[.int .i64 z, .int .i64 d], .own⟩) := Fm.new Fm.refl
  by_cases h1 : 1 ≤ d
  case neg =>
    simp +contextual (disch := omega) only [↓AM, ↓AV, AP, CQ, h1]
    exact fm
  by_cases h2 : d ≤ 1152921504606846976
  case neg =>
    simp +contextual (disch := omega) only [↓AM, ↓AV, AP, CQ, h1, h2]
    exact fm
  by_cases h3 : -1152921504606846976 ≤ z
  case neg =>
    simp +contextual (disch := omega) only [↓AM, ↓AV, AP, CQ, h1, h2, h3]
    exact fm
  by_cases h4 : z ≤ 1152921504606846976
  · simp +contextual (disch := omega) only [↓AM, ↓AV, AP, CQ, h1, h2, h3, h4]
    exact fm
  · simp +contextual (disch := omega) only [↓AM, ↓AV, AP, CQ, h1, h2, h3, h4]
    exact fm
/-- Rounded down, of no sign. -/
theorem c_cdownG {h : Hp} {b n d : Nat} (r : Rq h b (n : Int) d) (hn : n < B32 ^ 4) (hd : d < 4294967296) :
    ACalls Try.prog 63 [.pointer (some ⟨b, 0, none⟩)] h fun v h' => ∃ b', v = .pointer (some ⟨b', 0, none⟩) ∧ h.size ≤ b' ∧ NatAt h' b' 0 (n / d) ∧ Fm No h h' := by
  have p := lw_pos (z := (n : Int)) r.1
  have hD := lw_leD (z := (n : Int)) (d := d)
  have e1 : lwN (n : Int) d = ((n / Nat.gcd n d : Nat) : Int) := by unfold lwN; rw [nabs]; rfl
  have e2 : lwD (n : Int) d = d / Nat.gcd n d := by unfold lwD; rw [nabs]
  have hg : 0 < Nat.gcd n d := Nat.gcd_pos_of_pos_right _ r.1
  have e3 : n / Nat.gcd n d / (d / Nat.gcd n d) = n / d := by
    obtain ⟨a, ha⟩ := Nat.gcd_dvd_left n d
    obtain ⟨c, hc⟩ := Nat.gcd_dvd_right n d
    generalize Nat.gcd n d = g at *
    subst ha
    subst hc
    rw [Nat.mul_div_cancel_left _ hg, Nat.mul_div_cancel_left _ hg, Nat.mul_div_mul_left _ _ hg]
  have r2 := r.2
  rw [e1, e2] at r2
  have ra : RatAt h b (n / Nat.gcd n d) (d / Nat.gcd n d) := ⟨r2.1.nat, r2.2⟩
  refine (c_cdown ra (Nat.lt_of_le_of_lt (Nat.div_le_self _ _) hn) (by rw [← e2]; exact p) (Nat.lt_of_le_of_lt (Nat.div_le_self _ _) hd)).mono ?_
  rintro v h' ⟨b', q1, q2, q3, q4⟩
  rw [e3] at q3
  exact ⟨b', q1, q2, q3, q4⟩
end Go.Proofs.Ytbfbgkhlngkifaa.Nu

/- Movies, read: samples, edits, references, tracks, chapters, editions, tags, files. Plain theorems over the abstract machine.
   Conditions: none. -/
namespace Go.Proofs.Ytbfbgkhlngkifaa.Mv
open Go Go.RowKit Go.Proofs.Ytbfbgkhlngkifaa.Am Go.Proofs.Ytbfbgkhlngkifaa.Af Go.Proofs.Ytbfbgkhlngkifaa.Md
set_option linter.unusedVariables false
set_option linter.unusedSimpArgs false
set_option linter.defProp false
set_option maxRecDepth 20000
set_option maxHeartbeats 1000000

theorem nNo {h : Hp} : ∀ x, x < h.size → ¬ No x := fun _ _ f => f
abbrev iV (L : List Int) : List Value := L.map (Value.int .i64)
/-- A slice that holds xs. -/
abbrev SlV {α : Type} (h : Hp) (d : AKd α) (xs : List α) (v : Value) : Prop := (AKd.slice d).A h xs [v]
theorem SlV.keep {α : Type} {h h' : Hp} {d : AKd α} {xs : List α} {v : Value} (a : SlV h d xs v) (w : Wf h) (f : Fm No h h') : SlV h' d xs v := (AKd.slice d).mono (f.exF w nNo) a
theorem AKd_keep {α : Type} {h h' : Hp} {d : AKd α} {x : α} {cs : List Value} (a : d.A h x cs) (w : Wf h) (f : Fm No h h') : d.A h' x cs := d.mono (f.exF w nNo) a
theorem SlV.val {α : Type} {h : Hp} {d : AKd α} {xs : List α} {v : Value} (a : SlV h d xs v) : ∃ oa c, v = .slice oa xs.length c := by
  obtain ⟨oa, c, r, e, _⟩ := a
  exact ⟨oa, c, by injection e⟩
theorem sl_one {α : Type} {h : Hp} {d : AKd α} {xs : List α} {cs : List Value} (a : (AKd.slice d).A h xs cs) : ∃ v, cs = [v] ∧ SlV h d xs v := by
  obtain ⟨oa, c, r, e, h1⟩ := a
  exact ⟨_, e, oa, c, r, rfl, h1⟩
theorem SlV.el {α : Type} {h : Hp} {d : AKd α} {xs : List α} {oa : Option Addr} {c : Nat} (a : SlV h d xs (.slice oa xs.length c)) {i : Nat} (hi : i < xs.length) :
    ∃ b off sp x cs, oa = some ⟨b, off, sp⟩ ∧ flagOk sp = true ∧ xs[i]? = some x ∧ d.A h x cs ∧ h.rdN b (off + i * d.sz) d.sz = some cs := by
  obtain ⟨oa', c', r, e, rd, row, -⟩ := a
  cases e
  obtain ⟨b, off, sp, x, cs, e, f, hx, ha, hr, -⟩ := row_elem (d := d) rfl rd row rfl hi
  exact ⟨b, off, sp, x, cs, e, f, hx, ha, hr⟩
theorem SlV.ints {h : Hp} {k : IntKind} {xs : List Int} {oa : Option Addr} {c : Nat} (a : SlV h (AKd.int k) xs (.slice oa xs.length c)) : Rd h 1 oa xs.length (xs.map (Value.int k)) := by
  obtain ⟨oa', c', e, r⟩ := AKd.ints a
  cases e
  exact r
theorem SlV.ofInts {h : Hp} {k : IntKind} {xs : List Int} {oa : Option Addr} {c : Nat} (r : Rd h 1 oa xs.length (xs.map (Value.int k))) (hc : xs.length ≤ c) : SlV h (AKd.int k) xs (.slice oa xs.length c) := by
  refine ⟨oa, c, _, rfl, r, ?_, hc⟩
  clear r hc
  induction xs with
  | nil => rfl
  | cons x xs ih => exact ⟨[.int k x], _, rfl, rfl, ih⟩
abbrev intK := AKd.int .i64
abbrev byteK := AKd.int .u8
abbrev strK := AKd.string
abbrev boolK := AKd.bool
abbrev Smp := Int × Int × Int × Bool × List Int × List Int
abbrev smpK : AKd Smp := AKd.pair intK (AKd.pair intK (AKd.pair intK (AKd.pair boolK (AKd.pair (AKd.slice intK) (AKd.slice byteK)))))
abbrev Edt := Int × Int × Int × Int
abbrev edtK : AKd Edt := AKd.pair intK (AKd.pair intK (AKd.pair intK intK))
abbrev Rfx := ByteArray × Int
abbrev refK : AKd Rfx := AKd.pair strK intK
abbrev Trk := Int × Int × ByteArray × Int × List Int × ByteArray × ByteArray × Int × List Edt × List Rfx × List Smp
abbrev trkK : AKd Trk := AKd.pair intK (AKd.pair intK (AKd.pair strK (AKd.pair intK (AKd.pair (AKd.slice byteK) (AKd.pair strK (AKd.pair strK (AKd.pair intK (AKd.pair (AKd.slice edtK) (AKd.pair (AKd.slice refK) (AKd.slice smpK))))))))))
abbrev Chp := Tr (Int × Int × Int × ByteArray × Bool)
abbrev chhK : AKd (Int × Int × Int × ByteArray × Bool) := AKd.pair intK (AKd.pair intK (AKd.pair intK (AKd.pair strK boolK)))
abbrev chpK : AKd Chp := AKd.tree chhK
abbrev Edn := Int × Bool × List Chp
abbrev ednK : AKd Edn := AKd.pair intK (AKd.pair boolK (AKd.slice chpK))
abbrev Tgx := Int × Int × ByteArray × ByteArray
abbrev tagK : AKd Tgx := AKd.pair intK (AKd.pair intK (AKd.pair strK strK))
abbrev Flx := Int × ByteArray × ByteArray × List Int
abbrev filK : AKd Flx := AKd.pair intK (AKd.pair strK (AKd.pair strK (AKd.slice byteK)))
abbrev Mov := Int × ByteArray × List Trk × List Edn × List Tgx × List Flx
abbrev movK : AKd Mov := AKd.pair intK (AKd.pair strK (AKd.pair (AKd.slice trkK) (AKd.pair (AKd.slice ednK) (AKd.pair (AKd.slice tagK) (AKd.slice filK)))))
abbrev Smp.dts (x : Smp) : Int := x.1
abbrev Smp.pts (x : Smp) : Int := x.2.1
abbrev Smp.dur (x : Smp) : Int := x.2.2.1
abbrev Smp.sync (x : Smp) : Bool := x.2.2.2.1
abbrev Smp.deps (x : Smp) : List Int := x.2.2.2.2.1
abbrev Smp.data (x : Smp) : List Int := x.2.2.2.2.2
abbrev Trk.id (x : Trk) : Int := x.1
abbrev Trk.kind (x : Trk) : Int := x.2.1
abbrev Trk.codec (x : Trk) : ByteArray := x.2.2.1
abbrev Trk.scale (x : Trk) : Int := x.2.2.2.1
abbrev Trk.setup (x : Trk) : List Int := x.2.2.2.2.1
abbrev Trk.lang (x : Trk) : ByteArray := x.2.2.2.2.2.1
abbrev Trk.name (x : Trk) : ByteArray := x.2.2.2.2.2.2.1
abbrev Trk.pre (x : Trk) : Int := x.2.2.2.2.2.2.2.1
abbrev Trk.edits (x : Trk) : List Edt := x.2.2.2.2.2.2.2.2.1
abbrev Trk.refs (x : Trk) : List Rfx := x.2.2.2.2.2.2.2.2.2.1
abbrev Trk.smps (x : Trk) : List Smp := x.2.2.2.2.2.2.2.2.2.2
abbrev Chp.id (x : Chp) : Int := x.hd.1
abbrev Chp.frm (x : Chp) : Int := x.hd.2.1
abbrev Chp.to_ (x : Chp) : Int := x.hd.2.2.1
abbrev Chp.title (x : Chp) : ByteArray := x.hd.2.2.2.1
abbrev Chp.hide (x : Chp) : Bool := x.hd.2.2.2.2
abbrev Mov.scale (x : Mov) : Int := x.1
abbrev Mov.title (x : Mov) : ByteArray := x.2.1
abbrev Mov.trks (x : Mov) : List Trk := x.2.2.1
abbrev Mov.edns (x : Mov) : List Edn := x.2.2.2.1
abbrev Mov.tags (x : Mov) : List Tgx := x.2.2.2.2.1
abbrev Mov.fils (x : Mov) : List Flx := x.2.2.2.2.2
theorem smp_open {h : Hp} {x : Smp} {cs : List Value} (a : smpK.A h x cs) : ∃ v w, cs = [.int .i64 x.dts, .int .i64 x.pts, .int .i64 x.dur, .bool x.sync, v, w] ∧ SlV h intK x.deps v ∧ SlV h byteK x.data w := by
  obtain ⟨c1, d1, rfl, h1, c2, d2, rfl, h2, c3, d3, rfl, h3, c4, d4, rfl, h4, c5, d5, rfl, h5, h6⟩ := a
  obtain ⟨v, rfl, a5⟩ := sl_one h5
  obtain ⟨u, rfl, a6⟩ := sl_one h6
  have h1 : c1 = [.int .i64 x.dts] := h1
  have h2 : c2 = [.int .i64 x.pts] := h2
  have h3 : c3 = [.int .i64 x.dur] := h3
  have h4 : c4 = [.bool x.sync] := h4
  subst h1 h2 h3 h4
  exact ⟨v, u, rfl, a5, a6⟩
theorem smp_close {h : Hp} {x : Smp} {v w : Value} (a : SlV h intK x.deps v) (b : SlV h byteK x.data w) : smpK.A h x [.int .i64 x.dts, .int .i64 x.pts, .int .i64 x.dur, .bool x.sync, v, w] :=
  ⟨[_], _, rfl, rfl, [_], _, rfl, rfl, [_], _, rfl, rfl, [_], _, rfl, rfl, [_], _, rfl, a, b⟩
theorem edt_open {h : Hp} {x : Edt} {cs : List Value} (a : edtK.A h x cs) : cs = [.int .i64 x.1, .int .i64 x.2.1, .int .i64 x.2.2.1, .int .i64 x.2.2.2] := by
  obtain ⟨c1, d1, rfl, h1, c2, d2, rfl, h2, c3, d3, rfl, h3, h4⟩ := a
  have h1 : c1 = [.int .i64 x.1] := h1
  have h2 : c2 = [.int .i64 x.2.1] := h2
  have h3 : c3 = [.int .i64 x.2.2.1] := h3
  have h4 : d3 = [.int .i64 x.2.2.2] := h4
  subst h1 h2 h3 h4
  rfl
theorem edt_close {h : Hp} {x : Edt} : edtK.A h x [.int .i64 x.1, .int .i64 x.2.1, .int .i64 x.2.2.1, .int .i64 x.2.2.2] := ⟨[_], _, rfl, rfl, [_], _, rfl, rfl, [_], _, rfl, rfl, rfl⟩
theorem ref_open {h : Hp} {x : Rfx} {cs : List Value} (a : refK.A h x cs) : cs = [.string x.1, .int .i64 x.2] := by
  obtain ⟨c1, d1, rfl, h1, h2⟩ := a
  have h1 : c1 = [.string x.1] := h1
  have h2 : d1 = [.int .i64 x.2] := h2
  subst h1 h2
  rfl
theorem ref_close {h : Hp} {x : Rfx} : refK.A h x [.string x.1, .int .i64 x.2] := ⟨[_], _, rfl, rfl, rfl⟩
theorem trk_open {h : Hp} {x : Trk} {cs : List Value} (a : trkK.A h x cs) : ∃ v e r s, cs = [.int .i64 x.id, .int .i64 x.kind, .string x.codec, .int .i64 x.scale, v, .string x.lang, .string x.name, .int .i64 x.pre, e, r, s] ∧ SlV h byteK x.setup v ∧ SlV h edtK x.edits e ∧ SlV h refK x.refs r ∧ SlV h smpK x.smps s := by
  obtain ⟨c1, d1, rfl, h1, c2, d2, rfl, h2, c3, d3, rfl, h3, c4, d4, rfl, h4, c5, d5, rfl, h5, c6, d6, rfl, h6, c7, d7, rfl, h7, c8, d8, rfl, h8, c9, d9, rfl, h9, c10, d10, rfl, h10, h11⟩ := a
  obtain ⟨v5, rfl, a5⟩ := sl_one h5
  obtain ⟨v9, rfl, a9⟩ := sl_one h9
  obtain ⟨v10, rfl, a10⟩ := sl_one h10
  obtain ⟨v11, rfl, a11⟩ := sl_one h11
  have h1 : c1 = [.int .i64 x.id] := h1
  have h2 : c2 = [.int .i64 x.kind] := h2
  have h3 : c3 = [.string x.codec] := h3
  have h4 : c4 = [.int .i64 x.scale] := h4
  have h6 : c6 = [.string x.lang] := h6
  have h7 : c7 = [.string x.name] := h7
  have h8 : c8 = [.int .i64 x.pre] := h8
  subst h1 h2 h3 h4 h6 h7 h8
  exact ⟨v5, v9, v10, v11, rfl, a5, a9, a10, a11⟩
theorem trk_close {h : Hp} {x : Trk} {v e r s : Value} (a5 : SlV h byteK x.setup v) (a9 : SlV h edtK x.edits e) (a10 : SlV h refK x.refs r) (a11 : SlV h smpK x.smps s) :
    trkK.A h x [.int .i64 x.id, .int .i64 x.kind, .string x.codec, .int .i64 x.scale, v, .string x.lang, .string x.name, .int .i64 x.pre, e, r, s] :=
  ⟨[_], _, rfl, rfl, [_], _, rfl, rfl, [_], _, rfl, rfl, [_], _, rfl, rfl, [_], _, rfl, a5, [_], _, rfl, rfl, [_], _, rfl, rfl, [_], _, rfl, rfl, [_], _, rfl, a9, [_], _, rfl, a10, a11⟩
theorem chp_open {h : Hp} {x : Chp} {cs : List Value} (a : chpK.A h x cs) : ∃ v, cs = [.int .i64 x.id, .int .i64 x.frm, .int .i64 x.to_, .string x.title, .bool x.hide, v] ∧ SlV h chpK x.ks v := by
  obtain ⟨c0, d0, rfl, ⟨c1, d1, rfl, h1, c2, d2, rfl, h2, c3, d3, rfl, h3, c4, d4, rfl, h4, h5⟩, h6⟩ := AKd.tree_out a
  obtain ⟨v, rfl, a6⟩ := sl_one h6
  have h1 : c1 = [.int .i64 x.id] := h1
  have h2 : c2 = [.int .i64 x.frm] := h2
  have h3 : c3 = [.int .i64 x.to_] := h3
  have h4 : c4 = [.string x.title] := h4
  have h5 : d4 = [.bool x.hide] := h5
  subst h1 h2 h3 h4 h5
  exact ⟨v, rfl, a6⟩
theorem chp_close {h : Hp} {x : Chp} {v : Value} (a : SlV h chpK x.ks v) : chpK.A h x [.int .i64 x.id, .int .i64 x.frm, .int .i64 x.to_, .string x.title, .bool x.hide, v] :=
  AKd.tree_in ⟨[_, _, _, _, _], [_], rfl, ⟨[_], _, rfl, rfl, [_], _, rfl, rfl, [_], _, rfl, rfl, [_], _, rfl, rfl, rfl⟩, a⟩
theorem edn_open {h : Hp} {x : Edn} {cs : List Value} (a : ednK.A h x cs) : ∃ v, cs = [.int .i64 x.1, .bool x.2.1, v] ∧ SlV h chpK x.2.2 v := by
  obtain ⟨c1, d1, rfl, h1, c2, d2, rfl, h2, h3⟩ := a
  obtain ⟨v, rfl, a3⟩ := sl_one h3
  have h1 : c1 = [.int .i64 x.1] := h1
  have h2 : c2 = [.bool x.2.1] := h2
  subst h1 h2
  exact ⟨v, rfl, a3⟩
theorem edn_close {h : Hp} {x : Edn} {v : Value} (a : SlV h chpK x.2.2 v) : ednK.A h x [.int .i64 x.1, .bool x.2.1, v] := ⟨[_], _, rfl, rfl, [_], _, rfl, rfl, a⟩
theorem tag_open {h : Hp} {x : Tgx} {cs : List Value} (a : tagK.A h x cs) : cs = [.int .i64 x.1, .int .i64 x.2.1, .string x.2.2.1, .string x.2.2.2] := by
  obtain ⟨c1, d1, rfl, h1, c2, d2, rfl, h2, c3, d3, rfl, h3, h4⟩ := a
  have h1 : c1 = [.int .i64 x.1] := h1
  have h2 : c2 = [.int .i64 x.2.1] := h2
  have h3 : c3 = [.string x.2.2.1] := h3
  have h4 : d3 = [.string x.2.2.2] := h4
  subst h1 h2 h3 h4
  rfl
theorem tag_close {h : Hp} {x : Tgx} : tagK.A h x [.int .i64 x.1, .int .i64 x.2.1, .string x.2.2.1, .string x.2.2.2] := ⟨[_], _, rfl, rfl, [_], _, rfl, rfl, [_], _, rfl, rfl, rfl⟩
theorem fil_open {h : Hp} {x : Flx} {cs : List Value} (a : filK.A h x cs) : ∃ v, cs = [.int .i64 x.1, .string x.2.1, .string x.2.2.1, v] ∧ SlV h byteK x.2.2.2 v := by
  obtain ⟨c1, d1, rfl, h1, c2, d2, rfl, h2, c3, d3, rfl, h3, h4⟩ := a
  obtain ⟨v, rfl, a4⟩ := sl_one h4
  have h1 : c1 = [.int .i64 x.1] := h1
  have h2 : c2 = [.string x.2.1] := h2
  have h3 : c3 = [.string x.2.2.1] := h3
  subst h1 h2 h3
  exact ⟨v, rfl, a4⟩
theorem fil_close {h : Hp} {x : Flx} {v : Value} (a : SlV h byteK x.2.2.2 v) : filK.A h x [.int .i64 x.1, .string x.2.1, .string x.2.2.1, v] := ⟨[_], _, rfl, rfl, [_], _, rfl, rfl, [_], _, rfl, rfl, a⟩
theorem mov_open {h : Hp} {x : Mov} {cs : List Value} (a : movK.A h x cs) : ∃ t e g f, cs = [.int .i64 x.scale, .string x.title, t, e, g, f] ∧ SlV h trkK x.trks t ∧ SlV h ednK x.edns e ∧ SlV h tagK x.tags g ∧ SlV h filK x.fils f := by
  obtain ⟨c1, d1, rfl, h1, c2, d2, rfl, h2, c3, d3, rfl, h3, c4, d4, rfl, h4, c5, d5, rfl, h5, h6⟩ := a
  obtain ⟨v3, rfl, a3⟩ := sl_one h3
  obtain ⟨v4, rfl, a4⟩ := sl_one h4
  obtain ⟨v5, rfl, a5⟩ := sl_one h5
  obtain ⟨v6, rfl, a6⟩ := sl_one h6
  have h1 : c1 = [.int .i64 x.scale] := h1
  have h2 : c2 = [.string x.title] := h2
  subst h1 h2
  exact ⟨v3, v4, v5, v6, rfl, a3, a4, a5, a6⟩
theorem mov_close {h : Hp} {x : Mov} {t e g f : Value} (a3 : SlV h trkK x.trks t) (a4 : SlV h ednK x.edns e) (a5 : SlV h tagK x.tags g) (a6 : SlV h filK x.fils f) : movK.A h x [.int .i64 x.scale, .string x.title, t, e, g, f] :=
  ⟨[_], _, rfl, rfl, [_], _, rfl, rfl, [_], _, rfl, a3, [_], _, rfl, a4, [_], _, rfl, a5, a6⟩
/-! ### what fits in memory -/
structure SmpW (x : Smp) : Prop where
  deps : x.deps.length ≤ 140737488351232
  data : x.data.length ≤ 140737488351232
structure TrkW (x : Trk) : Prop where
  codec : x.codec.size ≤ 140737488351232
  lang : x.lang.size ≤ 140737488351232
  name : x.name.size ≤ 140737488351232
  setup : x.setup.length ≤ 140737488351232
  edits : x.edits.length ≤ 140737488351232
  refs : x.refs.length ≤ 140737488351232
  refw : ∀ r ∈ x.refs, r.1.size ≤ 140737488351232
  smps : x.smps.length ≤ 140737488351232
  smpw : ∀ s ∈ x.smps, SmpW s
abbrev ChpW (x : Chp) : Prop := Tr.Ok (fun y => y.2.2.2.1.size ≤ 140737488351232) x
structure EdnW (x : Edn) : Prop where
  len : x.2.2.length ≤ 140737488351232
  kids : ∀ k ∈ x.2.2, ChpW k
structure MovW (x : Mov) : Prop where
  title : x.title.size ≤ 140737488351232
  trks : x.trks.length ≤ 140737488351232
  trkw : ∀ t ∈ x.trks, TrkW t
  edns : x.edns.length ≤ 140737488351232
  ednw : ∀ e ∈ x.edns, EdnW e
  tags : x.tags.length ≤ 140737488351232
  tagw : ∀ t ∈ x.tags, t.2.2.1.size ≤ 140737488351232 ∧ t.2.2.2.size ≤ 140737488351232
  fils : x.fils.length ≤ 140737488351232
  filw : ∀ f ∈ x.fils, f.2.1.size ≤ 140737488351232 ∧ f.2.2.1.size ≤ 140737488351232 ∧ f.2.2.2.length ≤ 140737488351232
end Go.Proofs.Ytbfbgkhlngkifaa.Mv

/- Names, letters and languages, of both. Plain theorems over the abstract machine.
   Conditions: none. -/
namespace Go.Proofs.Ytbfbgkhlngkifaa.Mv
open Go Go.RowKit Go.Proofs.Ytbfbgkhlngkifaa.Am Go.Proofs.Ytbfbgkhlngkifaa.Af Go.Proofs.Ytbfbgkhlngkifaa.Md
set_option linter.unusedVariables false
set_option linter.unusedSimpArgs false
set_option linter.defProp false
set_option maxRecDepth 20000
set_option maxHeartbeats 1000000

theorem c_mwithin {h : Hp} {n a b : Int} : ACalls Try.prog 45 [.int .i64 n, .int .i64 a, .int .i64 b] h fun v h' => v = .bool (decide (a ≤ n ∧ n ≤ b)) ∧ h' = h := by
  refine model_within_ok.snd hm rfl fun w => ?_
  rw [WF_eq, model_within]
  simp +contextual only [↓AM, ↓AV, AP]
  exact ⟨fun h => by simp [h], fun h => by simp [h]⟩
theorem c_tick {h : Hp} {n : Int} : ACalls Try.prog 79 [.int .i64 n] h fun v h' => v = .bool (decide (-1099511627776 ≤ n ∧ n ≤ 1099511627776)) ∧ h' = h := by
  refine model_tick_ok.snd hm rfl fun w => ?_
  rw [WF_eq, model_tick]
  simp +contextual only [↓AM, ↓AV, AP]
  refine c_mwithin.use ?_
  rintro _ _ w1 ⟨rfl, rfl⟩
  simp +contextual only [↓AM, ↓AV, AP]
abbrev sl (s : ByteArray) : List UInt8 := s.data.toList
theorem sl_len (s : ByteArray) : (sl s).length = s.size := Array.length_toList
def nmB (b : UInt8) : Bool := decide (32 ≤ b.toNat) && decide (b.toNat ≤ 126)
def smB (b : UInt8) : Bool := decide (97 ≤ b.toNat) && decide (b.toNat ≤ 122)
def dgB (b : UInt8) : Bool := decide (48 ≤ b.toNat) && decide (b.toNat ≤ 57)
def ltB (b : UInt8) : Bool := smB b || dgB b
def nameB (s : ByteArray) : Bool := (sl s).all nmB && decide (s.size ≤ 40)
def ltrB (s : ByteArray) : Bool := (sl s).all ltB && decide (s.size = 4)
def lngB (s : ByteArray) : Bool := (sl s).all smB && decide (s.size = 3)
theorem all_tk {α : Type} {p : α → Bool} {ls : List α} {i : Nat} {m : α} (h : (ls.take i).all p = true) (hm : ls[i]? = some m) (hp : p m = true) : (ls.take (i + 1)).all p = true := by
  rw [List.take_add_one, hm, List.all_append, h]
  simp [hp]
theorem all_no {α : Type} {p : α → Bool} {ls : List α} {i : Nat} {m : α} (hm : ls[i]? = some m) (hp : p m = false) : ls.all p = false := by
  rw [Bool.eq_false_iff]
  intro h
  have := List.all_eq_true.1 h m (List.mem_of_getElem? hm)
  rw [hp] at this
  cases this
theorem sl_at {s : ByteArray} {i : Nat} (hi : i < s.size) : ∃ b, (sl s)[i]? = some b := ⟨_, List.getElem?_eq_getElem (by rw [sl_len]; exact hi)⟩
theorem c_isName {h : Hp} {s : ByteArray} (hz : s.size ≤ 140737488351232) : ACalls Try.prog 47 [.string s] h fun v h' => v = .bool (nameB s) ∧ h' = h := by
  refine model_isName_ok.snd hm rfl fun w => ?_
  rw [WF_eq, model_isName]
  by_cases h4 : (40 : Int) < (s.size : Int)
  · simp +contextual (disch := omega) only [↓AM, ↓AV, AP, CQ, h4]
    unfold nameB
    rw [decide_eq_false (show ¬ s.size ≤ 40 by omega), Bool.and_false]
  simp +contextual (disch := omega) only [↓AM, ↓AV, AP, CQ, h4]
  refine WL.mk (fun k t h' => ∃ i : Nat, h' = h ∧ i ≤ s.size ∧ k = s.size - i ∧ ((sl s).take i).all nmB = true ∧ t = [(0, some (.string s)), (8, some (.int .i64 (s.size : Int))), (9, some (.int .i64 (i : Int)))]) ⟨s.size, 0, rfl, by omega, rfl, rfl, rfl⟩ ?_
  rintro k t h1 ⟨i, e1, hi, rfl, ha, rfl⟩
  subst h1
  by_cases hin : i < s.size
  · obtain ⟨b, hb⟩ := sl_at hin
    by_cases c1 : ((b.toNat : Nat) : Int) < 32
    · simp +contextual (disch := omega) only [↓AM, ↓AV, AP, CQ, hin, hb, c1]
      have hn : nmB b = false := by unfold nmB; rw [decide_eq_false (show ¬ 32 ≤ b.toNat by omega), Bool.false_and]
      unfold nameB
      rw [all_no hb hn, Bool.false_and]
    · by_cases c2 : (126 : Int) < ((b.toNat : Nat) : Int)
      · simp +contextual (disch := omega) only [↓AM, ↓AV, AP, CQ, hin, hb, c1, c2]
        have hn : nmB b = false := by unfold nmB; rw [decide_eq_false (show ¬ b.toNat ≤ 126 by omega), Bool.and_false]
        unfold nameB
        rw [all_no hb hn, Bool.false_and]
      · simp +contextual (disch := omega) only [↓AM, ↓AV, AP, CQ, hin, hb, c1, c2, i64]
        have hn : nmB b = true := by unfold nmB; rw [decide_eq_true (show 32 ≤ b.toNat by omega), decide_eq_true (show b.toNat ≤ 126 by omega)]; rfl
        exact ⟨s.size - (i + 1), by omega, i + 1, by omega, rfl, all_tk ha hb hn, rfl⟩
  · simp +contextual (disch := omega) only [↓AM, ↓AV, AP, CQ, hin]
    rw [List.take_of_length_le (by rw [sl_len]; omega)] at ha
    unfold nameB
    rw [ha, decide_eq_true (show s.size ≤ 40 by omega)]
    simp
/-- Small letters, or digits, if they may be. -/
def lB (d : Bool) (b : UInt8) : Bool := smB b || (dgB b && d)
theorem c_letters {h : Hp} {s : ByteArray} {n : Int} {d : Bool} (hz : s.size ≤ 140737488351232) : ACalls Try.prog 46 [.string s, .int .i64 n, .bool d] h fun v h' => v = .bool ((sl s).all (lB d) && decide ((s.size : Int) = n)) ∧ h' = h := by
  refine model_letters_ok.snd hm rfl fun w => ?_
  rw [WF_eq, model_letters]
  simp +contextual (disch := omega) only [↓AM, ↓AV, AP, CQ]
  refine WL.mk (fun k t h' => ∃ i : Nat, h' = h ∧ i ≤ s.size ∧ k = s.size - i ∧ ((sl s).take i).all (lB d) = true ∧ t = [(0, some (.string s)), (1, some (.int .i64 n)), (2, some (.bool d)), (11, some (.int .i64 (s.size : Int))), (12, some (.int .i64 (i : Int)))]) ⟨s.size, 0, rfl, by omega, rfl, rfl, rfl⟩ ?_
  rintro k t h1 ⟨i, e1, hi, rfl, ha, rfl⟩
  subst h1
  by_cases hin : i < s.size
  · obtain ⟨b, hb⟩ := sl_at hin
    have bad : lB d b = false → ((sl s).all (lB d) && decide ((s.size : Int) = n)) = false := fun hn => by rw [all_no hb hn, Bool.false_and]
    have go : lB d b = true → ∃ i', i' ≤ s.size ∧ s.size - (i + 1) = s.size - i' ∧ ((sl s).take i').all (lB d) = true ∧ [(0, some (Value.string s)), (1, some (.int .i64 n)), (2, some (.bool d)), (11, some (.int .i64 (s.size : Int))), (12, some (Value.int .i64 ((i + 1 : Nat) : Int)))] = [(0, some (Value.string s)), (1, some (.int .i64 n)), (2, some (.bool d)), (11, some (.int .i64 (s.size : Int))), (12, some (Value.int .i64 (i' : Int)))] :=
      fun hn => ⟨i + 1, by omega, rfl, all_tk ha hb hn, rfl⟩
    cases d <;> by_cases c1 : (97 : Int) ≤ ((b.toNat : Nat) : Int) <;> by_cases c2 : ((b.toNat : Nat) : Int) ≤ 122 <;> by_cases c3 : (48 : Int) ≤ ((b.toNat : Nat) : Int) <;> by_cases c4 : ((b.toNat : Nat) : Int) ≤ 57 <;>
      simp +contextual (disch := omega) only [↓AM, ↓AV, AP, CQ, hin, hb, c1, c2, c3, c4, i64] <;>
      first
        | omega
        | exact congrArg Value.bool (bad (by unfold lB smB dgB; rw [Bool.eq_false_iff]; simp only [ne_eq, Bool.or_eq_true, Bool.and_eq_true, decide_eq_true_eq, Bool.false_eq_true, and_false, or_false, and_true]; omega)).symm
        | exact ⟨s.size - (i + 1), by omega, go (by unfold lB smB dgB; simp only [Bool.or_eq_true, Bool.and_eq_true, decide_eq_true_eq, Bool.false_eq_true, and_false, or_false, and_true]; omega)⟩
  · simp +contextual (disch := omega) only [↓AM, ↓AV, AP, CQ, hin]
    rw [List.take_of_length_le (by rw [sl_len]; omega)] at ha
    rw [ha, Bool.true_and]
    exact congrArg Value.bool (decide_eq_decide.2 (by unfold EqI; exact Iff.rfl))
theorem c_ltr {h : Hp} {s : ByteArray} (hz : s.size ≤ 140737488351232) : ACalls Try.prog 46 [.string s, .int .i64 4, .bool true] h fun v h' => v = .bool (ltrB s) ∧ h' = h := by
  refine (c_letters hz).mono ?_
  rintro _ _ ⟨rfl, rfl⟩
  refine ⟨congrArg Value.bool ?_, rfl⟩
  unfold ltrB
  congr 1
  · congr 1
    funext b
    unfold lB ltB
    rw [Bool.and_true]
  · exact decide_eq_decide.2 (by omega)
theorem c_lng {h : Hp} {s : ByteArray} (hz : s.size ≤ 140737488351232) : ACalls Try.prog 46 [.string s, .int .i64 3, .bool false] h fun v h' => v = .bool (lngB s) ∧ h' = h := by
  refine (c_letters hz).mono ?_
  rintro _ _ ⟨rfl, rfl⟩
  refine ⟨congrArg Value.bool ?_, rfl⟩
  unfold lngB
  congr 1
  · congr 1
    funext b
    unfold lB
    rw [Bool.and_false, Bool.or_false]
  · exact decide_eq_decide.2 (by omega)
end Go.Proofs.Ytbfbgkhlngkifaa.Mv

/- Samples checked by both. Plain theorems over the abstract machine.
   Conditions: none. -/
namespace Go.Proofs.Ytbfbgkhlngkifaa.Mv
open Go Go.RowKit Go.Proofs.Ytbfbgkhlngkifaa.Am Go.Proofs.Ytbfbgkhlngkifaa.Af Go.Proofs.Ytbfbgkhlngkifaa.Md
set_option linter.unusedVariables false
set_option linter.unusedSimpArgs false
set_option linter.defProp false
set_option maxRecDepth 20000
set_option maxHeartbeats 4000000

abbrev tk (n : Int) : Prop := -1099511627776 ≤ n ∧ n ≤ 1099511627776
/-- Dependencies rise, and lie ahead. -/
def depB (i : Int) : Int → List Int → Bool
  | _, [] => true
  | last, d :: ds => if d ≤ last ∨ i ≤ d then false else depB i d ds
theorem depB_step {i last d : Int} {L : List Int} {j : Nat} (h : L[j]? = some d) : depB i last (L.drop j) = if d ≤ last ∨ i ≤ d then false else depB i d (L.drop (j + 1)) := by
  obtain ⟨h1, h2⟩ := List.getElem?_eq_some_iff.1 h
  rw [List.drop_eq_getElem_cons h1, h2]
  rfl
/-- The error of a sample: its number, the decode time of the one before it. -/
def smpE (i : Int) (prev : Int) (x : Smp) : Int :=
  if ¬ (tk x.dts ∧ tk x.pts ∧ (0 ≤ x.dur ∧ x.dur ≤ 1099511627776)) then 1
  else if 65536 < x.data.length ∨ 4 < x.deps.length then 2
  else if 0 < i ∧ x.dts ≤ prev then 31
  else if x.sync = true ∧ 0 < x.deps.length then 32
  else if depB i (-1) x.deps = true then 0 else 32
theorem rdN_n {h : Hp} {cs : List Value} {md : Md} {m : Nat} (e : lenIs cs m = true) : (h.new ⟨cs, md⟩).rdN h.size 0 m = some cs := rdN_new e
theorem c_chkS {h : Hp} {t : Trk} {v e r s w1 w2 : Value} {x : Smp} {i : Nat} {p1 : Option Addr} {c1 : Nat} {p2 : Option Addr} {c2 : Nat} {p3 : Option Addr} {c3 : Nat}
    (hs : SlV h smpK t.smps s) (ev : v = .slice p1 t.setup.length c1) (ee : e = .slice p2 t.edits.length c2) (er : r = .slice p3 t.refs.length c3) (ad : SlV h intK x.deps w1) (aa : SlV h byteK x.data w2) (hx : t.smps[i]? = some x) (hn : t.smps.length ≤ 140737488351232) (hw : SmpW x) :
    ACalls Try.prog 48 [.agg #[.int .i64 t.id, .int .i64 t.kind, .string t.codec, .int .i64 t.scale, v, .string t.lang, .string t.name, .int .i64 t.pre, e, r, s], .int .i64 (i : Int), .agg #[.int .i64 x.dts, .int .i64 x.pts, .int .i64 x.dur, .bool x.sync, w1, w2]] h
      fun u h' => u = .int .i64 (smpE i ((t.smps[i - 1]?.map Smp.dts).getD 0) x) ∧ Fm No h h' := by
  refine model_checkSample_ok.snd hm rfl fun w => ?_
  rw [WF_eq, model_checkSample]
  subst ev ee er
  obtain ⟨sa, sc, rfl⟩ := hs.val
  obtain ⟨da, dc, rfl⟩ := ad.val
  obtain ⟨ba, bc, rfl⟩ := aa.val
  have hi := (List.getElem?_eq_some_iff.1 hx).1
  have hdl := hw.deps
  have hbl := hw.data
  obtain ⟨hA, eA⟩ : ∃ g, h.new ⟨[.int .i64 t.id, .int .i64 t.kind, .string t.codec, .int .i64 t.scale, .slice p1 t.setup.length c1, .string t.lang, .string t.name, .int .i64 t.pre, .slice p2 t.edits.length c2, .slice p3 t.refs.length c3, .slice sa t.smps.length sc], .own⟩ = g := ⟨_, rfl⟩
  obtain ⟨hB, eB⟩ : ∃ g, hA.new ⟨[.int .i64 x.dts, .int .i64 x.pts, .int .i64 x.dur, .bool x.sync, .slice da x.deps.length dc, .slice ba x.data.length bc], .own⟩ = g := ⟨_, rfl⟩
  have wA : Wf hA := eA ▸ w.new
  have wB : Wf hB := eB ▸ wA.new
  have fA : Fm No h hA := eA ▸ Fm.new Fm.refl
  have fB : Fm No hA hB := eB ▸ Fm.new Fm.refl
  have gA : hA.get h.size = some ⟨[.int .i64 t.id, .int .i64 t.kind, .string t.codec, .int .i64 t.scale, .slice p1 t.setup.length c1, .string t.lang, .string t.name, .int .i64 t.pre, .slice p2 t.edits.length c2, .slice p3 t.refs.length c3, .slice sa t.smps.length sc], .own⟩ := eA ▸ gnew
  have gB : hB.get hA.size = some ⟨[.int .i64 x.dts, .int .i64 x.pts, .int .i64 x.dur, .bool x.sync, .slice da x.deps.length dc, .slice ba x.data.length bc], .own⟩ := eB ▸ gnew
  have gA := fB.keep wA gA (fun f => f)
  have f0 : Fm No h hB := fA.trans fB fun _ _ f => f
  have u10 : hB.rd h.size 10 = some (.slice sa t.smps.length sc) := rd_mk gA
  have u0 : hB.rd hA.size 0 = some (.int .i64 x.dts) := rd_mk gB
  have u1 : hB.rd hA.size 1 = some (.int .i64 x.pts) := rd_mk gB
  have u2 : hB.rd hA.size 2 = some (.int .i64 x.dur) := rd_mk gB
  have u3 : hB.rd hA.size 3 = some (.bool x.sync) := rd_mk gB
  have u4 : hB.rd hA.size 4 = some (.slice da x.deps.length dc) := rd_mk gB
  have u5 : hB.rd hA.size 5 = some (.slice ba x.data.length bc) := rd_mk gB
  simp +contextual (disch := omega) only [↓AM, ↓AV, AP, CQ, eA, eB, i64]
  simp +contextual (disch := omega) only [↓AM, ↓AV, AP, CQ, eA, eB, u0]
  refine c_tick.use ?_
  rintro _ g9 w1 ⟨rfl, e9⟩
  subst g9
  by_cases h1 : tk x.dts
  case neg =>
    simp +contextual (disch := omega) only [↓AM, ↓AV, AP, CQ, eA, eB, h1]
    exact ⟨by unfold smpE; rw [if_pos (fun q => h1 q.1)], f0⟩
  simp +contextual (disch := omega) only [↓AM, ↓AV, AP, CQ, eA, eB, h1, u1]
  refine c_tick.use ?_
  rintro _ g9 w1 ⟨rfl, e9⟩
  subst g9
  by_cases h2 : tk x.pts
  case neg =>
    simp +contextual (disch := omega) only [↓AM, ↓AV, AP, CQ, eA, eB, h2]
    exact ⟨by unfold smpE; rw [if_pos (fun q => h2 q.2.1)], f0⟩
  simp +contextual (disch := omega) only [↓AM, ↓AV, AP, CQ, eA, eB, h2, u2]
  refine c_mwithin.use ?_
  rintro _ g9 w1 ⟨rfl, e9⟩
  subst g9
  by_cases h3 : 0 ≤ x.dur ∧ x.dur ≤ 1099511627776
  case neg =>
    simp +contextual (disch := omega) only [↓AM, ↓AV, AP, CQ, eA, eB, h3]
    exact ⟨by unfold smpE; rw [if_pos (fun q => h3 q.2.2)], f0⟩
  have e1 : ¬ ¬ (tk x.dts ∧ tk x.pts ∧ (0 ≤ x.dur ∧ x.dur ≤ 1099511627776)) := fun q => q ⟨h1, h2, h3⟩
  by_cases h4 : (65536 : Int) < (x.data.length : Int)
  · simp +contextual (disch := omega) only [↓AM, ↓AV, AP, CQ, eA, eB, h3, u5, h4]
    exact ⟨by unfold smpE; rw [if_neg e1, if_pos (.inl (by omega))], f0⟩
  by_cases h5 : (4 : Int) < (x.deps.length : Int)
  · simp +contextual (disch := omega) only [↓AM, ↓AV, AP, CQ, eA, eB, h3, u5, h4, u4, h5]
    exact ⟨by unfold smpE; rw [if_neg e1, if_pos (.inr (by omega))], f0⟩
  have e2 : ¬ (65536 < x.data.length ∨ 4 < x.deps.length) := by omega
  simp +contextual (disch := omega) only [↓AM, ↓AV, AP, CQ, eA, eB, h3, u5, h4, u4, h5]
  cases i with
  | zero =>
    have e6 : ((0 : Int) < ((0 : Nat) : Int)) = False := by simp
    have e3 : ¬ (0 < ((0 : Nat) : Int) ∧ x.dts ≤ (t.smps[0 - 1]?.map Smp.dts).getD 0) := by simp
    simp +contextual (disch := omega) only [↓AM, ↓AV, AP, CQ, e6]
    by_cases hsy : x.sync = true ∧ 0 < x.deps.length
    · obtain ⟨hs1, hs2⟩ := hsy
      rw [hs1] at u3
      have hs3 : ((0 : Int) < (x.deps.length : Int)) = True := eq_true (by omega)
      simp +contextual (disch := omega) only [↓AM, ↓AV, AP, CQ, eA, eB, u3, u4, hs3]
      exact ⟨by unfold smpE; rw [if_neg e1, if_neg e2, if_neg e3, if_pos ⟨hs1, hs2⟩], f0⟩
    have rest : ∀ (g : Hp), g = hB → smpE ((0 : Nat) : Int) ((t.smps[0 - 1]?.map Smp.dts).getD 0) x = if depB ((0 : Nat) : Int) (-1) x.deps = true then 0 else 32 := fun _ _ => by unfold smpE; rw [if_neg e1, if_neg e2, if_neg e3, if_neg hsy]
    cases hsc : x.sync with
    | true =>
      have hs3 : ((0 : Int) < (x.deps.length : Int)) = False := eq_false (fun q => hsy ⟨hsc, by omega⟩)
      rw [hsc] at u3
      simp +contextual (disch := omega) only [↓AM, ↓AV, AP, CQ, eA, eB, u3, u4, hs3]
      refine WL.mk (fun k t' h' => ∃ (j : Nat) (last : Int), h' = hB ∧ j ≤ x.deps.length ∧ k = x.deps.length - j ∧ depB ((0 : Nat) : Int) (-1) x.deps = depB ((0 : Nat) : Int) last (x.deps.drop j) ∧
          t' = [(1, some (.int .i64 ((0 : Nat) : Int))), (7, some (.int .i64 last)), (63, some (.slice da x.deps.length dc)), (64, some (.int .i64 (x.deps.length : Int))), (65, some (.int .i64 (j : Int)))]) ⟨x.deps.length, 0, -1, rfl, by omega, rfl, rfl, rfl⟩ ?_
      rintro k t' _ ⟨j, last, rfl, hj, rfl, hE, rfl⟩
      by_cases hjn : j < x.deps.length
      · obtain ⟨b1, o1, s1, rfl, g1, d, hd, r1⟩ := Rd.int (ad.ints.keepW w f0 nNo) hjn
        rw [depB_step hd] at hE
        by_cases k1 : d ≤ last
        · simp +contextual (disch := omega) only [↓AM, ↓AV, AP, CQ, hjn, g1, r1, k1]
          rw [if_pos (.inl k1)] at hE
          exact ⟨by rw [rest _ rfl, hE]; rfl, f0⟩
        by_cases k2 : ((0 : Nat) : Int) ≤ d
        · simp +contextual (disch := omega) only [↓AM, ↓AV, AP, CQ, hjn, g1, r1, k1, k2]
          rw [if_pos (.inr k2)] at hE
          exact ⟨by rw [rest _ rfl, hE]; rfl, f0⟩
        · simp +contextual (disch := omega) only [↓AM, ↓AV, AP, CQ, hjn, g1, r1, k1, k2, i64]
          rw [if_neg (by omega)] at hE
          exact ⟨x.deps.length - (j + 1), by omega, j + 1, d, by omega, rfl, hE, rfl⟩
      · simp +contextual (disch := omega) only [↓AM, ↓AV, AP, CQ, hjn]
        rw [List.drop_eq_nil_of_le (by omega)] at hE
        exact ⟨by rw [rest _ rfl, hE]; rfl, f0⟩
    | false =>
      rw [hsc] at u3
      simp +contextual (disch := omega) only [↓AM, ↓AV, AP, CQ, eA, eB, u3, u4]
      refine WL.mk (fun k t' h' => ∃ (j : Nat) (last : Int), h' = hB ∧ j ≤ x.deps.length ∧ k = x.deps.length - j ∧ depB ((0 : Nat) : Int) (-1) x.deps = depB ((0 : Nat) : Int) last (x.deps.drop j) ∧
          t' = [(1, some (.int .i64 ((0 : Nat) : Int))), (7, some (.int .i64 last)), (63, some (.slice da x.deps.length dc)), (64, some (.int .i64 (x.deps.length : Int))), (65, some (.int .i64 (j : Int)))]) ⟨x.deps.length, 0, -1, rfl, by omega, rfl, rfl, rfl⟩ ?_
      rintro k t' _ ⟨j, last, rfl, hj, rfl, hE, rfl⟩
      by_cases hjn : j < x.deps.length
      · obtain ⟨b1, o1, s1, rfl, g1, d, hd, r1⟩ := Rd.int (ad.ints.keepW w f0 nNo) hjn
        rw [depB_step hd] at hE
        by_cases k1 : d ≤ last
        · simp +contextual (disch := omega) only [↓AM, ↓AV, AP, CQ, hjn, g1, r1, k1]
          rw [if_pos (.inl k1)] at hE
          exact ⟨by rw [rest _ rfl, hE]; rfl, f0⟩
        by_cases k2 : ((0 : Nat) : Int) ≤ d
        · simp +contextual (disch := omega) only [↓AM, ↓AV, AP, CQ, hjn, g1, r1, k1, k2]
          rw [if_pos (.inr k2)] at hE
          exact ⟨by rw [rest _ rfl, hE]; rfl, f0⟩
        · simp +contextual (disch := omega) only [↓AM, ↓AV, AP, CQ, hjn, g1, r1, k1, k2, i64]
          rw [if_neg (by omega)] at hE
          exact ⟨x.deps.length - (j + 1), by omega, j + 1, d, by omega, rfl, hE, rfl⟩
      · simp +contextual (disch := omega) only [↓AM, ↓AV, AP, CQ, hjn]
        rw [List.drop_eq_nil_of_le (by omega)] at hE
        exact ⟨by rw [rest _ rfl, hE]; rfl, f0⟩
  | succ i =>
    have e6 : ((0 : Int) < ((i + 1 : Nat) : Int)) = True := eq_true (by omega)
    have hi2 : i < t.smps.length := by omega
    obtain ⟨b5, o5, s5, y, cs5, rfl, g5, hy, hya, hyr⟩ := (hs.keep w f0).el hi2
    obtain ⟨y1, y2, rfl, -, -⟩ := smp_open hya
    have hyd : hB.rd b5 (o5 + i * 6) = some (.int .i64 y.dts) := rdN_get (i := 0) hyr rfl
    have epv : (t.smps[i + 1 - 1]?.map Smp.dts).getD 0 = y.dts := by rw [Nat.add_sub_cancel, hy]; rfl
    rw [epv]
    by_cases h6 : x.dts ≤ y.dts
    · simp +contextual (disch := omega) only [↓AM, ↓AV, AP, CQ, eA, eB, e6, u0, u10, i64, hi2, g5, hyd, h6]
      exact ⟨by unfold smpE; rw [if_neg e1, if_neg e2, if_pos ⟨by omega, h6⟩], f0⟩
    have e3 : ¬ (0 < ((i + 1 : Nat) : Int) ∧ x.dts ≤ y.dts) := fun q => h6 q.2
    simp +contextual (disch := omega) only [↓AM, ↓AV, AP, CQ, eA, eB, e6, u0, u10, i64, hi2, g5, hyd, h6]
    by_cases hsy : x.sync = true ∧ 0 < x.deps.length
    · obtain ⟨hs1, hs2⟩ := hsy
      rw [hs1] at u3
      have hs3 : ((0 : Int) < (x.deps.length : Int)) = True := eq_true (by omega)
      simp +contextual (disch := omega) only [↓AM, ↓AV, AP, CQ, eA, eB, u3, u4, hs3]
      exact ⟨by unfold smpE; rw [if_neg e1, if_neg e2, if_neg e3, if_pos ⟨hs1, hs2⟩], f0⟩
    have rest : ∀ (g : Hp), g = hB → smpE ((i + 1 : Nat) : Int) y.dts x = if depB ((i + 1 : Nat) : Int) (-1) x.deps = true then 0 else 32 := fun _ _ => by unfold smpE; rw [if_neg e1, if_neg e2, if_neg e3, if_neg hsy]
    cases hsc : x.sync with
    | true =>
      have hs3 : ((0 : Int) < (x.deps.length : Int)) = False := eq_false (fun q => hsy ⟨hsc, by omega⟩)
      rw [hsc] at u3
      simp +contextual (disch := omega) only [↓AM, ↓AV, AP, CQ, eA, eB, u3, u4, hs3]
      refine WL.mk (fun k t' h' => ∃ (j : Nat) (last : Int), h' = hB ∧ j ≤ x.deps.length ∧ k = x.deps.length - j ∧ depB ((i + 1 : Nat) : Int) (-1) x.deps = depB ((i + 1 : Nat) : Int) last (x.deps.drop j) ∧
          t' = [(1, some (.int .i64 ((i + 1 : Nat) : Int))), (7, some (.int .i64 last)), (63, some (.slice da x.deps.length dc)), (64, some (.int .i64 (x.deps.length : Int))), (65, some (.int .i64 (j : Int)))]) ⟨x.deps.length, 0, -1, rfl, by omega, rfl, rfl, rfl⟩ ?_
      rintro k t' _ ⟨j, last, rfl, hj, rfl, hE, rfl⟩
      by_cases hjn : j < x.deps.length
      · obtain ⟨b1, o1, s1, rfl, g1, d, hd, r1⟩ := Rd.int (ad.ints.keepW w f0 nNo) hjn
        rw [depB_step hd] at hE
        by_cases k1 : d ≤ last
        · simp +contextual (disch := omega) only [↓AM, ↓AV, AP, CQ, hjn, g1, r1, k1]
          rw [if_pos (.inl k1)] at hE
          exact ⟨by rw [rest _ rfl, hE]; rfl, f0⟩
        by_cases k2 : ((i + 1 : Nat) : Int) ≤ d
        · simp +contextual (disch := omega) only [↓AM, ↓AV, AP, CQ, hjn, g1, r1, k1, k2]
          rw [if_pos (.inr k2)] at hE
          exact ⟨by rw [rest _ rfl, hE]; rfl, f0⟩
        · simp +contextual (disch := omega) only [↓AM, ↓AV, AP, CQ, hjn, g1, r1, k1, k2, i64]
          rw [if_neg (by omega)] at hE
          exact ⟨x.deps.length - (j + 1), by omega, j + 1, d, by omega, rfl, hE, rfl⟩
      · simp +contextual (disch := omega) only [↓AM, ↓AV, AP, CQ, hjn]
        rw [List.drop_eq_nil_of_le (by omega)] at hE
        exact ⟨by rw [rest _ rfl, hE]; rfl, f0⟩
    | false =>
      rw [hsc] at u3
      simp +contextual (disch := omega) only [↓AM, ↓AV, AP, CQ, eA, eB, u3, u4]
      refine WL.mk (fun k t' h' => ∃ (j : Nat) (last : Int), h' = hB ∧ j ≤ x.deps.length ∧ k = x.deps.length - j ∧ depB ((i + 1 : Nat) : Int) (-1) x.deps = depB ((i + 1 : Nat) : Int) last (x.deps.drop j) ∧
          t' = [(1, some (.int .i64 ((i + 1 : Nat) : Int))), (7, some (.int .i64 last)), (63, some (.slice da x.deps.length dc)), (64, some (.int .i64 (x.deps.length : Int))), (65, some (.int .i64 (j : Int)))]) ⟨x.deps.length, 0, -1, rfl, by omega, rfl, rfl, rfl⟩ ?_
      rintro k t' _ ⟨j, last, rfl, hj, rfl, hE, rfl⟩
      by_cases hjn : j < x.deps.length
      · obtain ⟨b1, o1, s1, rfl, g1, d, hd, r1⟩ := Rd.int (ad.ints.keepW w f0 nNo) hjn
        rw [depB_step hd] at hE
        by_cases k1 : d ≤ last
        · simp +contextual (disch := omega) only [↓AM, ↓AV, AP, CQ, hjn, g1, r1, k1]
          rw [if_pos (.inl k1)] at hE
          exact ⟨by rw [rest _ rfl, hE]; rfl, f0⟩
        by_cases k2 : ((i + 1 : Nat) : Int) ≤ d
        · simp +contextual (disch := omega) only [↓AM, ↓AV, AP, CQ, hjn, g1, r1, k1, k2]
          rw [if_pos (.inr k2)] at hE
          exact ⟨by rw [rest _ rfl, hE]; rfl, f0⟩
        · simp +contextual (disch := omega) only [↓AM, ↓AV, AP, CQ, hjn, g1, r1, k1, k2, i64]
          rw [if_neg (by omega)] at hE
          exact ⟨x.deps.length - (j + 1), by omega, j + 1, d, by omega, rfl, hE, rfl⟩
      · simp +contextual (disch := omega) only [↓AM, ↓AV, AP, CQ, hjn]
        rw [List.drop_eq_nil_of_le (by omega)] at hE
        exact ⟨by rw [rest _ rfl, hE]; rfl, f0⟩
end Go.Proofs.Ytbfbgkhlngkifaa.Mv

/- The document's sample; edits; fields; tracks checked by both. Plain theorems over the abstract machine.
   Conditions: none. -/
namespace Go.Proofs.Ytbfbgkhlngkifaa.Mv
open Go Go.RowKit Go.Proofs.Ytbfbgkhlngkifaa.Am Go.Proofs.Ytbfbgkhlngkifaa.Af Go.Proofs.Ytbfbgkhlngkifaa.Md
set_option linter.unusedVariables false
set_option linter.unusedSimpArgs false
set_option linter.defProp false
set_option maxRecDepth 20000
set_option maxHeartbeats 4000000

end Go.Proofs.Ytbfbgkhlngkifaa.Mv

/- Tracks checked by both. Plain theorems over the abstract machine.
   Conditions: none. -/
namespace Go.Proofs.Ytbfbgkhlngkifaa.Mv
open Go Go.RowKit Go.Proofs.Ytbfbgkhlngkifaa.Am Go.Proofs.Ytbfbgkhlngkifaa.Af Go.Proofs.Ytbfbgkhlngkifaa.Md
set_option linter.unusedVariables false
set_option linter.unusedSimpArgs false
set_option linter.defProp false
set_option maxRecDepth 20000
set_option maxHeartbeats 4000000

def fldP (t : Trk) : Prop := (1 ≤ t.id ∧ t.id ≤ 1000) ∧ (1 ≤ t.kind ∧ t.kind ≤ 7) ∧ ltrB t.codec = true ∧ (1 ≤ t.scale ∧ t.scale ≤ 1000000) ∧ lngB t.lang = true ∧ nameB t.name = true ∧ (0 ≤ t.pre ∧ t.pre ≤ 1099511627776)
instance (t : Trk) : Decidable (fldP t) := by unfold fldP; infer_instance
def refsB (t : Trk) : Bool := t.refs.all fun r => ltrB r.1
def limP (t : Trk) : Prop := t.setup.length ≤ 1000 ∧ t.edits.length ≤ 20 ∧ t.refs.length ≤ 8 ∧ t.smps.length ≤ 400
instance (t : Trk) : Decidable (limP t) := by unfold limP; infer_instance
def edP (x : Edt) : Prop := (1 ≤ x.1 ∧ x.1 ≤ 1099511627776) ∧ (-1 ≤ x.2.1 ∧ x.2.1 ≤ 1099511627776) ∧ (0 ≤ x.2.2.1 ∧ x.2.2.1 ≤ 1000) ∧ (1 ≤ x.2.2.2 ∧ x.2.2.2 ≤ 1000) ∧ ¬ (x.2.1 = -1 ∧ (x.2.2.1 ≠ 1 ∨ x.2.2.2 ≠ 1))
instance (x : Edt) : Decidable (edP x) := by unfold edP; infer_instance
def sumD (l : List Edt) : Int := (l.map fun x => x.1).sum
def edsB (l : List Edt) : Bool := l.all (fun x => decide (edP x)) && decide (sumD l ≤ 1099511627776)
def smE (L : List Smp) (i : Nat) (x : Smp) : Int := smpE i ((L[i - 1]?.map Smp.dts).getD 0) x
def wE (L : List Smp) : Nat → List Smp → Int
  | _, [] => 0
  | i, x :: xs => if smE L i x = 0 then wE L (i + 1) xs else smE L i x
theorem wE_step {L : List Smp} {i : Nat} {x : Smp} (h : L[i]? = some x) : wE L i (L.drop i) = if smE L i x = 0 then wE L (i + 1) (L.drop (i + 1)) else smE L i x := by
  obtain ⟨h1, h2⟩ := List.getElem?_eq_some_iff.1 h
  rw [List.drop_eq_getElem_cons h1, h2]
  rfl
theorem smpE_0 {p q : Int} {x : Smp} : smpE ((0 : Nat) : Int) p x = smpE ((0 : Nat) : Int) q x := by
  unfold smpE
  simp
/-- The error of a track. -/
def trkE (t : Trk) : Int := if ¬ (fldP t ∧ refsB t = true) then 1 else if ¬ limP t then 2 else if edsB t.edits = false then 33 else wE t.smps 0 t.smps
theorem sumD_S {l : List Edt} {i : Nat} {x : Edt} (h : l[i]? = some x) : sumD (l.take (i + 1)) = sumD (l.take i) + x.1 := by
  unfold sumD
  rw [List.take_add_one, h, Option.toList_some, List.map_append, List.sum_append]
  simp
theorem sumD_b {l : List Edt} (ha : l.all (fun x => decide (edP x)) = true) : 0 ≤ sumD l ∧ sumD l ≤ (l.length : Int) * 1099511627776 := by
  induction l with
  | nil => simp [sumD]
  | cons x l ih =>
    rw [List.all_cons, Bool.and_eq_true] at ha
    obtain ⟨h1, h2⟩ := ih ha.2
    have hx := of_decide_eq_true ha.1
    obtain ⟨h3, -⟩ := hx
    have e : sumD (x :: l) = x.1 + sumD l := by unfold sumD; rw [List.map_cons, List.sum_cons]
    rw [e, List.length_cons]
    constructor
    · omega
    · have : ((l.length + 1 : Nat) : Int) * 1099511627776 = (l.length : Int) * 1099511627776 + 1099511627776 := by omega
      omega
theorem CR0 : True := trivial
def CR := And.intro @rdN_n @CR0
end Go.Proofs.Ytbfbgkhlngkifaa.Mv
