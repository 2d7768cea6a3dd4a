/- Numbers as lists of digits, the lowest first. Plain theorems.
   Conditions: none. -/
import Derived.Test.YtbfbgkhlngkifaaAmZ
import Derived.Test.YtbfbgkhlngkifaaProg
namespace Go.Proofs.Ytbfbgkhlngkifaa.Nu
set_option linter.unusedVariables false
set_option linter.unusedSimpArgs false

/-- The number of digits. -/
def vL (B : Nat) : List Nat → Nat
  | [] => 0
  | d :: r => d + B * vL B r
def Dl (B : Nat) (l : List Nat) : Prop := ∀ d ∈ l, d < B
theorem vL_app (B : Nat) : ∀ a b : List Nat, vL B (a ++ b) = vL B a + B ^ a.length * vL B b
  | [], b => by simp [vL]
  | d :: a, b => by
    simp only [List.cons_append, vL, vL_app B a b, List.length_cons, Nat.pow_succ, Nat.mul_add]
    rw [Nat.mul_comm (B ^ a.length) B, Nat.mul_assoc, Nat.add_assoc]
theorem vL_snoc (B : Nat) (a : List Nat) (d : Nat) : vL B (a ++ [d]) = vL B a + B ^ a.length * d := by rw [vL_app]; simp [vL]
theorem vL_lt {B : Nat} : ∀ {l : List Nat}, Dl B l → vL B l < B ^ l.length
  | [], _ => by simp [vL]
  | d :: l, h => by
    have h1 := vL_lt (l := l) fun x hx => h x (by simp [hx])
    have h2 := h d (by simp)
    simp only [vL, List.length_cons, Nat.pow_succ]
    have : B * (vL B l + 1) ≤ B * B ^ l.length := Nat.mul_le_mul_left B h1
    rw [Nat.mul_add, Nat.mul_one] at this
    rw [Nat.mul_comm (B ^ l.length) B]
    omega
theorem vL_zeros (B : Nat) : ∀ n : Nat, vL B (List.replicate n 0) = 0
  | 0 => rfl
  | n + 1 => by rw [List.replicate_succ, vL, vL_zeros B n]; simp
/-- The digits of a number. -/
def dig (B : Nat) (hB : 1 < B) (v : Nat) : List Nat := if h : v = 0 then [] else v % B :: dig B hB (v / B)
termination_by v
decreasing_by exact Nat.div_lt_self (Nat.pos_of_ne_zero h) hB
theorem dig_0 {B : Nat} {hB : 1 < B} : dig B hB 0 = [] := by rw [dig]; simp
theorem dig_pos {B : Nat} {hB : 1 < B} {v : Nat} (h : v ≠ 0) : dig B hB v = v % B :: dig B hB (v / B) := by rw [dig]; simp [h]
theorem dig_nil {B : Nat} {hB : 1 < B} {v : Nat} : dig B hB v = [] ↔ v = 0 := by
  constructor
  · intro h
    rcases Decidable.em (v = 0) with h0 | h0
    · exact h0
    · rw [dig_pos h0] at h; cases h
  · rintro rfl; exact dig_0
theorem dig_dl {B : Nat} {hB : 1 < B} (v : Nat) : Dl B (dig B hB v) := by
  induction v using Nat.strongRecOn with
  | _ v ih =>
    rcases Decidable.em (v = 0) with h0 | h0
    · rw [h0, dig_0]; intro d hd; cases hd
    · rw [dig_pos h0]
      intro d hd
      rcases List.mem_cons.1 hd with rfl | hd
      · exact Nat.mod_lt _ (by omega)
      · exact ih _ (Nat.div_lt_self (Nat.pos_of_ne_zero h0) hB) d hd
theorem dig_val {B : Nat} {hB : 1 < B} (v : Nat) : vL B (dig B hB v) = v := by
  induction v using Nat.strongRecOn with
  | _ v ih =>
    rcases Decidable.em (v = 0) with h0 | h0
    · rw [h0, dig_0]; rfl
    · rw [dig_pos h0, vL, ih _ (Nat.div_lt_self (Nat.pos_of_ne_zero h0) hB)]
      exact Nat.mod_add_div v B
/-- No zero at the end. -/
def Nz (l : List Nat) : Prop := l.getLast? ≠ some 0
theorem Nz.tail {d : Nat} {l : List Nat} (h : Nz (d :: l)) : Nz l := by
  cases l with
  | nil => simp [Nz]
  | cons e l => simpa [Nz] using h
theorem vL_pos {B : Nat} (hB : 1 < B) : ∀ {l : List Nat}, Nz l → l ≠ [] → vL B l ≠ 0
  | [], _, h => absurd rfl h
  | [d], h, _ => by
    have : d ≠ 0 := fun e => h (by simp [e])
    simp [vL, this]
  | d :: e :: l, h, _ => by
    have := vL_pos hB (l := e :: l) h.tail (by simp)
    rw [vL]
    intro e0
    have := Nat.pos_of_ne_zero this
    have : 0 < B * vL B (e :: l) := Nat.mul_pos (by omega) this
    omega
theorem dig_uniq {B : Nat} (hB : 1 < B) : ∀ {l : List Nat}, Dl B l → Nz l → l = dig B hB (vL B l)
  | [], _, _ => by rw [vL, dig_0]
  | d :: l, h, hz => by
    have hp := vL_pos hB hz (by simp)
    have hd := h d (by simp)
    rw [dig_pos hp, vL]
    have h1 : (d + B * vL B l) % B = d := by rw [Nat.add_mul_mod_self_left, Nat.mod_eq_of_lt hd]
    have h2 : (d + B * vL B l) / B = vL B l := by rw [Nat.add_mul_div_left _ _ (by omega), Nat.div_eq_of_lt hd, Nat.zero_add]
    rw [h1, h2, ← dig_uniq hB (l := l) (fun x hx => h x (by simp [hx])) hz.tail]
theorem dig_nz {B : Nat} {hB : 1 < B} (v : Nat) : Nz (dig B hB v) := by
  induction v using Nat.strongRecOn with
  | _ v ih =>
    rcases Decidable.em (v = 0) with h0 | h0
    · rw [h0, dig_0]; simp [Nz]
    · rw [dig_pos h0]
      have := ih _ (Nat.div_lt_self (Nat.pos_of_ne_zero h0) hB)
      rcases Decidable.em (v / B = 0) with h1 | h1
      · rw [h1, dig_0]
        have : v % B ≠ 0 := by
          have := Nat.mod_add_div v B
          rw [h1] at this
          omega
        simp [Nz, this]
      · rw [dig_pos h1] at this ⊢
        simpa [Nz] using this
/-- Taking a zero away at the end. -/
theorem vL_init {B : Nat} {l : List Nat} : vL B (l ++ [0]) = vL B l := by rw [vL_snoc]; simp
theorem vL_take {B : Nat} (hB : 1 < B) {l : List Nat} {n : Nat} (h : n ≤ l.length) : vL B l = vL B (l.take n) + B ^ n * vL B (l.drop n) := by
  have := vL_app B (l.take n) (l.drop n)
  rw [List.take_append_drop, List.length_take, Nat.min_eq_left h] at this
  exact this
/-- A longer number is greater. -/
theorem vL_ge {B : Nat} (hB : 1 < B) {l : List Nat} (hz : Nz l) (hl : l ≠ []) : B ^ (l.length - 1) ≤ vL B l := by
  rcases List.eq_nil_or_concat l with rfl | ⟨m, d, rfl⟩
  · exact absurd rfl hl
  · rw [List.concat_eq_append] at *
    have hd : d ≠ 0 := fun e => hz (by simp [e])
    rw [vL_snoc]
    have : B ^ m.length * 1 ≤ B ^ m.length * d := Nat.mul_le_mul_left _ (Nat.pos_of_ne_zero hd)
    simp only [List.length_append, List.length_singleton, Nat.add_sub_cancel]
    omega
theorem len_lt {B : Nat} (hB : 1 < B) {a b : List Nat} (ha : Dl B a) (hb : Nz b) (h : a.length < b.length) : vL B a < vL B b := by
  have h1 := vL_lt ha
  have h2 := vL_ge hB hb (by intro e; subst e; simp at h)
  have h3 : B ^ a.length ≤ B ^ (b.length - 1) := Nat.pow_le_pow_right (by omega) (by omega)
  omega
/-- Compared from the highest digit on. -/
theorem cmp_top {B : Nat} (hB : 1 < B) {a b : List Nat} {i : Nat} (ha : Dl B a) (hb : Dl B b) (hi : i < a.length) (hl : a.length = b.length) (heq : a.drop (i + 1) = b.drop (i + 1)) (hlt : a.getD i 0 < b.getD i 0) : vL B a < vL B b := by
  have e1 : a.drop i = a.getD i 0 :: a.drop (i + 1) := by
    rw [List.drop_eq_getElem_cons hi, List.getD_eq_getElem?_getD, List.getElem?_eq_getElem hi]; rfl
  have e2 : b.drop i = b.getD i 0 :: b.drop (i + 1) := by
    rw [List.drop_eq_getElem_cons (by omega), List.getD_eq_getElem?_getD, List.getElem?_eq_getElem (by omega)]; rfl
  rw [vL_take hB (l := a) (n := i) (by omega), vL_take hB (l := b) (n := i) (by omega), e1, e2, vL, vL, heq]
  have h1 : vL B (a.take i) < B ^ i := by
    have := vL_lt (B := B) (l := a.take i) fun d hd => ha d (List.mem_of_mem_take hd)
    simpa [Nat.min_eq_left (show i ≤ a.length by omega)] using this
  have h2 : B ^ i * (a.getD i 0 + B * vL B (b.drop (i + 1)) + 1) ≤ B ^ i * (b.getD i 0 + B * vL B (b.drop (i + 1))) := Nat.mul_le_mul_left _ (by omega)
  rw [Nat.mul_add, Nat.mul_one] at h2
  omega

/-! ### long division: one digit -/
/-- The estimate of a digit from the two highest digits of the divisor and the three of the number: at most one too great. -/
theorem est_le {U V U3 V2 W q : Nat} (hV : V < (V2 + 1) * W) (hU : U3 * W ≤ U) (hq : q * V2 ≤ U3) (hqW : q * W ≤ V) (hq1 : 1 ≤ q) : (q - 1) * V ≤ U := by
  have h1 : q * V ≤ q * ((V2 + 1) * W) := Nat.mul_le_mul_left q (Nat.le_of_lt hV)
  have h2 : q * ((V2 + 1) * W) = q * V2 * W + q * W := by rw [← Nat.mul_assoc, Nat.mul_add, Nat.mul_one, Nat.add_mul]
  have h3 : q * V2 * W ≤ U3 * W := Nat.mul_le_mul_right W hq
  have h4 : q * V = (q - 1) * V + V := by
    obtain ⟨k, rfl⟩ : ∃ k, q = k + 1 := ⟨q - 1, by omega⟩
    rw [Nat.add_sub_cancel, Nat.add_mul, Nat.one_mul]
  omega
/-- It is never too small. -/
theorem est_ge {U V U3 V2 W q Q : Nat} (hV : V2 * W ≤ V) (hU : U < (U3 + 1) * W) (hQ : Q * V ≤ U) (hq : U3 < q * V2) : Q < q := by
  rcases Nat.lt_or_ge Q q with h | h
  · exact h
  · exfalso
    have h1 : q * V2 ≤ Q * V2 := Nat.mul_le_mul_right V2 h
    have h2 : Q * V2 * W ≤ Q * V := by rw [Nat.mul_assoc]; exact Nat.mul_le_mul_left Q hV
    have h3 : (U3 + 1) * W ≤ Q * V2 * W := Nat.mul_le_mul_right W (by omega)
    omega
end Go.Proofs.Ytbfbgkhlngkifaa.Nu

/- The functions of the program in the abstract machine's words, printed by a program of ours; each is the program's by the kernel's reckoning.
   Conditions: none. -/
namespace Go.Proofs.Ytbfbgkhlngkifaa.Af
open Go Go.RowKit Go.Proofs.Ytbfbgkhlngkifaa.Am
theorem hm : Try.prog.follows .mixedOrders = true := by kernel_rfl
/-- diorama/dioramalaw20.CodeRuns -/
def dioramalaw20_CodeRuns : AF := ⟨86, [.tmp 6],
 .seq (
  .ops [D 3 (.box (T 0)),
   D 6 (.mv (.const (.bool false)))]) (
 .trim [1, 2, 3] (
  .trim [1, 2, 3, 25] (
   .ops [D 16 (.fa 1 (T 3)),
    D 17 (.ld1 (T 16)),
    D 18 (.mv (T 17)),
    ⟨(some 19), some (18, false), .mv (T 2)⟩,
    ⟨(some 20), some (18, false), .bin .lss (T 19) (I 0)⟩,
    D 21 (.pick (T 18) (.const (.bool true)) (T 20)),
    D 22 (.mv (T 21)),
    ⟨(some 23), some (22, false), .mv (T 2)⟩,
    ⟨(some 24), some (22, false), .bin .geq (T 23) (I 1000)⟩,
    D 25 (.pick (T 22) (.const (.bool true)) (T 24))]) (
  .cond (T 25) (
   .seq (
    .ops [D 26 (.call 9 []),
     D 6 (.mv (T 26))]) (
   .ret)) (
   .skip))) (
 .trim [1, 2, 3, 7, 8] (
  .ops [D 28 (.ldN 2 (T 3)),
   D 29 (.mv (T 1)),
   D 30 (.build [(.int .i64 0), (.int .i64 0), (.int .i64 0), (.bool false), (.slice none 0 0), (.slice none 0 0)] [(0, 1, (T 29)), (1, 1, (I 0)), (2, 1, (I 1000))]),
   D 31 (.bslice [(.int .i64 0), (.int .i64 0), (.int .i64 0), (.bool false), (.slice none 0 0), (.slice none 0 0)] 1 [(0, 6, (T 30))]),
   D 32 (.call 10 [(T 28), (I 1), (I 100), (T 31)]),
   D 27 (.mv (T 32)),
   D 33 (.ext (T 27) 0),
   D 34 (.ext (T 27) 1),
   D 7 (.alloc [(.int .i64 0), (.int .i64 0), (.string ⟨#[]⟩), (.int .i64 0), (.slice none 0 0), (.string ⟨#[]⟩), (.string ⟨#[]⟩), (.int .i64 0), (.slice none 0 0), (.slice none 0 0), (.slice none 0 0)]),
   E (.st 11 (T 7) (T 33)),
   D 8 (.mv (T 34))]) (
 .seq (
  .seq (
   .ops [D 35 (.mv (T 8)),
    D 36 (.bin .neq (T 35) (I 0))]) (
  .cond (T 36) (
   .seq (
    .ops [D 37 (.call 9 []),
     D 6 (.mv (T 37))]) (
   .ret)) (
   .skip))) (
 .trim [1, 2, 3, 9, 10, 11] (
  .ops [D 39 (.ldN 11 (T 7)),
   D 40 (.bslice [(.int .i64 0), (.int .i64 0), (.string ⟨#[]⟩), (.int .i64 0), (.slice none 0 0), (.string ⟨#[]⟩), (.string ⟨#[]⟩), (.int .i64 0), (.slice none 0 0), (.slice none 0 0), (.slice none 0 0)] 1 [(0, 11, (T 39))]),
   D 41 (.build [(.int .i64 0), (.string ⟨#[]⟩), (.slice none 0 0), (.slice none 0 0), (.slice none 0 0), (.slice none 0 0)] [(0, 1, (I 10)), (2, 1, (T 40))]),
   D 42 (.mv (T 2)),
   D 43 (.build [(.int .i64 0), (.int .i64 0)] [(0, 1, (T 42)), (1, 1, (I 100))]),
   D 44 (.call 11 [(T 41), (I 1), (T 43)]),
   D 38 (.mv (T 44)),
   D 45 (.ext (T 38) 0),
   D 46 (.ext (T 38) 1),
   D 47 (.ext (T 38) 2),
   D 9 (.alloc [(.int .i64 0), (.int .i64 0), (.int .i64 0), (.int .i64 0)]),
   E (.st 4 (T 9) (T 45)),
   D 10 (.mv (T 46)),
   D 11 (.mv (T 47))]) (
 .trim [2, 3, 9, 10, 11, 12, 13] (
  .ops [D 49 (.ldN 2 (T 3)),
   D 50 (.mv (T 1)),
   D 51 (.call 12 [(T 49), (T 50)]),
   D 48 (.mv (T 51)),
   D 52 (.ext (T 48) 0),
   D 53 (.ext (T 48) 1),
   D 12 (.alloc [(.int .i64 0), (.int .i64 0), (.int .i64 0), (.int .i64 0)]),
   E (.st 4 (T 12) (T 52)),
   D 13 (.mv (T 53))]) (
 .trim [9, 10, 11, 13, 14, 15] (
  .ops [D 55 (.ldN 2 (T 3)),
   D 56 (.ldN 4 (T 12)),
   D 57 (.mv (T 2)),
   D 58 (.fa 0 (T 3)),
   D 59 (.ld1 (T 58)),
   D 60 (.bin .mul (T 57) (T 59)),
   D 61 (.bin .quo (T 60) (I 100)),
   D 62 (.call 13 [(T 55), (T 56), (T 61)]),
   D 54 (.mv (T 62)),
   D 63 (.ext (T 54) 0),
   D 64 (.ext (T 54) 1),
   D 14 (.alloc [(.int .i64 0), (.int .i64 0), (.int .i64 0), (.int .i64 0)]),
   E (.st 4 (T 14) (T 63)),
   D 15 (.mv (T 64))]) (
 .trim [6] (
  .ops [D 65 (.mv (T 10)),
   D 66 (.mv (T 65)),
   ⟨(some 67), some (66, true), .mv (T 11)⟩,
   ⟨(some 68), some (66, true), .bin .eql (T 67) (I 0)⟩,
   D 69 (.pick (T 66) (T 68) (.const (.bool false))),
   D 70 (.mv (T 69)),
   ⟨(some 71), some (70, true), .mv (T 13)⟩,
   ⟨(some 72), some (70, true), .bin .eql (T 71) (I 0)⟩,
   D 73 (.pick (T 70) (T 72) (.const (.bool false))),
   D 74 (.mv (T 73)),
   ⟨(some 75), some (74, true), .mv (T 15)⟩,
   ⟨(some 76), some (74, true), .bin .eql (T 75) (I 0)⟩,
   D 77 (.pick (T 74) (T 76) (.const (.bool false))),
   D 78 (.mv (T 77)),
   ⟨(some 79), some (78, true), .ldN 4 (T 9)⟩,
   ⟨(some 80), some (78, true), .ldN 4 (T 14)⟩,
   ⟨(some 81), some (78, true), .eqa false [1, 1, 1, 1] (T 79) (T 80)⟩,
   D 82 (.pick (T 78) (T 81) (.const (.bool false))),
   D 83 (.mv (T 82)),
   ⟨(some 84), some (83, true), .call 9 []⟩,
   D 85 (.pick (T 83) (T 84) (.const (.bool false))),
   D 6 (.mv (T 85))]) (
 .ret))))))))⟩
theorem dioramalaw20_CodeRuns_ok : Ok Try.prog 4 dioramalaw20_CodeRuns := ⟨by kernel_rfl, by kernel_rfl⟩

/-- diorama/dioramalaw20.awake -/
def dioramalaw20_awake : AF := ⟨35, [.tmp 0],
 .seq (
  .ops [D 0 (.mv (.const (.bool false)))]) (
 .seq (
  .ops [D 6 (.build [(.int .i64 0), (.bool false)] [(0, 1, (I 30)), (1, 1, (.const (.bool true)))]),
   D 1 (.alloc [(.int .i64 0), (.bool false)]),
   E (.st 2 (T 1) (T 6))]) (
 .trim [1, 2, 3] (
  .ops [D 8 (.ldN 2 (T 1)),
   D 9 (.build [(.int .i64 0), (.int .i64 0), (.int .i64 0), (.int .i64 0)] [(2, 1, (I 59)), (3, 1, (I 29))]),
   D 10 (.call 13 [(T 8), (T 9), (I 1)]),
   D 7 (.mv (T 10)),
   D 11 (.ext (T 7) 0),
   D 12 (.ext (T 7) 1),
   D 2 (.alloc [(.int .i64 0), (.int .i64 0), (.int .i64 0), (.int .i64 0)]),
   E (.st 4 (T 2) (T 11)),
   D 3 (.mv (T 12))]) (
 .trim [2, 3, 4, 5] (
  .ops [D 14 (.ldN 2 (T 1)),
   D 15 (.build [(.int .i64 0), (.int .i64 0), (.int .i64 0), (.int .i64 0)] [(1, 1, (I 9)), (2, 1, (I 59)), (3, 1, (I 29))]),
   D 16 (.call 13 [(T 14), (T 15), (I 1)]),
   D 13 (.mv (T 16)),
   D 17 (.ext (T 13) 0),
   D 18 (.ext (T 13) 1),
   D 4 (.alloc [(.int .i64 0), (.int .i64 0), (.int .i64 0), (.int .i64 0)]),
   E (.st 4 (T 4) (T 17)),
   D 5 (.mv (T 18))]) (
 .trim [0] (
  .ops [D 19 (.mv (T 3)),
   D 20 (.bin .eql (T 19) (I 0)),
   D 21 (.mv (T 20)),
   ⟨(some 22), some (21, true), .mv (T 5)⟩,
   ⟨(some 23), some (21, true), .bin .eql (T 22) (I 0)⟩,
   D 24 (.pick (T 21) (T 23) (.const (.bool false))),
   D 25 (.mv (T 24)),
   ⟨(some 26), some (25, true), .ldN 4 (T 2)⟩,
   ⟨(some 27), some (25, true), .build [(.int .i64 0), (.int .i64 0), (.int .i64 0), (.int .i64 0)] [(1, 1, (I 1)), (3, 1, (I 2))]⟩,
   ⟨(some 28), some (25, true), .eqa false [1, 1, 1, 1] (T 26) (T 27)⟩,
   D 29 (.pick (T 25) (T 28) (.const (.bool false))),
   D 30 (.mv (T 29)),
   ⟨(some 31), some (30, true), .ldN 4 (T 4)⟩,
   ⟨(some 32), some (30, true), .build [(.int .i64 0), (.int .i64 0), (.int .i64 0), (.int .i64 0)] [(1, 1, (I 10))]⟩,
   ⟨(some 33), some (30, true), .eqa false [1, 1, 1, 1] (T 31) (T 32)⟩,
   D 34 (.pick (T 30) (T 33) (.const (.bool false))),
   D 0 (.mv (T 34))]) (
 .ret)))))⟩
theorem dioramalaw20_awake_ok : Ok Try.prog 9 dioramalaw20_awake := ⟨by kernel_rfl, by kernel_rfl⟩

/-- diorama/code.Track -/
def code_Track : AF := ⟨90, [.cellN 11 8, .tmp 9],
 .seq (
  .ops [D 4 (.box (T 0)),
   D 8 (.alloc [(.int .i64 0), (.int .i64 0), (.string ⟨#[]⟩), (.int .i64 0), (.slice none 0 0), (.string ⟨#[]⟩), (.string ⟨#[]⟩), (.int .i64 0), (.slice none 0 0), (.slice none 0 0), (.slice none 0 0)]),
   D 9 (.mv (I 0))]) (
 .trim [1, 2, 3, 4, 8] (
  .seq (
   .ops [D 17 (.ldN 2 (T 4)),
    D 18 (.call 21 [(T 17)]),
    D 10 (.mv (T 18))]) (
  .seq (
   .ops [D 19 (.mv (T 10)),
    D 20 (.bin .neq (T 19) (I 0))]) (
  .cond (T 20) (
   .seq (
    .ops [D 21 (.build [(.int .i64 0), (.int .i64 0), (.string ⟨#[]⟩), (.int .i64 0), (.slice none 0 0), (.string ⟨#[]⟩), (.string ⟨#[]⟩), (.int .i64 0), (.slice none 0 0), (.slice none 0 0), (.slice none 0 0)] []),
     D 22 (.mv (T 10)),
     E (.st 11 (T 8) (T 21)),
     D 9 (.mv (T 22))]) (
   .ret)) (
   .skip)))) (
 .seq (
  .ops [D 11 (.mv (.const (.int .u8 0)))]) (
 .cut [1, 2, 3, 4, 8, 11] (
  .seq (
   .ops [D 23 (.fa 1 (T 4)),
    D 24 (.ld1 (T 23))]) (
  .cond (T 24) (
   .ops [D 11 (.mv (.const (.int .u8 1)))]) (
   .skip))) (
 .trim [3, 4, 8, 12] (
  .ops [D 25 (.mv (T 1)),
   D 26 (.mv (T 2)),
   D 27 (.fa 0 (T 4)),
   D 28 (.ld1 (T 27)),
   D 29 (.cvi .u8 (T 28)),
   D 30 (.mv (T 11)),
   D 31 (.bslice [(.int .u8 0), (.int .u8 0)] 2 [(0, 1, (T 29)), (1, 1, (T 30))]),
   D 32 (.build [(.int .i64 0), (.int .i64 0), (.string ⟨#[]⟩), (.int .i64 0), (.slice none 0 0), (.string ⟨#[]⟩), (.string ⟨#[]⟩), (.int .i64 0), (.slice none 0 0), (.slice none 0 0), (.slice none 0 0)] [(0, 1, (T 25)), (1, 1, (I 6)), (2, 1, (.const (.string ⟨#[116, 109, 99, 49]⟩))), (3, 1, (T 26)), (4, 1, (T 31)), (5, 1, (.const (.string ⟨#[117, 110, 100]⟩)))]),
   D 12 (.alloc [(.int .i64 0), (.int .i64 0), (.string ⟨#[]⟩), (.int .i64 0), (.slice none 0 0), (.string ⟨#[]⟩), (.string ⟨#[]⟩), (.int .i64 0), (.slice none 0 0), (.slice none 0 0), (.slice none 0 0)]),
   E (.st 11 (T 12) (T 32))]) (
 .trim [8, 12] (
  .seq (
   .ops [D 33 (.mv (T 3)),
    D 34 (.len (T 33)),
    D 35 (.mv (I 0))]) (
  .block 0 (
   .loop [4, 8, 12, 33, 34, 35] (
    .seq (
     .ops [D 36 (.bin .lss (T 35) (T 34))]) (
    .seq (
     .cond (T 36) (
      .skip) (
      .exit 0)) (
    .trim [4, 8, 12, 33, 34, 35] (
     .block 1 (
      .seq (
       .ops [D 37 (.ia 6 (T 33) (T 35)),
        D 38 (.ldN 6 (T 37)),
        D 14 (.alloc [(.int .i64 0), (.int .i64 0), (.int .i64 0), (.bool false), (.slice none 0 0), (.slice none 0 0)]),
        E (.st 6 (T 14) (T 38))]) (
      .seq (
       .ops [D 39 (.fa 0 (T 14)),
        D 40 (.ld1 (T 39)),
        D 15 (.mv (T 40))]) (
      .trim [4, 8, 12, 14, 15, 33, 34, 35] (
       .block 2 (
        .trim [4, 8, 12, 14, 15, 33, 34, 35, 41] (
         .ops [D 42 (.mv (T 15)),
          D 43 (.bin .lss (T 42) (I 0)),
          D 44 (.mv (T 43)),
          ⟨(some 45), some (44, false), .mv (T 15)⟩,
          ⟨(some 46), some (44, false), .ldN 2 (T 4)⟩,
          ⟨(some 47), some (44, false), .build [(.int .i64 0), (.bool false)] [(0, 2, (T 46))]⟩,
          ⟨(some 48), some (44, false), .call 22 [(T 47)]⟩,
          ⟨(some 49), some (44, false), .bin .geq (T 45) (T 48)⟩,
          D 50 (.pick (T 44) (.const (.bool true)) (T 49)),
          D 41 (.mv (T 50))]) (
        .cond (T 41) (
         .seq (
          .ops [D 51 (.build [(.int .i64 0), (.int .i64 0), (.string ⟨#[]⟩), (.int .i64 0), (.slice none 0 0), (.string ⟨#[]⟩), (.string ⟨#[]⟩), (.int .i64 0), (.slice none 0 0), (.slice none 0 0), (.slice none 0 0)] []),
           E (.st 11 (T 8) (T 51)),
           D 9 (.mv (I 1))]) (
         .ret)) (
         .seq (
          .ops [D 53 (.fa 5 (T 14)),
           D 54 (.ld1 (T 53)),
           D 55 (.len (T 54)),
           D 56 (.bin .gtr (T 55) (I 0)),
           D 52 (.mv (T 56))]) (
         .cond (T 52) (
          .seq (
           .ops [D 57 (.build [(.int .i64 0), (.int .i64 0), (.string ⟨#[]⟩), (.int .i64 0), (.slice none 0 0), (.string ⟨#[]⟩), (.string ⟨#[]⟩), (.int .i64 0), (.slice none 0 0), (.slice none 0 0), (.slice none 0 0)] []),
            E (.st 11 (T 8) (T 57)),
            D 9 (.mv (I 4))]) (
          .ret)) (
          .skip)))))) (
      .ops [D 58 (.fa 10 (T 12)),
       D 59 (.ld1 (T 58)),
       D 60 (.fa 1 (T 14)),
       D 61 (.ld1 (T 60)),
       D 62 (.fa 1 (T 14)),
       D 63 (.ld1 (T 62)),
       D 64 (.fa 2 (T 14)),
       D 65 (.ld1 (T 64)),
       D 66 (.mv (T 15)),
       D 67 (.shrc (T 66) 24),
       D 68 (.cvi .u8 (T 67)),
       D 69 (.mv (T 15)),
       D 70 (.shrc (T 69) 16),
       D 71 (.cvi .u8 (T 70)),
       D 72 (.mv (T 15)),
       D 73 (.shrc (T 72) 8),
       D 74 (.cvi .u8 (T 73)),
       D 75 (.mv (T 15)),
       D 76 (.cvi .u8 (T 75)),
       D 77 (.bslice [(.int .u8 0), (.int .u8 0), (.int .u8 0), (.int .u8 0)] 4 [(0, 1, (T 68)), (1, 1, (T 71)), (2, 1, (T 74)), (3, 1, (T 76))]),
       D 78 (.build [(.int .i64 0), (.int .i64 0), (.int .i64 0), (.bool false), (.slice none 0 0), (.slice none 0 0)] [(0, 1, (T 61)), (1, 1, (T 63)), (2, 1, (T 65)), (3, 1, (.const (.bool true))), (5, 1, (T 77))]),
       D 79 (.bslice [(.int .i64 0), (.int .i64 0), (.int .i64 0), (.bool false), (.slice none 0 0), (.slice none 0 0)] 1 [(0, 6, (T 78))]),
       D 80 (.app 6 80 (T 59) (T 79)),
       D 81 (.fa 10 (T 12)),
       E (.st 1 (T 81) (T 80))]))))) (
    .ops [D 82 (.bin .add (T 35) (I 1)),
     D 35 (.mv (T 82))]))))))) (
 .trim [8, 12] (
  .seq (
   .ops [D 83 (.ldN 11 (T 12)),
    D 84 (.call 23 [(T 83)]),
    D 16 (.mv (T 84))]) (
  .seq (
   .ops [D 85 (.mv (T 16)),
    D 86 (.bin .neq (T 85) (I 0))]) (
  .cond (T 86) (
   .seq (
    .ops [D 87 (.build [(.int .i64 0), (.int .i64 0), (.string ⟨#[]⟩), (.int .i64 0), (.slice none 0 0), (.string ⟨#[]⟩), (.string ⟨#[]⟩), (.int .i64 0), (.slice none 0 0), (.slice none 0 0), (.slice none 0 0)] []),
     D 88 (.mv (T 16)),
     E (.st 11 (T 8) (T 87)),
     D 9 (.mv (T 88))]) (
   .ret)) (
   .skip)))) (
 .seq (
  .ops [D 89 (.ldN 11 (T 12)),
   E (.st 11 (T 8) (T 89)),
   D 9 (.mv (I 0))]) (
 .ret))))))))⟩
theorem code_Track_ok : Ok Try.prog 10 code_Track := ⟨by kernel_rfl, by kernel_rfl⟩

/-- diorama/code.At -/
def code_At : AF := ⟨61, [.cellN 4 6, .tmp 7, .tmp 8],
 .seq (
  .ops [D 3 (.box (T 0)),
   D 5 (.box (T 2)),
   D 6 (.alloc [(.int .i64 0), (.int .i64 0), (.int .i64 0), (.int .i64 0)]),
   D 7 (.mv (.const (.bool false))),
   D 8 (.mv (I 0))]) (
 .trim [1, 3, 5, 6] (
  .trim [1, 3, 5, 6, 10] (
   .ops [D 16 (.ldN 6 (T 3)),
    D 17 (.mv (T 1)),
    D 18 (.ldN 2 (T 5)),
    D 19 (.call 24 [(T 16), (T 17), (T 18)]),
    D 15 (.mv (T 19)),
    D 20 (.ext (T 15) 0),
    D 21 (.ext (T 15) 1),
    D 9 (.mv (T 20)),
    D 10 (.mv (T 21))]) (
  .seq (
   .ops [D 22 (.mv (T 10)),
    D 23 (.bin .neq (T 22) (I 0))]) (
  .cond (T 23) (
   .seq (
    .ops [D 24 (.build [(.int .i64 0), (.int .i64 0), (.int .i64 0), (.int .i64 0)] []),
     D 25 (.mv (T 10)),
     E (.st 4 (T 6) (T 24)),
     D 7 (.mv (.const (.bool false))),
     D 8 (.mv (T 25))]) (
   .ret)) (
   .skip)))) (
 .trim [5, 6, 11, 12] (
  .ops [D 27 (.ldN 6 (T 3)),
   D 28 (.mv (T 1)),
   D 29 (.call 25 [(T 27), (T 28)]),
   D 26 (.mv (T 29)),
   D 30 (.ext (T 26) 0),
   D 31 (.ext (T 26) 1),
   D 11 (.mv (T 30)),
   D 12 (.mv (T 31))]) (
 .trim [5, 6, 11] (
  .seq (
   .ops [D 32 (.mv (T 12)),
    D 33 (.bin .neq (T 32) (I 0))]) (
  .cond (T 33) (
   .seq (
    .ops [D 34 (.build [(.int .i64 0), (.int .i64 0), (.int .i64 0), (.int .i64 0)] []),
     D 35 (.mv (T 12)),
     E (.st 4 (T 6) (T 34)),
     D 7 (.mv (.const (.bool false))),
     D 8 (.mv (T 35))]) (
   .ret)) (
   .skip))) (
 .trim [6, 11, 12, 13, 14] (
  .ops [D 37 (.mv (T 11)),
   D 38 (.fa 0 (T 5)),
   D 39 (.ld1 (T 38)),
   D 40 (.fa 1 (T 5)),
   D 41 (.ld1 (T 40)),
   D 42 (.call 27 [(T 39), (T 41)]),
   D 43 (.call 26 [(T 37), (T 42)]),
   D 36 (.mv (T 43)),
   D 44 (.ext (T 36) 0),
   D 45 (.ext (T 36) 1),
   D 46 (.ext (T 36) 2),
   D 13 (.mv (T 44)),
   D 14 (.mv (T 45)),
   D 12 (.mv (T 46))]) (
 .trim [6, 11, 13] (
  .trim [6, 11, 12, 13, 52] (
   .ops [D 47 (.mv (T 14)),
    D 48 (.un .not (T 47)),
    D 49 (.mv (T 48)),
    ⟨(some 50), some (49, false), .mv (T 12)⟩,
    ⟨(some 51), some (49, false), .bin .neq (T 50) (I 0)⟩,
    D 52 (.pick (T 49) (.const (.bool true)) (T 51))]) (
  .cond (T 52) (
   .seq (
    .ops [D 53 (.build [(.int .i64 0), (.int .i64 0), (.int .i64 0), (.int .i64 0)] []),
     D 54 (.mv (T 12)),
     E (.st 4 (T 6) (T 53)),
     D 7 (.mv (.const (.bool false))),
     D 8 (.mv (T 54))]) (
   .ret)) (
   .skip))) (
 .trim [6, 7, 8] (
  .ops [D 55 (.mv (T 11)),
   D 56 (.nil (T 55)),
   D 57 (.fa 17 (T 56)),
   D 58 (.ldN 2 (T 57)),
   D 59 (.mv (T 13)),
   D 60 (.call 28 [(T 58), (T 59)]),
   E (.st 4 (T 6) (T 60)),
   D 7 (.mv (.const (.bool true))),
   D 8 (.mv (I 0))]) (
 .ret)))))))⟩
theorem code_At_ok : Ok Try.prog 11 code_At := ⟨by kernel_rfl, by kernel_rfl⟩

/-- diorama/code.Code -/
def code_Code : AF := ⟨28, [.cellN 4 4, .tmp 5],
 .seq (
  .ops [D 2 (.box (T 0)),
   D 4 (.alloc [(.int .i64 0), (.int .i64 0), (.int .i64 0), (.int .i64 0)]),
   D 5 (.mv (I 0))]) (
 .trim [1, 2, 4] (
  .seq (
   .ops [D 8 (.ldN 2 (T 2)),
    D 9 (.call 21 [(T 8)]),
    D 6 (.mv (T 9))]) (
  .seq (
   .ops [D 10 (.mv (T 6)),
    D 11 (.bin .neq (T 10) (I 0))]) (
  .cond (T 11) (
   .seq (
    .ops [D 12 (.build [(.int .i64 0), (.int .i64 0), (.int .i64 0), (.int .i64 0)] []),
     D 13 (.mv (T 6)),
     E (.st 4 (T 4) (T 12)),
     D 5 (.mv (T 13))]) (
   .ret)) (
   .skip)))) (
 .seq (
  .ops [D 14 (.ldN 2 (T 2)),
   D 15 (.build [(.int .i64 0), (.bool false)] [(0, 2, (T 14))]),
   D 7 (.alloc [(.int .i64 0), (.bool false)]),
   E (.st 2 (T 7) (T 15))]) (
 .trim [1, 4, 7] (
  .trim [1, 4, 7, 23] (
   .ops [D 16 (.mv (T 1)),
    D 17 (.bin .lss (T 16) (I 0)),
    D 18 (.mv (T 17)),
    ⟨(some 19), some (18, false), .mv (T 1)⟩,
    ⟨(some 20), some (18, false), .ldN 2 (T 7)⟩,
    ⟨(some 21), some (18, false), .call 22 [(T 20)]⟩,
    ⟨(some 22), some (18, false), .bin .geq (T 19) (T 21)⟩,
    D 23 (.pick (T 18) (.const (.bool true)) (T 22))]) (
  .cond (T 23) (
   .seq (
    .ops [D 24 (.build [(.int .i64 0), (.int .i64 0), (.int .i64 0), (.int .i64 0)] []),
     E (.st 4 (T 4) (T 24)),
     D 5 (.mv (I 1))]) (
   .ret)) (
   .skip))) (
 .seq (
  .ops [D 25 (.ldN 2 (T 7)),
   D 26 (.mv (T 1)),
   D 27 (.call 28 [(T 25), (T 26)]),
   E (.st 4 (T 4) (T 27)),
   D 5 (.mv (I 0))]) (
 .ret)))))⟩
theorem code_Code_ok : Ok Try.prog 12 code_Code := ⟨by kernel_rfl, by kernel_rfl⟩

/-- diorama/code.Add -/
def code_Add : AF := ⟨32, [.cellN 4 6, .tmp 7],
 .seq (
  .ops [D 3 (.box (T 0)),
   D 4 (.box (T 1)),
   D 6 (.alloc [(.int .i64 0), (.int .i64 0), (.int .i64 0), (.int .i64 0)]),
   D 7 (.mv (I 0))]) (
 .trim [2, 3, 4, 6] (
  .seq (
   .ops [D 10 (.ldN 2 (T 3)),
    D 11 (.ldN 4 (T 4)),
    D 12 (.call 29 [(T 10), (T 11)]),
    D 8 (.mv (T 12))]) (
  .seq (
   .ops [D 13 (.mv (T 8)),
    D 14 (.bin .neq (T 13) (I 0))]) (
  .cond (T 14) (
   .seq (
    .ops [D 15 (.build [(.int .i64 0), (.int .i64 0), (.int .i64 0), (.int .i64 0)] []),
     D 16 (.mv (T 8)),
     E (.st 4 (T 6) (T 15)),
     D 7 (.mv (T 16))]) (
   .ret)) (
   .skip)))) (
 .trim [2, 3, 4, 6] (
  .seq (
   .ops [D 17 (.mv (T 2)),
    D 18 (.call 30 [(T 17), (I (-1099511627776)), (I 1099511627776)]),
    D 19 (.un .not (T 18))]) (
  .cond (T 19) (
   .seq (
    .ops [D 20 (.build [(.int .i64 0), (.int .i64 0), (.int .i64 0), (.int .i64 0)] []),
     E (.st 4 (T 6) (T 20)),
     D 7 (.mv (I 1))]) (
   .ret)) (
   .skip))) (
 .seq (
  .ops [D 21 (.ldN 2 (T 3)),
   D 22 (.build [(.int .i64 0), (.bool false)] [(0, 2, (T 21))]),
   D 9 (.alloc [(.int .i64 0), (.bool false)]),
   E (.st 2 (T 9) (T 22))]) (
 .trim [6, 7] (
  .draw [⟨0, 1, 0, D 23 (.ldN 2 (T 9))⟩,
   ⟨1, 1, 0, D 24 (.ldN 2 (T 9))⟩,
   ⟨2, 1, 0, D 25 (.ldN 2 (T 9))⟩,
   ⟨3, 1, 0, D 26 (.ldN 4 (T 4))⟩,
   ⟨5, 0, 0, D 28 (.mv (T 2))⟩,
   ⟨4, 4, 12, D 27 (.call 32 [(T 25), (T 26)])⟩,
   ⟨6, 0, 60, D 29 (.bin .add (T 27) (T 28))⟩,
   ⟨7, 4, 126, D 30 (.call 31 [(T 24), (T 29)])⟩,
   ⟨8, 4, 255, D 31 (.call 28 [(T 23), (T 30)])⟩,
   ⟨9, 4, 511, E (.st 4 (T 6) (T 31))⟩,
   ⟨10, 0, 1023, D 7 (.mv (I 0))⟩]) (
 .ret)))))⟩
theorem code_Add_ok : Ok Try.prog 13 code_Add := ⟨by kernel_rfl, by kernel_rfl⟩

/-- diorama/exact.Valid -/
def exact_Valid : AF := ⟨21, [.tmp 2],
 .seq (
  .ops [D 1 (.box (T 0)),
   D 2 (.mv (.const (.bool false)))]) (
 .trim [2] (
  .ops [D 3 (.fa 1 (T 1)),
   D 4 (.ld1 (T 3)),
   D 5 (.bin .geq (T 4) (I 1)),
   D 6 (.mv (T 5)),
   ⟨(some 7), some (6, true), .fa 1 (T 1)⟩,
   ⟨(some 8), some (6, true), .ld1 (T 7)⟩,
   ⟨(some 9), some (6, true), .bin .leq (T 8) (I 1152921504606846976)⟩,
   D 10 (.pick (T 6) (T 9) (.const (.bool false))),
   D 11 (.mv (T 10)),
   ⟨(some 12), some (11, true), .fa 0 (T 1)⟩,
   ⟨(some 13), some (11, true), .ld1 (T 12)⟩,
   ⟨(some 14), some (11, true), .bin .geq (T 13) (I (-1152921504606846976))⟩,
   D 15 (.pick (T 11) (T 14) (.const (.bool false))),
   D 16 (.mv (T 15)),
   ⟨(some 17), some (16, true), .fa 0 (T 1)⟩,
   ⟨(some 18), some (16, true), .ld1 (T 17)⟩,
   ⟨(some 19), some (16, true), .bin .leq (T 18) (I 1152921504606846976)⟩,
   D 20 (.pick (T 16) (T 19) (.const (.bool false))),
   D 2 (.mv (T 20))]) (
 .ret))⟩
theorem exact_Valid_ok : Ok Try.prog 17 exact_Valid := ⟨by kernel_rfl, by kernel_rfl⟩

/-- diorama/code.Check -/
def code_Check : AF := ⟨21, [.tmp 2],
 .seq (
  .ops [D 1 (.box (T 0)),
   D 2 (.mv (I 0))]) (
 .trim [] (
  .trim [20] (
   .ops [D 3 (.fa 0 (T 1)),
    D 4 (.ld1 (T 3)),
    D 5 (.call 30 [(T 4), (I 1), (I 60)]),
    D 6 (.un .not (T 5)),
    D 7 (.mv (T 6)),
    ⟨(some 8), some (7, false), .fa 1 (T 1)⟩,
    ⟨(some 9), some (7, false), .ld1 (T 8)⟩,
    ⟨(some 10), some (7, false), .mv (T 9)⟩,
    ⟨(some 11), some (10, true), .fa 0 (T 1)⟩,
    ⟨(some 12), some (10, true), .ld1 (T 11)⟩,
    ⟨(some 13), some (10, true), .bin .neq (T 12) (I 30)⟩,
    ⟨(some 14), some (7, false), .pick (T 10) (T 13) (.const (.bool false))⟩,
    ⟨(some 15), some (7, false), .mv (T 14)⟩,
    ⟨(some 16), some (15, true), .fa 0 (T 1)⟩,
    ⟨(some 17), some (15, true), .ld1 (T 16)⟩,
    ⟨(some 18), some (15, true), .bin .neq (T 17) (I 60)⟩,
    ⟨(some 19), some (7, false), .pick (T 15) (T 18) (.const (.bool false))⟩,
    D 20 (.pick (T 7) (.const (.bool true)) (T 19))]) (
  .cond (T 20) (
   .seq (
    .ops [D 2 (.mv (I 1))]) (
   .ret)) (
   .skip))) (
 .seq (
  .ops [D 2 (.mv (I 0))]) (
 .ret)))⟩
theorem code_Check_ok : Ok Try.prog 21 code_Check := ⟨by kernel_rfl, by kernel_rfl⟩

/-- (diorama/code.steps).day -/
def code_steps__day : AF := ⟨6, [.tmp 2],
 .seq (
  .ops [D 1 (.box (T 0)),
   D 2 (.mv (I 0))]) (
 .seq (
  .ops [D 3 (.ldN 2 (T 1)),
   D 4 (.call 44 [(T 3)]),
   D 5 (.bin .mul (I 144) (T 4)),
   D 2 (.mv (T 5))]) (
 .ret))⟩
theorem code_steps__day_ok : Ok Try.prog 22 code_steps__day := ⟨by kernel_rfl, by kernel_rfl⟩

/-- diorama/model.CheckTrack -/
def model_CheckTrack : AF := ⟨155, [.tmp 2],
 .seq (
  .ops [D 1 (.box (T 0)),
   D 2 (.mv (I 0))]) (
 .trim [1] (
  .trim [1, 51] (
   .ops [D 12 (.fa 0 (T 1)),
    D 13 (.ld1 (T 12)),
    D 14 (.call 45 [(T 13), (I 1), (I 1000)]),
    D 15 (.un .not (T 14)),
    D 16 (.mv (T 15)),
    ⟨(some 17), some (16, false), .fa 1 (T 1)⟩,
    ⟨(some 18), some (16, false), .ld1 (T 17)⟩,
    ⟨(some 19), some (16, false), .call 45 [(T 18), (I 1), (I 7)]⟩,
    ⟨(some 20), some (16, false), .un .not (T 19)⟩,
    D 21 (.pick (T 16) (.const (.bool true)) (T 20)),
    D 22 (.mv (T 21)),
    ⟨(some 23), some (22, false), .fa 2 (T 1)⟩,
    ⟨(some 24), some (22, false), .ld1 (T 23)⟩,
    ⟨(some 25), some (22, false), .call 46 [(T 24), (I 4), (.const (.bool true))]⟩,
    ⟨(some 26), some (22, false), .un .not (T 25)⟩,
    D 27 (.pick (T 22) (.const (.bool true)) (T 26)),
    D 28 (.mv (T 27)),
    ⟨(some 29), some (28, false), .fa 3 (T 1)⟩,
    ⟨(some 30), some (28, false), .ld1 (T 29)⟩,
    ⟨(some 31), some (28, false), .call 45 [(T 30), (I 1), (I 1000000)]⟩,
    ⟨(some 32), some (28, false), .un .not (T 31)⟩,
    D 33 (.pick (T 28) (.const (.bool true)) (T 32)),
    D 34 (.mv (T 33)),
    ⟨(some 35), some (34, false), .fa 5 (T 1)⟩,
    ⟨(some 36), some (34, false), .ld1 (T 35)⟩,
    ⟨(some 37), some (34, false), .call 46 [(T 36), (I 3), (.const (.bool false))]⟩,
    ⟨(some 38), some (34, false), .un .not (T 37)⟩,
    D 39 (.pick (T 34) (.const (.bool true)) (T 38)),
    D 40 (.mv (T 39)),
    ⟨(some 41), some (40, false), .fa 6 (T 1)⟩,
    ⟨(some 42), some (40, false), .ld1 (T 41)⟩,
    ⟨(some 43), some (40, false), .call 47 [(T 42)]⟩,
    ⟨(some 44), some (40, false), .un .not (T 43)⟩,
    D 45 (.pick (T 40) (.const (.bool true)) (T 44)),
    D 46 (.mv (T 45)),
    ⟨(some 47), some (46, false), .fa 7 (T 1)⟩,
    ⟨(some 48), some (46, false), .ld1 (T 47)⟩,
    ⟨(some 49), some (46, false), .call 45 [(T 48), (I 0), (I 1099511627776)]⟩,
    ⟨(some 50), some (46, false), .un .not (T 49)⟩,
    D 51 (.pick (T 46) (.const (.bool true)) (T 50))]) (
  .cond (T 51) (
   .seq (
    .ops [D 2 (.mv (I 1))]) (
   .ret)) (
   .skip))) (
 .trim [1] (
  .seq (
   .ops [D 52 (.fa 9 (T 1)),
    D 53 (.ld1 (T 52)),
    D 54 (.len (T 53)),
    D 55 (.mv (I 0))]) (
  .block 0 (
   .loop [1, 53, 54, 55] (
    .seq (
     .ops [D 56 (.bin .lss (T 55) (T 54))]) (
    .seq (
     .cond (T 56) (
      .skip) (
      .exit 0)) (
    .trim [1, 53, 54, 55] (
     .block 1 (
      .seq (
       .ops [D 57 (.ia 2 (T 53) (T 55)),
        D 58 (.ldN 2 (T 57)),
        D 4 (.alloc [(.string ⟨#[]⟩), (.int .i64 0)]),
        E (.st 2 (T 4) (T 58))]) (
      .seq (
       .ops [D 59 (.fa 0 (T 4)),
        D 60 (.ld1 (T 59)),
        D 61 (.call 46 [(T 60), (I 4), (.const (.bool true))]),
        D 62 (.un .not (T 61))]) (
      .cond (T 62) (
       .seq (
        .ops [D 2 (.mv (I 1))]) (
       .ret)) (
       .skip))))) (
    .ops [D 63 (.bin .add (T 55) (I 1)),
     D 55 (.mv (T 63))]))))))) (
 .trim [1] (
  .trim [1, 85] (
   .ops [D 64 (.fa 4 (T 1)),
    D 65 (.ld1 (T 64)),
    D 66 (.len (T 65)),
    D 67 (.bin .gtr (T 66) (I 1000)),
    D 68 (.mv (T 67)),
    ⟨(some 69), some (68, false), .fa 8 (T 1)⟩,
    ⟨(some 70), some (68, false), .ld1 (T 69)⟩,
    ⟨(some 71), some (68, false), .len (T 70)⟩,
    ⟨(some 72), some (68, false), .bin .gtr (T 71) (I 20)⟩,
    D 73 (.pick (T 68) (.const (.bool true)) (T 72)),
    D 74 (.mv (T 73)),
    ⟨(some 75), some (74, false), .fa 9 (T 1)⟩,
    ⟨(some 76), some (74, false), .ld1 (T 75)⟩,
    ⟨(some 77), some (74, false), .len (T 76)⟩,
    ⟨(some 78), some (74, false), .bin .gtr (T 77) (I 8)⟩,
    D 79 (.pick (T 74) (.const (.bool true)) (T 78)),
    D 80 (.mv (T 79)),
    ⟨(some 81), some (80, false), .fa 10 (T 1)⟩,
    ⟨(some 82), some (80, false), .ld1 (T 81)⟩,
    ⟨(some 83), some (80, false), .len (T 82)⟩,
    ⟨(some 84), some (80, false), .bin .gtr (T 83) (I 400)⟩,
    D 85 (.pick (T 80) (.const (.bool true)) (T 84))]) (
  .cond (T 85) (
   .seq (
    .ops [D 2 (.mv (I 2))]) (
   .ret)) (
   .skip))) (
 .seq (
  .ops [D 5 (.mv (I 0))]) (
 .trim [1, 5] (
  .seq (
   .ops [D 86 (.fa 8 (T 1)),
    D 87 (.ld1 (T 86)),
    D 88 (.len (T 87)),
    D 89 (.mv (I 0))]) (
  .block 2 (
   .loop [1, 5, 87, 88, 89] (
    .seq (
     .ops [D 90 (.bin .lss (T 89) (T 88))]) (
    .seq (
     .cond (T 90) (
      .skip) (
      .exit 2)) (
    .trim [1, 5, 87, 88, 89] (
     .block 3 (
      .seq (
       .ops [D 91 (.ia 4 (T 87) (T 89)),
        D 92 (.ldN 4 (T 91)),
        D 7 (.alloc [(.int .i64 0), (.int .i64 0), (.int .i64 0), (.int .i64 0)]),
        E (.st 4 (T 7) (T 92))]) (
      .trim [1, 5, 7, 87, 88, 89] (
       .ops [D 93 (.mv (T 5)),
        D 94 (.fa 0 (T 7)),
        D 95 (.ld1 (T 94)),
        D 96 (.mn [(T 95), (I 1099511627776)]),
        D 97 (.bin .add (T 93) (T 96)),
        D 5 (.mv (T 97))]) (
      .trim [1, 5, 7, 8, 87, 88, 89] (
       .ops [D 98 (.fa 1 (T 7)),
        D 99 (.ld1 (T 98)),
        D 100 (.bin .eql (T 99) (I (-1))),
        D 101 (.mv (T 100)),
        ⟨(some 102), some (101, true), .fa 2 (T 7)⟩,
        ⟨(some 103), some (101, true), .ld1 (T 102)⟩,
        ⟨(some 104), some (101, true), .bin .neq (T 103) (I 1)⟩,
        ⟨(some 105), some (101, true), .mv (T 104)⟩,
        ⟨(some 106), some (105, false), .fa 3 (T 7)⟩,
        ⟨(some 107), some (105, false), .ld1 (T 106)⟩,
        ⟨(some 108), some (105, false), .bin .neq (T 107) (I 1)⟩,
        ⟨(some 109), some (101, true), .pick (T 105) (.const (.bool true)) (T 108)⟩,
        D 110 (.pick (T 101) (T 109) (.const (.bool false))),
        D 8 (.mv (T 110))]) (
      .trim [1, 5, 87, 88, 89, 135] (
       .ops [D 111 (.fa 0 (T 7)),
        D 112 (.ld1 (T 111)),
        D 113 (.call 45 [(T 112), (I 1), (I 1099511627776)]),
        D 114 (.un .not (T 113)),
        D 115 (.mv (T 114)),
        ⟨(some 116), some (115, false), .fa 1 (T 7)⟩,
        ⟨(some 117), some (115, false), .ld1 (T 116)⟩,
        ⟨(some 118), some (115, false), .call 45 [(T 117), (I (-1)), (I 1099511627776)]⟩,
        ⟨(some 119), some (115, false), .un .not (T 118)⟩,
        D 120 (.pick (T 115) (.const (.bool true)) (T 119)),
        D 121 (.mv (T 120)),
        ⟨(some 122), some (121, false), .fa 2 (T 7)⟩,
        ⟨(some 123), some (121, false), .ld1 (T 122)⟩,
        ⟨(some 124), some (121, false), .call 45 [(T 123), (I 0), (I 1000)]⟩,
        ⟨(some 125), some (121, false), .un .not (T 124)⟩,
        D 126 (.pick (T 121) (.const (.bool true)) (T 125)),
        D 127 (.mv (T 126)),
        ⟨(some 128), some (127, false), .fa 3 (T 7)⟩,
        ⟨(some 129), some (127, false), .ld1 (T 128)⟩,
        ⟨(some 130), some (127, false), .call 45 [(T 129), (I 1), (I 1000)]⟩,
        ⟨(some 131), some (127, false), .un .not (T 130)⟩,
        D 132 (.pick (T 127) (.const (.bool true)) (T 131)),
        D 133 (.mv (T 132)),
        ⟨(some 134), some (133, false), .mv (T 8)⟩,
        D 135 (.pick (T 133) (.const (.bool true)) (T 134))]) (
      .cond (T 135) (
       .seq (
        .ops [D 2 (.mv (I 33))]) (
       .ret)) (
       .skip))))))) (
    .ops [D 136 (.bin .add (T 89) (I 1)),
     D 89 (.mv (T 136))]))))))) (
 .seq (
  .seq (
   .ops [D 137 (.mv (T 5)),
    D 138 (.bin .gtr (T 137) (I 1099511627776))]) (
  .cond (T 138) (
   .seq (
    .ops [D 2 (.mv (I 33))]) (
   .ret)) (
   .skip))) (
 .trim [] (
  .seq (
   .ops [D 139 (.fa 10 (T 1)),
    D 140 (.ld1 (T 139)),
    D 141 (.len (T 140)),
    D 142 (.mv (I 0))]) (
  .block 4 (
   .loop [1, 140, 141, 142] (
    .seq (
     .ops [D 143 (.bin .lss (T 142) (T 141))]) (
    .seq (
     .cond (T 143) (
      .skip) (
      .exit 4)) (
    .trim [1, 140, 141, 142] (
     .block 5 (
      .seq (
       .ops [D 144 (.mv (T 142)),
        D 145 (.ia 6 (T 140) (T 142)),
        D 146 (.ldN 6 (T 145)),
        D 10 (.alloc [(.int .i64 0), (.int .i64 0), (.int .i64 0), (.bool false), (.slice none 0 0), (.slice none 0 0)]),
        D 9 (.mv (T 144)),
        E (.st 6 (T 10) (T 146))]) (
      .seq (
       .ops [D 147 (.ldN 11 (T 1)),
        D 148 (.mv (T 9)),
        D 149 (.ldN 6 (T 10)),
        D 150 (.call 48 [(T 147), (T 148), (T 149)]),
        D 11 (.mv (T 150))]) (
      .seq (
       .ops [D 151 (.mv (T 11)),
        D 152 (.bin .neq (T 151) (I 0))]) (
      .cond (T 152) (
       .seq (
        .ops [D 153 (.mv (T 11)),
         D 2 (.mv (T 153))]) (
       .ret)) (
       .skip)))))) (
    .ops [D 154 (.bin .add (T 142) (I 1)),
     D 142 (.mv (T 154))]))))))) (
 .seq (
  .ops [D 2 (.mv (I 0))]) (
 .ret)))))))))⟩
theorem model_CheckTrack_ok : Ok Try.prog 23 model_CheckTrack := ⟨by kernel_rfl, by kernel_rfl⟩

/-- diorama/model.Shown -/
def model_Shown : AF := ⟨25, [.tmp 6, .tmp 7],
 .seq (
  .ops [D 3 (.box (T 0)),
   D 5 (.box (T 2)),
   D 6 (.mv (I 0)),
   D 7 (.mv (I 0))]) (
 .trim [3, 5, 8, 9] (
  .ops [D 11 (.ldN 6 (T 3)),
   D 12 (.mv (T 1)),
   D 13 (.ldN 2 (T 5)),
   D 14 (.call 49 [(T 11), (T 12), (T 13)]),
   D 10 (.mv (T 14)),
   D 15 (.ext (T 10) 0),
   D 16 (.ext (T 10) 1),
   D 8 (.alloc [(.int .i64 0), (.int .i64 0), (.string ⟨#[]⟩), (.int .i64 0), (.slice none 0 0), (.string ⟨#[]⟩), (.string ⟨#[]⟩), (.int .i64 0), (.slice none 0 0), (.slice none 0 0), (.slice none 0 0)]),
   E (.st 11 (T 8) (T 15)),
   D 9 (.mv (T 16))]) (
 .trim [3, 5, 8] (
  .seq (
   .ops [D 17 (.mv (T 9)),
    D 18 (.bin .neq (T 17) (I 0))]) (
  .cond (T 18) (
   .seq (
    .ops [D 19 (.mv (T 9)),
     D 6 (.mv (I 0)),
     D 7 (.mv (T 19))]) (
   .ret)) (
   .skip))) (
 .trim [6, 7] (
  .draw [⟨0, 1, 0, D 20 (.ldN 6 (T 3))⟩,
   ⟨1, 1, 0, D 21 (.ldN 11 (T 8))⟩,
   ⟨2, 1, 0, D 22 (.ldN 2 (T 5))⟩,
   ⟨3, 4, 4, D 23 (.call 51 [(T 22)])⟩,
   ⟨4, 4, 15, D 24 (.call 50 [(T 20), (T 21), (T 23)])⟩,
   ⟨5, 0, 31, D 6 (.mv (T 24))⟩,
   ⟨6, 0, 63, D 7 (.mv (I 0))⟩]) (
 .ret))))⟩
theorem model_Shown_ok : Ok Try.prog 24 model_Shown := ⟨by kernel_rfl, by kernel_rfl⟩

/-- diorama/code.newReader -/
def code_newReader : AF := ⟨40, [.tmp 4, .tmp 5],
 .seq (
  .ops [D 2 (.box (T 0)),
   D 4 (.mv (.const (.pointer none))),
   D 5 (.mv (I 0))]) (
 .trim [2, 6] (
  .draw [⟨0, 0, 0, D 10 (.fa 2 (T 2))⟩,
   ⟨1, 1, 1, D 11 (.ld1 (T 10))⟩,
   ⟨2, 1, 0, D 12 (.ldN 6 (T 2))⟩,
   ⟨3, 0, 0, D 13 (.mv (T 1))⟩,
   ⟨4, 4, 12, D 14 (.call 52 [(T 12), (T 13)])⟩,
   ⟨5, 0, 31, D 15 (.ia 11 (T 11) (T 14))⟩,
   ⟨6, 1, 63, D 16 (.ldN 11 (T 15))⟩,
   ⟨7, 3, 0, D 6 (.alloc [(.int .i64 0), (.int .i64 0), (.string ⟨#[]⟩), (.int .i64 0), (.slice none 0 0), (.string ⟨#[]⟩), (.string ⟨#[]⟩), (.int .i64 0), (.slice none 0 0), (.slice none 0 0), (.slice none 0 0)])⟩,
   ⟨8, 4, 255, E (.st 11 (T 6) (T 16))⟩]) (
 .trim [2, 6, 7, 8] (
  .ops [D 18 (.ldN 11 (T 6)),
   D 19 (.call 53 [(T 18)]),
   D 17 (.mv (T 19)),
   D 20 (.ext (T 17) 0),
   D 21 (.ext (T 17) 1),
   D 7 (.alloc [(.int .i64 0), (.bool false)]),
   E (.st 2 (T 7) (T 20)),
   D 8 (.mv (T 21))]) (
 .trim [2, 6, 7] (
  .seq (
   .ops [D 22 (.mv (T 8)),
    D 23 (.bin .neq (T 22) (I 0))]) (
  .cond (T 23) (
   .seq (
    .ops [D 24 (.mv (T 8)),
     D 4 (.mv (.const (.pointer none))),
     D 5 (.mv (T 24))]) (
   .ret)) (
   .skip))) (
 .trim [2, 6, 7, 8, 9] (
  .ops [D 26 (.ldN 11 (T 6)),
   D 27 (.call 54 [(T 26)]),
   D 25 (.mv (T 27)),
   D 28 (.ext (T 25) 0),
   D 29 (.ext (T 25) 1),
   D 9 (.mv (T 28)),
   D 8 (.mv (T 29))]) (
 .trim [2, 6, 7, 9] (
  .seq (
   .ops [D 30 (.mv (T 8)),
    D 31 (.bin .neq (T 30) (I 0))]) (
  .cond (T 31) (
   .seq (
    .ops [D 32 (.mv (T 8)),
     D 4 (.mv (.const (.pointer none))),
     D 5 (.mv (T 32))]) (
   .ret)) (
   .skip))) (
 .trim [4, 5] (
  .ops [D 33 (.ldN 6 (T 2)),
   D 34 (.ldN 11 (T 6)),
   D 35 (.ldN 2 (T 7)),
   D 36 (.build [(.int .i64 0), (.bool false)] [(0, 2, (T 35))]),
   D 37 (.mv (T 9)),
   D 38 (.build [(.int .i64 0), (.string ⟨#[]⟩), (.slice none 0 0), (.slice none 0 0), (.slice none 0 0), (.slice none 0 0), (.int .i64 0), (.int .i64 0), (.string ⟨#[]⟩), (.int .i64 0), (.slice none 0 0), (.string ⟨#[]⟩), (.string ⟨#[]⟩), (.int .i64 0), (.slice none 0 0), (.slice none 0 0), (.slice none 0 0), (.int .i64 0), (.bool false), (.slice none 0 0)] [(0, 6, (T 33)), (6, 11, (T 34)), (17, 2, (T 36)), (19, 1, (T 37))]),
   D 39 (.box (T 38)),
   D 4 (.mv (T 39)),
   D 5 (.mv (I 0))]) (
 .ret)))))))⟩
theorem code_newReader_ok : Ok Try.prog 25 code_newReader := ⟨by kernel_rfl, by kernel_rfl⟩

/-- (*diorama/code.reader).at -/
def code_reader__at : AF := ⟨92, [.tmp 4, .tmp 5, .tmp 6],
 .seq (
  .ops [D 4 (.mv (I 0)),
   D 5 (.mv (.const (.bool false))),
   D 6 (.mv (I 0))]) (
 .trim [0, 7, 8] (
  .ops [D 13 (.mv (T 0)),
   D 14 (.mv (T 1)),
   D 15 (.call 55 [(T 13), (T 14)]),
   D 12 (.mv (T 15)),
   D 16 (.ext (T 12) 0),
   D 17 (.ext (T 12) 1),
   D 7 (.mv (T 16)),
   D 8 (.mv (T 17))]) (
 .trim [0, 7] (
  .seq (
   .ops [D 18 (.mv (T 8)),
    D 19 (.un .not (T 18))]) (
  .cond (T 19) (
   .seq (
    .ops [D 4 (.mv (I 0)),
     D 5 (.mv (.const (.bool false))),
     D 6 (.mv (I 0))]) (
   .ret)) (
   .skip))) (
 .seq (
  .ops [D 20 (.call 56 [(I 1152921504606846976)]),
   D 9 (.mv (T 20))]) (
 .trim [0, 7] (
  .trim [0, 7, 32] (
   .ops [D 21 (.mv (T 7)),
    D 22 (.call 57 [(T 21)]),
    D 23 (.mv (T 9)),
    D 24 (.call 58 [(T 22), (T 23)]),
    D 25 (.bin .gtr (T 24) (I 0)),
    D 26 (.mv (T 25)),
    ⟨(some 27), some (26, false), .mv (T 7)⟩,
    ⟨(some 28), some (26, false), .call 59 [(T 27)]⟩,
    ⟨(some 29), some (26, false), .mv (T 9)⟩,
    ⟨(some 30), some (26, false), .call 60 [(T 28), (T 29)]⟩,
    ⟨(some 31), some (26, false), .bin .gtr (T 30) (I 0)⟩,
    D 32 (.pick (T 26) (.const (.bool true)) (T 31))]) (
  .cond (T 32) (
   .seq (
    .ops [D 4 (.mv (I 0)),
     D 5 (.mv (.const (.bool false))),
     D 6 (.mv (I 2))]) (
   .ret)) (
   .skip))) (
 .trim [0, 7, 10] (
  .ops [D 33 (.alloc [(.bool false), (.slice none 0 0), (.bool false), (.slice none 0 0)]),
   D 34 (.mv (T 7)),
   D 35 (.mv (T 0)),
   D 36 (.nil (T 35)),
   D 37 (.fa 6 (T 36)),
   D 38 (.fa 3 (T 37)),
   D 39 (.ld1 (T 38)),
   D 40 (.call 27 [(T 39), (I 1)]),
   D 41 (.call 61 [(T 33), (T 34), (T 40)]),
   D 10 (.mv (T 41))]) (
 .seq (
  .ops [D 42 (.mv (T 0)),
   D 43 (.mv (T 10)),
   D 44 (.call 63 [(T 43)]),
   D 45 (.call 62 [(T 42), (T 44)]),
   D 11 (.mv (T 45))]) (
 .trim [0, 7, 10, 11] (
  .seq (
   .ops [D 46 (.mv (T 11)),
    D 47 (.bin .lss (T 46) (I 0))]) (
  .cond (T 47) (
   .seq (
    .ops [D 4 (.mv (I 0)),
     D 5 (.mv (.const (.bool false))),
     D 6 (.mv (I 0))]) (
   .ret)) (
   .skip))) (
 .trim [0, 10, 11] (
  .draw [⟨0, 0, 0, D 48 (.mv (T 10))⟩,
   ⟨1, 0, 0, D 49 (.mv (T 7))⟩,
   ⟨2, 0, 0, D 50 (.mv (T 0))⟩,
   ⟨3, 0, 4, D 51 (.nil (T 50))⟩,
   ⟨4, 0, 12, D 52 (.fa 6 (T 51))⟩,
   ⟨5, 0, 28, D 53 (.fa 10 (T 52))⟩,
   ⟨6, 1, 60, D 54 (.ld1 (T 53))⟩,
   ⟨7, 0, 0, D 55 (.mv (T 11))⟩,
   ⟨8, 0, 252, D 56 (.ia 6 (T 54) (T 55))⟩,
   ⟨9, 0, 508, D 57 (.fa 1 (T 56))⟩,
   ⟨10, 1, 1020, D 58 (.ld1 (T 57))⟩,
   ⟨11, 0, 0, D 59 (.mv (T 0))⟩,
   ⟨12, 0, 2048, D 60 (.nil (T 59))⟩,
   ⟨13, 0, 6144, D 61 (.fa 6 (T 60))⟩,
   ⟨14, 0, 14336, D 62 (.fa 3 (T 61))⟩,
   ⟨15, 1, 30720, D 63 (.ld1 (T 62))⟩,
   ⟨16, 4, 65532, D 64 (.call 27 [(T 58), (T 63)])⟩,
   ⟨17, 4, 131071, D 65 (.call 64 [(T 48), (T 49), (T 64)])⟩]) (
 .trim [0, 10, 11] (
  .ops [D 66 (.mv (T 10)),
   D 67 (.mv (T 10)),
   D 68 (.mv (T 0)),
   D 69 (.nil (T 68)),
   D 70 (.fa 17 (T 69)),
   D 71 (.ldN 2 (T 70)),
   D 72 (.call 65 [(T 71)]),
   D 73 (.call 61 [(T 66), (T 67), (T 72)])]) (
 .trim [0, 10] (
  .ops [D 74 (.mv (T 10)),
   D 75 (.mv (T 10)),
   D 76 (.mv (T 0)),
   D 77 (.nil (T 76)),
   D 78 (.fa 19 (T 77)),
   D 79 (.ld1 (T 78)),
   D 80 (.mv (T 11)),
   D 81 (.ia 1 (T 79) (T 80)),
   D 82 (.ld1 (T 81)),
   D 83 (.call 27 [(T 82), (I 1)]),
   D 84 (.call 66 [(T 74), (T 75), (T 83)])]) (
 .trim [4, 5, 6] (
  .draw [⟨0, 0, 0, D 85 (.mv (T 0))⟩,
   ⟨1, 0, 1, D 86 (.nil (T 85))⟩,
   ⟨2, 0, 3, D 87 (.fa 17 (T 86))⟩,
   ⟨3, 1, 7, D 88 (.ldN 2 (T 87))⟩,
   ⟨4, 0, 0, D 89 (.mv (T 10))⟩,
   ⟨5, 4, 16, D 90 (.call 63 [(T 89)])⟩,
   ⟨6, 4, 63, D 91 (.call 67 [(T 88), (T 90)])⟩,
   ⟨7, 0, 127, D 4 (.mv (T 91))⟩,
   ⟨8, 0, 255, D 5 (.mv (.const (.bool true)))⟩,
   ⟨9, 0, 511, D 6 (.mv (I 0))⟩]) (
 .ret))))))))))))⟩
theorem code_reader__at_ok : Ok Try.prog 26 code_reader__at := ⟨by kernel_rfl, by kernel_rfl⟩

/-- diorama/code.ratio -/
def code_ratio : AF := ⟨8, [.tmp 4],
 .seq (
  .ops [D 4 (.mv (.const (.pointer none)))]) (
 .seq (
  .ops [D 5 (.mv (T 0)),
   D 6 (.mv (T 1)),
   D 7 (.call 68 [(T 5), (T 6)]),
   D 4 (.mv (T 7))]) (
 .ret))⟩
theorem code_ratio_ok : Ok Try.prog 27 code_ratio := ⟨by kernel_rfl, by kernel_rfl⟩

/-- (diorama/code.steps).code -/
def code_steps__code : AF := ⟨68, [.cellN 4 4],
 .seq (
  .ops [D 2 (.box (T 0)),
   D 4 (.alloc [(.int .i64 0), (.int .i64 0), (.int .i64 0), (.int .i64 0)])]) (
 .trim [1, 2, 4, 5, 6] (
  .draw [⟨0, 0, 0, D 10 (.mv (T 1))⟩,
   ⟨1, 1, 0, D 11 (.ldN 2 (T 2))⟩,
   ⟨4, 0, 0, D 14 (.mv (T 1))⟩,
   ⟨5, 1, 0, D 15 (.ldN 2 (T 2))⟩,
   ⟨2, 4, 2, D 12 (.call 44 [(T 11)])⟩,
   ⟨3, 0, 7, D 13 (.bin .quo (T 10) (T 12))⟩,
   ⟨6, 4, 38, D 16 (.call 44 [(T 15)])⟩,
   ⟨7, 0, 118, D 17 (.bin .rem (T 14) (T 16))⟩,
   ⟨8, 0, 111, D 5 (.mv (T 13))⟩,
   ⟨9, 0, 511, D 6 (.mv (T 17))⟩]) (
 .trim [1, 2, 4, 5, 6, 7] (
  .draw [⟨0, 0, 0, D 18 (.fa 0 (T 2))⟩,
   ⟨1, 0, 1, D 19 (.fa 0 (T 18))⟩,
   ⟨2, 1, 3, D 20 (.ld1 (T 19))⟩,
   ⟨3, 0, 7, D 21 (.bin .mul (I 60) (T 20))⟩,
   ⟨4, 1, 0, D 22 (.ldN 2 (T 2))⟩,
   ⟨5, 4, 16, D 23 (.call 69 [(T 22)])⟩,
   ⟨6, 0, 63, D 24 (.bin .sub (T 21) (T 23))⟩,
   ⟨7, 0, 127, D 7 (.mv (T 24))⟩]) (
 .trim [1, 2, 4, 6, 7] (
  .ops [D 25 (.mv (T 1)),
   D 26 (.mv (T 5)),
   D 27 (.bin .mul (T 26) (I 9)),
   D 28 (.ldN 2 (T 2)),
   D 29 (.call 69 [(T 28)]),
   D 30 (.bin .mul (T 27) (T 29)),
   D 31 (.bin .add (T 25) (T 30)),
   D 1 (.mv (T 31))]) (
 .trim [1, 2, 4] (
  .seq (
   .ops [D 32 (.fa 0 (T 2)),
    D 33 (.fa 0 (T 32)),
    D 34 (.ld1 (T 33)),
    D 35 (.bin .mul (I 60) (T 34)),
    D 8 (.mv (T 35))]) (
  .seq (
   .ops [D 36 (.mv (T 6)),
    D 37 (.mv (T 8)),
    D 38 (.bin .geq (T 36) (T 37))]) (
  .cond (T 38) (
   .draw [⟨0, 0, 0, D 39 (.mv (T 1))⟩,
    ⟨1, 1, 0, D 40 (.ldN 2 (T 2))⟩,
    ⟨3, 0, 0, D 42 (.mv (T 6))⟩,
    ⟨4, 0, 0, D 43 (.mv (T 8))⟩,
    ⟨5, 0, 24, D 44 (.bin .sub (T 42) (T 43))⟩,
    ⟨6, 0, 0, D 45 (.mv (T 7))⟩,
    ⟨7, 0, 120, D 46 (.bin .quo (T 44) (T 45))⟩,
    ⟨8, 0, 248, D 47 (.bin .add (I 1) (T 46))⟩,
    ⟨2, 4, 2, D 41 (.call 69 [(T 40)])⟩,
    ⟨9, 0, 510, D 48 (.bin .mul (T 41) (T 47))⟩,
    ⟨10, 0, 1023, D 49 (.bin .add (T 39) (T 48))⟩,
    ⟨11, 0, 2047, D 1 (.mv (T 49))⟩]) (
   .skip)))) (
 .trim [1, 2, 4, 9] (
  .ops [D 50 (.mv (T 1)),
   D 51 (.fa 0 (T 2)),
   D 52 (.fa 0 (T 51)),
   D 53 (.ld1 (T 52)),
   D 54 (.bin .quo (T 50) (T 53)),
   D 9 (.mv (T 54))]) (
 .trim [4] (
  .ops [D 55 (.mv (T 9)),
   D 56 (.bin .quo (T 55) (I 3600)),
   D 57 (.mv (T 9)),
   D 58 (.bin .quo (T 57) (I 60)),
   D 59 (.bin .rem (T 58) (I 60)),
   D 60 (.mv (T 9)),
   D 61 (.bin .rem (T 60) (I 60)),
   D 62 (.mv (T 1)),
   D 63 (.fa 0 (T 2)),
   D 64 (.fa 0 (T 63)),
   D 65 (.ld1 (T 64)),
   D 66 (.bin .rem (T 62) (T 65)),
   D 67 (.build [(.int .i64 0), (.int .i64 0), (.int .i64 0), (.int .i64 0)] [(0, 1, (T 56)), (1, 1, (T 59)), (2, 1, (T 61)), (3, 1, (T 66))]),
   E (.st 4 (T 4) (T 67))]) (
 .ret)))))))⟩
theorem code_steps__code_ok : Ok Try.prog 28 code_steps__code := ⟨by kernel_rfl, by kernel_rfl⟩

/-- diorama/code.checked -/
def code_checked : AF := ⟨15, [.tmp 4],
 .seq (
  .ops [D 2 (.box (T 0)),
   D 3 (.box (T 1)),
   D 4 (.mv (I 0))]) (
 .trim [2, 3] (
  .seq (
   .ops [D 6 (.ldN 2 (T 2)),
    D 7 (.call 21 [(T 6)]),
    D 5 (.mv (T 7))]) (
  .seq (
   .ops [D 8 (.mv (T 5)),
    D 9 (.bin .neq (T 8) (I 0))]) (
  .cond (T 9) (
   .seq (
    .ops [D 10 (.mv (T 5)),
     D 4 (.mv (T 10))]) (
   .ret)) (
   .skip)))) (
 .seq (
  .ops [D 11 (.ldN 2 (T 2)),
   D 12 (.build [(.int .i64 0), (.bool false)] [(0, 2, (T 11))]),
   D 13 (.ldN 4 (T 3)),
   D 14 (.call 70 [(T 12), (T 13)]),
   D 4 (.mv (T 14))]) (
 .ret)))⟩
theorem code_checked_ok : Ok Try.prog 29 code_checked := ⟨by kernel_rfl, by kernel_rfl⟩

/-- diorama/code.within -/
def code_within : AF := ⟨15, [.tmp 6],
 .seq (
  .ops [D 6 (.mv (.const (.bool false)))]) (
 .trim [6] (
  .ops [D 7 (.mv (T 0)),
   D 8 (.mv (T 1)),
   D 9 (.bin .geq (T 7) (T 8)),
   D 10 (.mv (T 9)),
   ⟨(some 11), some (10, true), .mv (T 0)⟩,
   ⟨(some 12), some (10, true), .mv (T 2)⟩,
   ⟨(some 13), some (10, true), .bin .leq (T 11) (T 12)⟩,
   D 14 (.pick (T 10) (T 13) (.const (.bool false))),
   D 6 (.mv (T 14))]) (
 .ret))⟩
theorem code_within_ok : Ok Try.prog 30 code_within := ⟨by kernel_rfl, by kernel_rfl⟩

/-- (diorama/code.steps).around -/
def code_steps__around : AF := ⟨15, [.tmp 4],
 .seq (
  .ops [D 2 (.box (T 0)),
   D 4 (.mv (I 0))]) (
 .trim [4] (
  .draw [⟨0, 0, 0, D 5 (.mv (T 1))⟩,
   ⟨1, 1, 0, D 6 (.ldN 2 (T 2))⟩,
   ⟨4, 1, 0, D 9 (.ldN 2 (T 2))⟩,
   ⟨7, 1, 0, D 12 (.ldN 2 (T 2))⟩,
   ⟨2, 4, 2, D 7 (.call 22 [(T 6)])⟩,
   ⟨3, 0, 7, D 8 (.bin .rem (T 5) (T 7))⟩,
   ⟨5, 4, 22, D 10 (.call 22 [(T 9)])⟩,
   ⟨6, 0, 63, D 11 (.bin .add (T 8) (T 10))⟩,
   ⟨8, 4, 182, D 13 (.call 22 [(T 12)])⟩,
   ⟨9, 0, 511, D 14 (.bin .rem (T 11) (T 13))⟩,
   ⟨10, 0, 1023, D 4 (.mv (T 14))⟩]) (
 .ret))⟩
theorem code_steps__around_ok : Ok Try.prog 31 code_steps__around := ⟨by kernel_rfl, by kernel_rfl⟩

/-- (diorama/code.steps).count -/
def code_steps__count : AF := ⟨32, [.tmp 4],
 .seq (
  .ops [D 2 (.box (T 0)),
   D 3 (.box (T 1)),
   D 4 (.mv (I 0))]) (
 .trim [2, 3, 5] (
  .ops [D 6 (.fa 0 (T 3)),
   D 7 (.ld1 (T 6)),
   D 8 (.bin .mul (T 7) (I 60)),
   D 9 (.fa 1 (T 3)),
   D 10 (.ld1 (T 9)),
   D 11 (.bin .add (T 8) (T 10)),
   D 5 (.mv (T 11))]) (
 .trim [4] (
  .draw [⟨0, 0, 0, D 12 (.mv (T 5))⟩,
   ⟨1, 0, 1, D 13 (.bin .mul (T 12) (I 60))⟩,
   ⟨2, 0, 0, D 14 (.fa 2 (T 3))⟩,
   ⟨3, 1, 4, D 15 (.ld1 (T 14))⟩,
   ⟨4, 0, 15, D 16 (.bin .add (T 13) (T 15))⟩,
   ⟨5, 0, 0, D 17 (.fa 0 (T 2))⟩,
   ⟨6, 0, 32, D 18 (.fa 0 (T 17))⟩,
   ⟨7, 1, 96, D 19 (.ld1 (T 18))⟩,
   ⟨8, 0, 255, D 20 (.bin .mul (T 16) (T 19))⟩,
   ⟨9, 0, 0, D 21 (.fa 3 (T 3))⟩,
   ⟨10, 1, 512, D 22 (.ld1 (T 21))⟩,
   ⟨11, 0, 2047, D 23 (.bin .add (T 20) (T 22))⟩,
   ⟨12, 1, 0, D 24 (.ldN 2 (T 2))⟩,
   ⟨14, 0, 0, D 26 (.mv (T 5))⟩,
   ⟨15, 0, 0, D 27 (.mv (T 5))⟩,
   ⟨16, 0, 32768, D 28 (.bin .quo (T 27) (I 10))⟩,
   ⟨17, 0, 114688, D 29 (.bin .sub (T 26) (T 28))⟩,
   ⟨13, 4, 4096, D 25 (.call 69 [(T 24)])⟩,
   ⟨18, 0, 258048, D 30 (.bin .mul (T 25) (T 29))⟩,
   ⟨19, 0, 524287, D 31 (.bin .sub (T 23) (T 30))⟩,
   ⟨20, 0, 1048575, D 4 (.mv (T 31))⟩]) (
 .ret)))⟩
theorem code_steps__count_ok : Ok Try.prog 32 code_steps__count := ⟨by kernel_rfl, by kernel_rfl⟩

/-- diorama/dioramaref02.RatOf -/
def dioramaref02_RatOf : AF := ⟨13, [.cellN 3 2],
 .seq (
  .ops [D 1 (.box (T 0)),
   D 2 (.alloc [(.bool false), (.slice none 0 0), (.slice none 0 0)])]) (
 .trim [2] (
  .draw [⟨0, 0, 0, D 3 (.fa 0 (T 1))⟩,
   ⟨1, 1, 1, D 4 (.ld1 (T 3))⟩,
   ⟨2, 0, 3, D 5 (.bin .lss (T 4) (I 0))⟩,
   ⟨3, 0, 0, D 6 (.fa 0 (T 1))⟩,
   ⟨4, 1, 8, D 7 (.ld1 (T 6))⟩,
   ⟨6, 0, 0, D 9 (.fa 1 (T 1))⟩,
   ⟨7, 1, 64, D 10 (.ld1 (T 9))⟩,
   ⟨5, 4, 24, D 8 (.call 71 [(T 7)])⟩,
   ⟨8, 4, 248, D 11 (.call 72 [(T 10)])⟩,
   ⟨9, 0, 511, D 12 (.build [(.bool false), (.slice none 0 0), (.slice none 0 0)] [(0, 1, (T 5)), (1, 1, (T 8)), (2, 1, (T 11))])⟩,
   ⟨10, 4, 1023, E (.st 3 (T 2) (T 12))⟩]) (
 .ret))⟩
theorem dioramaref02_RatOf_ok : Ok Try.prog 35 dioramaref02_RatOf := ⟨by kernel_rfl, by kernel_rfl⟩

/-- (diorama/code.steps).ten -/
def code_steps__ten : AF := ⟨11, [.tmp 2],
 .seq (
  .ops [D 1 (.box (T 0)),
   D 2 (.mv (I 0))]) (
 .trim [2] (
  .draw [⟨0, 0, 0, D 3 (.fa 0 (T 1))⟩,
   ⟨1, 0, 1, D 4 (.fa 0 (T 3))⟩,
   ⟨2, 1, 3, D 5 (.ld1 (T 4))⟩,
   ⟨3, 0, 7, D 6 (.bin .mul (I 600) (T 5))⟩,
   ⟨4, 1, 0, D 7 (.ldN 2 (T 1))⟩,
   ⟨5, 4, 16, D 8 (.call 69 [(T 7)])⟩,
   ⟨6, 0, 48, D 9 (.bin .mul (I 9) (T 8))⟩,
   ⟨7, 0, 127, D 10 (.bin .sub (T 6) (T 9))⟩,
   ⟨8, 0, 255, D 2 (.mv (T 10))⟩]) (
 .ret))⟩
theorem code_steps__ten_ok : Ok Try.prog 44 code_steps__ten := ⟨by kernel_rfl, by kernel_rfl⟩

/-- diorama/model.within -/
def model_within : AF := ⟨15, [.tmp 6],
 .seq (
  .ops [D 6 (.mv (.const (.bool false)))]) (
 .trim [6] (
  .ops [D 7 (.mv (T 0)),
   D 8 (.mv (T 1)),
   D 9 (.bin .geq (T 7) (T 8)),
   D 10 (.mv (T 9)),
   ⟨(some 11), some (10, true), .mv (T 0)⟩,
   ⟨(some 12), some (10, true), .mv (T 2)⟩,
   ⟨(some 13), some (10, true), .bin .leq (T 11) (T 12)⟩,
   D 14 (.pick (T 10) (T 13) (.const (.bool false))),
   D 6 (.mv (T 14))]) (
 .ret))⟩
theorem model_within_ok : Ok Try.prog 45 model_within := ⟨by kernel_rfl, by kernel_rfl⟩

/-- diorama/model.letters -/
def model_letters : AF := ⟨49, [.tmp 6],
 .seq (
  .ops [D 6 (.mv (.const (.bool false)))]) (
 .trim [0, 1] (
  .seq (
   .ops [D 10 (.mv (T 0)),
    D 11 (.lens (T 10)),
    D 12 (.mv (I 0))]) (
  .block 0 (
   .loop [0, 1, 2, 11, 12] (
    .seq (
     .ops [D 13 (.bin .lss (T 12) (T 11))]) (
    .seq (
     .cond (T 13) (
      .skip) (
      .exit 0)) (
    .trim [0, 1, 2, 11, 12] (
     .block 1 (
      .seq (
       .ops [D 14 (.mv (T 12)),
        D 7 (.mv (T 14))]) (
      .trim [0, 1, 2, 7, 8, 11, 12] (
       .ops [D 15 (.mv (T 0)),
        D 16 (.mv (T 7)),
        D 17 (.ixs (T 15) (T 16)),
        D 18 (.bin .geq (T 17) (.const (.int .u8 97))),
        D 19 (.mv (T 18)),
        ⟨(some 20), some (19, true), .mv (T 0)⟩,
        ⟨(some 21), some (19, true), .mv (T 7)⟩,
        ⟨(some 22), some (19, true), .ixs (T 20) (T 21)⟩,
        ⟨(some 23), some (19, true), .bin .leq (T 22) (.const (.int .u8 122))⟩,
        D 24 (.pick (T 19) (T 23) (.const (.bool false))),
        D 8 (.mv (T 24))]) (
      .trim [0, 1, 2, 8, 9, 11, 12] (
       .ops [D 25 (.mv (T 0)),
        D 26 (.mv (T 7)),
        D 27 (.ixs (T 25) (T 26)),
        D 28 (.bin .geq (T 27) (.const (.int .u8 48))),
        D 29 (.mv (T 28)),
        ⟨(some 30), some (29, true), .mv (T 0)⟩,
        ⟨(some 31), some (29, true), .mv (T 7)⟩,
        ⟨(some 32), some (29, true), .ixs (T 30) (T 31)⟩,
        ⟨(some 33), some (29, true), .bin .leq (T 32) (.const (.int .u8 57))⟩,
        D 34 (.pick (T 29) (T 33) (.const (.bool false))),
        D 9 (.mv (T 34))]) (
      .trim [0, 1, 2, 11, 12, 43] (
       .ops [D 35 (.mv (T 8)),
        D 36 (.un .not (T 35)),
        D 37 (.mv (T 36)),
        ⟨(some 38), some (37, true), .mv (T 9)⟩,
        ⟨(some 39), some (37, true), .mv (T 38)⟩,
        ⟨(some 40), some (39, true), .mv (T 2)⟩,
        ⟨(some 41), some (37, true), .pick (T 39) (T 40) (.const (.bool false))⟩,
        ⟨(some 42), some (37, true), .un .not (T 41)⟩,
        D 43 (.pick (T 37) (T 42) (.const (.bool false)))]) (
      .cond (T 43) (
       .seq (
        .ops [D 6 (.mv (.const (.bool false)))]) (
       .ret)) (
       .skip))))))) (
    .ops [D 44 (.bin .add (T 12) (I 1)),
     D 12 (.mv (T 44))]))))))) (
 .seq (
  .ops [D 45 (.mv (T 0)),
   D 46 (.lens (T 45)),
   D 47 (.mv (T 1)),
   D 48 (.bin .eql (T 46) (T 47)),
   D 6 (.mv (T 48))]) (
 .ret)))⟩
theorem model_letters_ok : Ok Try.prog 46 model_letters := ⟨by kernel_rfl, by kernel_rfl⟩

/-- diorama/model.isName -/
def model_isName : AF := ⟨23, [.tmp 2],
 .seq (
  .ops [D 2 (.mv (.const (.bool false)))]) (
 .seq (
  .seq (
   .ops [D 4 (.mv (T 0)),
    D 5 (.lens (T 4)),
    D 6 (.bin .gtr (T 5) (I 40))]) (
  .cond (T 6) (
   .seq (
    .ops [D 2 (.mv (.const (.bool false)))]) (
   .ret)) (
   .skip))) (
 .trim [] (
  .seq (
   .ops [D 7 (.mv (T 0)),
    D 8 (.lens (T 7)),
    D 9 (.mv (I 0))]) (
  .block 0 (
   .loop [0, 8, 9] (
    .seq (
     .ops [D 10 (.bin .lss (T 9) (T 8))]) (
    .seq (
     .cond (T 10) (
      .skip) (
      .exit 0)) (
    .trim [0, 8, 9] (
     .block 1 (
      .seq (
       .ops [D 11 (.mv (T 9)),
        D 3 (.mv (T 11))]) (
      .trim [0, 8, 9, 21] (
       .ops [D 12 (.mv (T 0)),
        D 13 (.mv (T 3)),
        D 14 (.ixs (T 12) (T 13)),
        D 15 (.bin .lss (T 14) (.const (.int .u8 32))),
        D 16 (.mv (T 15)),
        ⟨(some 17), some (16, false), .mv (T 0)⟩,
        ⟨(some 18), some (16, false), .mv (T 3)⟩,
        ⟨(some 19), some (16, false), .ixs (T 17) (T 18)⟩,
        ⟨(some 20), some (16, false), .bin .gtr (T 19) (.const (.int .u8 126))⟩,
        D 21 (.pick (T 16) (.const (.bool true)) (T 20))]) (
      .cond (T 21) (
       .seq (
        .ops [D 2 (.mv (.const (.bool false)))]) (
       .ret)) (
       .skip))))) (
    .ops [D 22 (.bin .add (T 9) (I 1)),
     D 9 (.mv (T 22))]))))))) (
 .seq (
  .ops [D 2 (.mv (.const (.bool true)))]) (
 .ret))))⟩
theorem model_isName_ok : Ok Try.prog 47 model_isName := ⟨by kernel_rfl, by kernel_rfl⟩

/-- diorama/model.checkSample -/
def model_checkSample : AF := ⟨79, [.tmp 6],
 .seq (
  .ops [D 3 (.box (T 0)),
   D 5 (.box (T 2)),
   D 6 (.mv (I 0))]) (
 .trim [1, 5] (
  .block 0 (
   .trim [1, 3, 5, 10] (
    .ops [D 11 (.fa 0 (T 5)),
     D 12 (.ld1 (T 11)),
     D 13 (.call 79 [(T 12)]),
     D 14 (.un .not (T 13)),
     D 15 (.mv (T 14)),
     ⟨(some 16), some (15, false), .fa 1 (T 5)⟩,
     ⟨(some 17), some (15, false), .ld1 (T 16)⟩,
     ⟨(some 18), some (15, false), .call 79 [(T 17)]⟩,
     ⟨(some 19), some (15, false), .un .not (T 18)⟩,
     D 20 (.pick (T 15) (.const (.bool true)) (T 19)),
     D 21 (.mv (T 20)),
     ⟨(some 22), some (21, false), .fa 2 (T 5)⟩,
     ⟨(some 23), some (21, false), .ld1 (T 22)⟩,
     ⟨(some 24), some (21, false), .call 45 [(T 23), (I 0), (I 1099511627776)]⟩,
     ⟨(some 25), some (21, false), .un .not (T 24)⟩,
     D 26 (.pick (T 21) (.const (.bool true)) (T 25)),
     D 10 (.mv (T 26))]) (
   .cond (T 10) (
    .seq (
     .ops [D 6 (.mv (I 1))]) (
    .ret)) (
    .trim [1, 3, 5, 27] (
     .ops [D 28 (.fa 5 (T 5)),
      D 29 (.ld1 (T 28)),
      D 30 (.len (T 29)),
      D 31 (.bin .gtr (T 30) (I 65536)),
      D 32 (.mv (T 31)),
      ⟨(some 33), some (32, false), .fa 4 (T 5)⟩,
      ⟨(some 34), some (32, false), .ld1 (T 33)⟩,
      ⟨(some 35), some (32, false), .len (T 34)⟩,
      ⟨(some 36), some (32, false), .bin .gtr (T 35) (I 4)⟩,
      D 37 (.pick (T 32) (.const (.bool true)) (T 36)),
      D 27 (.mv (T 37))]) (
    .cond (T 27) (
     .seq (
      .ops [D 6 (.mv (I 2))]) (
     .ret)) (
     .trim [1, 5, 38] (
      .draw [⟨0, 0, 0, D 39 (.mv (T 1))⟩,
       ⟨1, 0, 1, D 40 (.bin .gtr (T 39) (I 0))⟩,
       ⟨2, 0, 3, D 41 (.mv (T 40))⟩,
       ⟨3, 0, 7, ⟨(some 42), some (41, true), .fa 0 (T 5)⟩⟩,
       ⟨4, 1, 15, ⟨(some 43), some (41, true), .ld1 (T 42)⟩⟩,
       ⟨5, 0, 7, ⟨(some 44), some (41, true), .fa 10 (T 3)⟩⟩,
       ⟨6, 1, 39, ⟨(some 45), some (41, true), .ld1 (T 44)⟩⟩,
       ⟨7, 0, 7, ⟨(some 46), some (41, true), .mv (T 1)⟩⟩,
       ⟨8, 0, 135, ⟨(some 47), some (41, true), .bin .sub (T 46) (I 1)⟩⟩,
       ⟨9, 0, 487, ⟨(some 48), some (41, true), .ia 6 (T 45) (T 47)⟩⟩,
       ⟨10, 0, 999, ⟨(some 49), some (41, true), .fa 0 (T 48)⟩⟩,
       ⟨11, 1, 2023, ⟨(some 50), some (41, true), .ld1 (T 49)⟩⟩,
       ⟨12, 0, 4095, ⟨(some 51), some (41, true), .bin .leq (T 43) (T 50)⟩⟩,
       ⟨13, 0, 8191, D 52 (.pick (T 41) (T 51) (.const (.bool false)))⟩,
       ⟨14, 0, 16383, D 38 (.mv (T 52))⟩]) (
     .cond (T 38) (
      .seq (
       .ops [D 6 (.mv (I 31))]) (
      .ret)) (
      .trim [1, 5, 53] (
       .ops [D 54 (.fa 3 (T 5)),
        D 55 (.ld1 (T 54)),
        D 56 (.mv (T 55)),
        ⟨(some 57), some (56, true), .fa 4 (T 5)⟩,
        ⟨(some 58), some (56, true), .ld1 (T 57)⟩,
        ⟨(some 59), some (56, true), .len (T 58)⟩,
        ⟨(some 60), some (56, true), .bin .gtr (T 59) (I 0)⟩,
        D 61 (.pick (T 56) (T 60) (.const (.bool false))),
        D 53 (.mv (T 61))]) (
      .cond (T 53) (
       .seq (
        .ops [D 6 (.mv (I 32))]) (
       .ret)) (
       .skip)))))))))) (
 .seq (
  .ops [D 7 (.mv (I (-1)))]) (
 .trim [] (
  .seq (
   .ops [D 62 (.fa 4 (T 5)),
    D 63 (.ld1 (T 62)),
    D 64 (.len (T 63)),
    D 65 (.mv (I 0))]) (
  .block 1 (
   .loop [1, 7, 63, 64, 65] (
    .seq (
     .ops [D 66 (.bin .lss (T 65) (T 64))]) (
    .seq (
     .cond (T 66) (
      .skip) (
      .exit 1)) (
    .trim [1, 7, 63, 64, 65] (
     .block 2 (
      .seq (
       .ops [D 67 (.ia 1 (T 63) (T 65)),
        D 68 (.ld1 (T 67)),
        D 9 (.mv (T 68))]) (
      .trim [1, 9, 63, 64, 65] (
       .trim [1, 9, 63, 64, 65, 76] (
        .ops [D 69 (.mv (T 9)),
         D 70 (.mv (T 7)),
         D 71 (.bin .leq (T 69) (T 70)),
         D 72 (.mv (T 71)),
         ⟨(some 73), some (72, false), .mv (T 9)⟩,
         ⟨(some 74), some (72, false), .mv (T 1)⟩,
         ⟨(some 75), some (72, false), .bin .geq (T 73) (T 74)⟩,
         D 76 (.pick (T 72) (.const (.bool true)) (T 75))]) (
       .cond (T 76) (
        .seq (
         .ops [D 6 (.mv (I 32))]) (
        .ret)) (
        .skip))) (
      .ops [D 77 (.mv (T 9)),
       D 7 (.mv (T 77))])))) (
    .ops [D 78 (.bin .add (T 65) (I 1)),
     D 65 (.mv (T 78))]))))))) (
 .seq (
  .ops [D 6 (.mv (I 0))]) (
 .ret)))))⟩
theorem model_checkSample_ok : Ok Try.prog 48 model_checkSample := ⟨by kernel_rfl, by kernel_rfl⟩

/-- diorama/model.asked -/
def model_asked : AF := ⟨35, [.cellN 11 6, .tmp 7],
 .seq (
  .ops [D 3 (.box (T 0)),
   D 5 (.box (T 2)),
   D 6 (.alloc [(.int .i64 0), (.int .i64 0), (.string ⟨#[]⟩), (.int .i64 0), (.slice none 0 0), (.string ⟨#[]⟩), (.string ⟨#[]⟩), (.int .i64 0), (.slice none 0 0), (.slice none 0 0), (.slice none 0 0)]),
   D 7 (.mv (I 0))]) (
 .trim [1, 3, 5, 6] (
  .trim [1, 3, 5, 6, 8] (
   .ops [D 12 (.ldN 6 (T 3)),
    D 13 (.call 80 [(T 12)]),
    D 11 (.mv (T 13)),
    D 14 (.ext (T 11) 0),
    D 15 (.ext (T 11) 1),
    D 8 (.mv (T 14)),
    D 9 (.mv (T 15))]) (
  .seq (
   .ops [D 16 (.mv (T 8)),
    D 17 (.bin .neq (T 16) (I 0))]) (
  .cond (T 17) (
   .seq (
    .ops [D 18 (.build [(.int .i64 0), (.int .i64 0), (.string ⟨#[]⟩), (.int .i64 0), (.slice none 0 0), (.string ⟨#[]⟩), (.string ⟨#[]⟩), (.int .i64 0), (.slice none 0 0), (.slice none 0 0), (.slice none 0 0)] []),
     D 19 (.mv (T 8)),
     E (.st 11 (T 6) (T 18)),
     D 7 (.mv (T 19))]) (
   .ret)) (
   .skip)))) (
 .trim [1, 3, 6] (
  .seq (
   .ops [D 20 (.ldN 2 (T 5)),
    D 21 (.call 17 [(T 20)]),
    D 22 (.un .not (T 21))]) (
  .cond (T 22) (
   .seq (
    .ops [D 23 (.build [(.int .i64 0), (.int .i64 0), (.string ⟨#[]⟩), (.int .i64 0), (.slice none 0 0), (.string ⟨#[]⟩), (.string ⟨#[]⟩), (.int .i64 0), (.slice none 0 0), (.slice none 0 0), (.slice none 0 0)] []),
     E (.st 11 (T 6) (T 23)),
     D 7 (.mv (I 4))]) (
   .ret)) (
   .skip))) (
 .seq (
  .ops [D 24 (.ldN 6 (T 3)),
   D 25 (.mv (T 1)),
   D 26 (.call 52 [(T 24), (T 25)]),
   D 10 (.mv (T 26))]) (
 .seq (
  .seq (
   .ops [D 27 (.mv (T 10)),
    D 28 (.bin .lss (T 27) (I 0))]) (
  .cond (T 28) (
   .seq (
    .ops [D 29 (.build [(.int .i64 0), (.int .i64 0), (.string ⟨#[]⟩), (.int .i64 0), (.slice none 0 0), (.string ⟨#[]⟩), (.string ⟨#[]⟩), (.int .i64 0), (.slice none 0 0), (.slice none 0 0), (.slice none 0 0)] []),
     E (.st 11 (T 6) (T 29)),
     D 7 (.mv (I 5))]) (
   .ret)) (
   .skip))) (
 .trim [6, 7] (
  .ops [D 30 (.fa 2 (T 3)),
   D 31 (.ld1 (T 30)),
   D 32 (.mv (T 10)),
   D 33 (.ia 11 (T 31) (T 32)),
   D 34 (.ldN 11 (T 33)),
   E (.st 11 (T 6) (T 34)),
   D 7 (.mv (I 0))]) (
 .ret))))))⟩
theorem model_asked_ok : Ok Try.prog 49 model_asked := ⟨by kernel_rfl, by kernel_rfl⟩

/-- diorama/model.shown -/
def model_shown : AF := ⟨17, [.tmp 6],
 .seq (
  .ops [D 3 (.box (T 0)),
   D 4 (.box (T 1)),
   D 6 (.mv (I 0))]) (
 .seq (
  .ops [D 8 (.ldN 6 (T 3)),
   D 9 (.ldN 11 (T 4)),
   D 10 (.mv (T 2)),
   D 11 (.call 81 [(T 8), (T 9), (T 10)]),
   D 7 (.mv (T 11))]) (
 .seq (
  .seq (
   .ops [D 12 (.mv (T 7)),
    D 13 (.nileq false 0 (T 12) (.const (.pointer none)))]) (
  .cond (T 13) (
   .seq (
    .ops [D 6 (.mv (I (-1)))]) (
   .ret)) (
   .skip))) (
 .seq (
  .ops [D 14 (.ldN 11 (T 4)),
   D 15 (.mv (T 7)),
   D 16 (.call 82 [(T 14), (T 15)]),
   D 6 (.mv (T 16))]) (
 .ret))))⟩
theorem model_shown_ok : Ok Try.prog 50 model_shown := ⟨by kernel_rfl, by kernel_rfl⟩

/-- diorama/model.ratOf -/
def model_ratOf : AF := ⟨8, [.tmp 2],
 .seq (
  .ops [D 1 (.box (T 0)),
   D 2 (.mv (.const (.pointer none)))]) (
 .trim [2] (
  .ops [D 3 (.fa 0 (T 1)),
   D 4 (.ld1 (T 3)),
   D 5 (.fa 1 (T 1)),
   D 6 (.ld1 (T 5)),
   D 7 (.call 83 [(T 4), (T 6)]),
   D 2 (.mv (T 7))]) (
 .ret))⟩
theorem model_ratOf_ok : Ok Try.prog 51 model_ratOf := ⟨by kernel_rfl, by kernel_rfl⟩

/-- diorama/model.Find -/
def model_Find : AF := ⟨9, [.tmp 4],
 .seq (
  .ops [D 2 (.box (T 0)),
   D 3 (.box (T 1)),
   D 4 (.mv (I 0))]) (
 .seq (
  .ops [D 5 (.fa 2 (T 2)),
   D 6 (.ld1 (T 5)),
   D 7 (.mkf 85 [] [(T 3)]),
   D 8 (.call 84 [(T 6), (T 7)]),
   D 4 (.mv (T 8))]) (
 .ret))⟩
theorem model_Find_ok : Ok Try.prog 52 model_Find := ⟨by kernel_rfl, by kernel_rfl⟩

/-- diorama/code.Rate -/
def code_Rate : AF := ⟨45, [.cellN 2 2, .tmp 3],
 .seq (
  .ops [D 1 (.box (T 0)),
   D 2 (.alloc [(.int .i64 0), (.bool false)]),
   D 3 (.mv (I 0))]) (
 .trim [1, 2] (
  .trim [1, 2, 13] (
   .ops [D 6 (.fa 2 (T 1)),
    D 7 (.ld1 (T 6)),
    D 8 (.bin .neq (T 7) (.const (.string ⟨#[116, 109, 99, 49]⟩))),
    D 9 (.mv (T 8)),
    ⟨(some 10), some (9, false), .fa 1 (T 1)⟩,
    ⟨(some 11), some (9, false), .ld1 (T 10)⟩,
    ⟨(some 12), some (9, false), .bin .neq (T 11) (I 6)⟩,
    D 13 (.pick (T 9) (.const (.bool true)) (T 12))]) (
  .cond (T 13) (
   .seq (
    .ops [D 14 (.build [(.int .i64 0), (.bool false)] []),
     E (.st 2 (T 2) (T 14)),
     D 3 (.mv (I 7))]) (
   .ret)) (
   .skip))) (
 .trim [1, 2] (
  .trim [1, 2, 25] (
   .ops [D 15 (.fa 4 (T 1)),
    D 16 (.ld1 (T 15)),
    D 17 (.len (T 16)),
    D 18 (.bin .neq (T 17) (I 2)),
    D 19 (.mv (T 18)),
    ⟨(some 20), some (19, false), .fa 4 (T 1)⟩,
    ⟨(some 21), some (19, false), .ld1 (T 20)⟩,
    ⟨(some 22), some (19, false), .ia 1 (T 21) (I 1)⟩,
    ⟨(some 23), some (19, false), .ld1 (T 22)⟩,
    ⟨(some 24), some (19, false), .bin .gtr (T 23) (.const (.int .u8 1))⟩,
    D 25 (.pick (T 19) (.const (.bool true)) (T 24))]) (
  .cond (T 25) (
   .seq (
    .ops [D 26 (.build [(.int .i64 0), (.bool false)] []),
     E (.st 2 (T 2) (T 26)),
     D 3 (.mv (I 4))]) (
   .ret)) (
   .skip))) (
 .trim [2, 4] (
  .draw [⟨0, 0, 0, D 27 (.fa 4 (T 1))⟩,
   ⟨1, 1, 1, D 28 (.ld1 (T 27))⟩,
   ⟨2, 0, 3, D 29 (.ia 1 (T 28) (I 0))⟩,
   ⟨3, 1, 7, D 30 (.ld1 (T 29))⟩,
   ⟨4, 0, 15, D 31 (.cvi .i64 (T 30))⟩,
   ⟨5, 0, 0, D 32 (.fa 4 (T 1))⟩,
   ⟨6, 1, 32, D 33 (.ld1 (T 32))⟩,
   ⟨7, 0, 96, D 34 (.ia 1 (T 33) (I 1))⟩,
   ⟨8, 1, 224, D 35 (.ld1 (T 34))⟩,
   ⟨9, 0, 480, D 36 (.bin .eql (T 35) (.const (.int .u8 1)))⟩,
   ⟨10, 0, 1023, D 37 (.build [(.int .i64 0), (.bool false)] [(0, 1, (T 31)), (1, 1, (T 36))])⟩,
   ⟨11, 2, 0, D 4 (.alloc [(.int .i64 0), (.bool false)])⟩,
   ⟨12, 4, 4095, E (.st 2 (T 4) (T 37))⟩]) (
 .trim [2, 4] (
  .seq (
   .ops [D 38 (.ldN 2 (T 4)),
    D 39 (.call 21 [(T 38)]),
    D 5 (.mv (T 39))]) (
  .seq (
   .ops [D 40 (.mv (T 5)),
    D 41 (.bin .neq (T 40) (I 0))]) (
  .cond (T 41) (
   .seq (
    .ops [D 42 (.build [(.int .i64 0), (.bool false)] []),
     D 43 (.mv (T 5)),
     E (.st 2 (T 2) (T 42)),
     D 3 (.mv (T 43))]) (
   .ret)) (
   .skip)))) (
 .seq (
  .ops [D 44 (.ldN 2 (T 4)),
   E (.st 2 (T 2) (T 44)),
   D 3 (.mv (I 0))]) (
 .ret))))))⟩
theorem code_Rate_ok : Ok Try.prog 53 code_Rate := ⟨by kernel_rfl, by kernel_rfl⟩

/-- diorama/code.Numbers -/
def code_Numbers : AF := ⟨54, [.tmp 2, .tmp 3],
 .seq (
  .ops [D 1 (.box (T 0)),
   D 2 (.mv (.const (.slice none 0 0))),
   D 3 (.mv (I 0))]) (
 .trim [1, 4, 5] (
  .ops [D 13 (.ldN 11 (T 1)),
   D 14 (.call 53 [(T 13)]),
   D 12 (.mv (T 14)),
   D 15 (.ext (T 12) 0),
   D 16 (.ext (T 12) 1),
   D 4 (.alloc [(.int .i64 0), (.bool false)]),
   E (.st 2 (T 4) (T 15)),
   D 5 (.mv (T 16))]) (
 .trim [1, 4] (
  .seq (
   .ops [D 17 (.mv (T 5)),
    D 18 (.bin .neq (T 17) (I 0))]) (
  .cond (T 18) (
   .seq (
    .ops [D 19 (.mv (T 5)),
     D 2 (.mv (.const (.slice none 0 0))),
     D 3 (.mv (T 19))]) (
   .ret)) (
   .skip))) (
 .trim [1, 4] (
  .seq (
   .ops [D 20 (.fa 10 (T 1)),
    D 21 (.ld1 (T 20)),
    D 22 (.call 86 [(T 21), (.func 87)])]) (
  .cond (T 22) (
   .seq (
    .ops [D 2 (.mv (.const (.slice none 0 0))),
     D 3 (.mv (I 4))]) (
   .ret)) (
   .skip))) (
 .seq (
  .ops [D 6 (.mv (.const (.slice none 0 0)))]) (
 .trim [6] (
  .seq (
   .ops [D 23 (.fa 10 (T 1)),
    D 24 (.ld1 (T 23)),
    D 25 (.len (T 24)),
    D 26 (.mv (I 0))]) (
  .block 0 (
   .loop [4, 6, 24, 25, 26] (
    .seq (
     .ops [D 27 (.bin .lss (T 26) (T 25))]) (
    .seq (
     .cond (T 27) (
      .skip) (
      .exit 0)) (
    .trim [4, 6, 24, 25, 26] (
     .block 1 (
      .seq (
       .ops [D 28 (.ia 6 (T 24) (T 26)),
        D 29 (.ldN 6 (T 28)),
        D 8 (.alloc [(.int .i64 0), (.int .i64 0), (.int .i64 0), (.bool false), (.slice none 0 0), (.slice none 0 0)]),
        E (.st 6 (T 8) (T 29))]) (
      .seq (
       .ops [D 9 (.mv (I 0))]) (
      .trim [4, 6, 9, 24, 25, 26] (
       .seq (
        .ops [D 30 (.fa 5 (T 8)),
         D 31 (.ld1 (T 30)),
         D 32 (.len (T 31)),
         D 33 (.mv (I 0))]) (
       .block 2 (
        .loop [4, 6, 9, 24, 25, 26, 31, 32, 33] (
         .seq (
          .ops [D 34 (.bin .lss (T 33) (T 32))]) (
         .seq (
          .cond (T 34) (
           .skip) (
           .exit 2)) (
         .trim [4, 6, 9, 24, 25, 26, 31, 32, 33] (
          .block 3 (
           .seq (
            .ops [D 35 (.ia 1 (T 31) (T 33)),
             D 36 (.ld1 (T 35)),
             D 11 (.mv (T 36))]) (
           .ops [D 37 (.mv (T 9)),
            D 38 (.shlc (T 37) 8),
            D 39 (.mv (T 11)),
            D 40 (.cvi .i64 (T 39)),
            D 41 (.bin .or (T 38) (T 40)),
            D 9 (.mv (T 41))]))) (
         .ops [D 42 (.bin .add (T 33) (I 1)),
          D 33 (.mv (T 42))]))))))) (
      .trim [4, 6, 9, 24, 25, 26] (
       .seq (
        .ops [D 43 (.mv (T 9)),
         D 44 (.ldN 2 (T 4)),
         D 45 (.build [(.int .i64 0), (.bool false)] [(0, 2, (T 44))]),
         D 46 (.call 22 [(T 45)]),
         D 47 (.bin .geq (T 43) (T 46))]) (
       .cond (T 47) (
        .seq (
         .ops [D 2 (.mv (.const (.slice none 0 0))),
          D 3 (.mv (I 1))]) (
        .ret)) (
        .skip))) (
      .ops [D 48 (.mv (T 6)),
       D 49 (.mv (T 9)),
       D 50 (.bslice [(.int .i64 0)] 1 [(0, 1, (T 49))]),
       D 51 (.app 1 8 (T 48) (T 50)),
       D 6 (.mv (T 51))])))))) (
    .ops [D 52 (.bin .add (T 26) (I 1)),
     D 26 (.mv (T 52))]))))))) (
 .seq (
  .ops [D 53 (.mv (T 6)),
   D 2 (.mv (T 53)),
   D 3 (.mv (I 0))]) (
 .ret)))))))⟩
theorem code_Numbers_ok : Ok Try.prog 54 code_Numbers := ⟨by kernel_rfl, by kernel_rfl⟩

/-- (*diorama/code.reader).media -/
def code_reader__media : AF := ⟨90, [.tmp 4, .tmp 5],
 .seq (
  .ops [D 4 (.mv (.const (.pointer none))),
   D 5 (.mv (.const (.bool false)))]) (
 .trim [0, 1] (
  .trim [0, 1, 18] (
   .ops [D 12 (.mv (T 0)),
    D 13 (.nil (T 12)),
    D 14 (.fa 6 (T 13)),
    D 15 (.fa 8 (T 14)),
    D 16 (.ld1 (T 15)),
    D 17 (.len (T 16)),
    D 18 (.bin .eql (T 17) (I 0))]) (
  .cond (T 18) (
   .seq (
    .ops [D 19 (.mv (T 1)),
     D 20 (.mv (T 1)),
     D 21 (.call 88 [(T 20)]),
     D 22 (.bin .geq (T 21) (I 0)),
     D 4 (.mv (T 19)),
     D 5 (.mv (T 22))]) (
   .ret)) (
   .skip))) (
 .seq (
  .ops [D 6 (.mv (I 0))]) (
 .trim [] (
  .seq (
   .ops [D 23 (.mv (T 0)),
    D 24 (.nil (T 23)),
    D 25 (.fa 6 (T 24)),
    D 26 (.fa 8 (T 25)),
    D 27 (.ld1 (T 26)),
    D 28 (.len (T 27)),
    D 29 (.mv (I 0))]) (
  .block 0 (
   .loop [0, 1, 6, 27, 28, 29] (
    .seq (
     .ops [D 30 (.bin .lss (T 29) (T 28))]) (
    .seq (
     .cond (T 30) (
      .skip) (
      .exit 0)) (
    .trim [0, 1, 6, 27, 28, 29] (
     .block 1 (
      .seq (
       .ops [D 31 (.ia 4 (T 27) (T 29)),
        D 32 (.ldN 4 (T 31)),
        D 8 (.alloc [(.int .i64 0), (.int .i64 0), (.int .i64 0), (.int .i64 0)]),
        E (.st 4 (T 8) (T 32))]) (
      .trim [0, 1, 6, 8, 9, 10, 27, 28, 29] (
       .draw [⟨0, 0, 0, D 33 (.mv (T 6))⟩,
        ⟨1, 0, 0, D 34 (.mv (T 0))⟩,
        ⟨2, 0, 2, D 35 (.nil (T 34))⟩,
        ⟨3, 0, 6, D 36 (.fa 0 (T 35))⟩,
        ⟨4, 0, 14, D 37 (.fa 0 (T 36))⟩,
        ⟨5, 1, 30, D 38 (.ld1 (T 37))⟩,
        ⟨7, 0, 0, D 40 (.mv (T 6))⟩,
        ⟨8, 0, 0, D 41 (.fa 0 (T 8))⟩,
        ⟨9, 1, 256, D 42 (.ld1 (T 41))⟩,
        ⟨10, 0, 896, D 43 (.bin .add (T 40) (T 42))⟩,
        ⟨11, 0, 0, D 44 (.mv (T 0))⟩,
        ⟨12, 0, 2048, D 45 (.nil (T 44))⟩,
        ⟨13, 0, 6144, D 46 (.fa 0 (T 45))⟩,
        ⟨14, 0, 14336, D 47 (.fa 0 (T 46))⟩,
        ⟨15, 1, 30720, D 48 (.ld1 (T 47))⟩,
        ⟨6, 4, 63, D 39 (.call 27 [(T 33), (T 38)])⟩,
        ⟨16, 4, 65535, D 49 (.call 27 [(T 43), (T 48)])⟩,
        ⟨17, 0, 131071, D 9 (.mv (T 39))⟩,
        ⟨18, 0, 262143, D 10 (.mv (T 49))⟩]) (
      .seq (
       .ops [D 50 (.mv (T 6)),
        D 51 (.fa 0 (T 8)),
        D 52 (.ld1 (T 51)),
        D 53 (.bin .add (T 50) (T 52)),
        D 6 (.mv (T 53))]) (
      .trim [0, 1, 6, 8, 9, 27, 28, 29, 63] (
       .ops [D 54 (.mv (T 1)),
        D 55 (.mv (T 9)),
        D 56 (.call 89 [(T 54), (T 55)]),
        D 57 (.bin .geq (T 56) (I 0)),
        D 58 (.mv (T 57)),
        ⟨(some 59), some (58, true), .mv (T 1)⟩,
        ⟨(some 60), some (58, true), .mv (T 10)⟩,
        ⟨(some 61), some (58, true), .call 89 [(T 59), (T 60)]⟩,
        ⟨(some 62), some (58, true), .bin .lss (T 61) (I 0)⟩,
        D 63 (.pick (T 58) (T 62) (.const (.bool false)))]) (
      .cond (T 63) (
       .seq (
        .ops [D 64 (.mv (T 9)),
         D 65 (.mv (T 1)),
         D 66 (.mv (T 9)),
         D 67 (.call 64 [(T 64), (T 65), (T 66)]),
         D 11 (.mv (T 67))]) (
       .trim [4, 5] (
        .draw [⟨0, 0, 0, D 68 (.mv (T 11))⟩,
         ⟨1, 0, 0, D 69 (.mv (T 11))⟩,
         ⟨2, 0, 0, D 70 (.mv (T 11))⟩,
         ⟨3, 0, 0, D 71 (.fa 2 (T 8))⟩,
         ⟨4, 1, 8, D 72 (.ld1 (T 71))⟩,
         ⟨5, 0, 0, D 73 (.fa 3 (T 8))⟩,
         ⟨6, 1, 32, D 74 (.ld1 (T 73))⟩,
         ⟨9, 0, 0, D 77 (.fa 1 (T 8))⟩,
         ⟨10, 1, 512, D 78 (.ld1 (T 77))⟩,
         ⟨11, 0, 0, D 79 (.mv (T 0))⟩,
         ⟨12, 0, 2048, D 80 (.nil (T 79))⟩,
         ⟨13, 0, 6144, D 81 (.fa 6 (T 80))⟩,
         ⟨14, 0, 14336, D 82 (.fa 3 (T 81))⟩,
         ⟨15, 1, 30720, D 83 (.ld1 (T 82))⟩,
         ⟨18, 0, 0, D 86 (.fa 1 (T 8))⟩,
         ⟨19, 1, 262144, D 87 (.ld1 (T 86))⟩,
         ⟨20, 0, 786432, D 88 (.bin .geq (T 87) (I 0))⟩,
         ⟨7, 4, 120, D 75 (.call 27 [(T 72), (T 74)])⟩,
         ⟨8, 4, 254, D 76 (.call 61 [(T 69), (T 70), (T 75)])⟩,
         ⟨16, 4, 65534, D 84 (.call 27 [(T 78), (T 83)])⟩,
         ⟨17, 4, 131071, D 85 (.call 66 [(T 68), (T 76), (T 84)])⟩,
         ⟨21, 0, 262143, D 4 (.mv (T 85))⟩,
         ⟨22, 0, 4194303, D 5 (.mv (T 88))⟩]) (
       .ret))) (
       .skip))))))) (
    .ops [D 89 (.bin .add (T 29) (I 1)),
     D 29 (.mv (T 89))]))))))) (
 .seq (
  .ops [D 4 (.mv (.const (.pointer none))),
   D 5 (.mv (.const (.bool false)))]) (
 .ret)))))⟩
theorem code_reader__media_ok : Ok Try.prog 55 code_reader__media := ⟨by kernel_rfl, by kernel_rfl⟩

/-- diorama/num.NewInt -/
def num_NewInt : AF := ⟨6, [.tmp 2],
 .seq (
  .ops [D 2 (.mv (.const (.pointer none)))]) (
 .seq (
  .ops [D 3 (.alloc [(.bool false), (.slice none 0 0)]),
   D 4 (.mv (T 0)),
   D 5 (.call 90 [(T 3), (T 4)]),
   D 2 (.mv (T 5))]) (
 .ret))⟩
theorem num_NewInt_ok : Ok Try.prog 56 num_NewInt := ⟨by kernel_rfl, by kernel_rfl⟩

/-- (*diorama/num.Rat).Num -/
def num_Rat__Num : AF := ⟨6, [.tmp 2],
 .seq (
  .ops [D 2 (.mv (.const (.pointer none)))]) (
 .seq (
  .ops [D 3 (.mv (T 0)),
   D 4 (.nil (T 3)),
   D 5 (.fa 0 (T 4)),
   D 2 (.mv (T 5))]) (
 .ret))⟩
theorem num_Rat__Num_ok : Ok Try.prog 57 num_Rat__Num := ⟨by kernel_rfl, by kernel_rfl⟩

/-- (*diorama/num.Int).CmpAbs -/
def num_Int__CmpAbs : AF := ⟨15, [.tmp 4],
 .seq (
  .ops [D 4 (.mv (I 0))]) (
 .trim [4] (
  .draw [⟨0, 0, 0, D 5 (.mv (T 0))⟩,
   ⟨1, 0, 1, D 6 (.nil (T 5))⟩,
   ⟨2, 0, 3, D 7 (.fa 1 (T 6))⟩,
   ⟨3, 1, 7, D 8 (.ld1 (T 7))⟩,
   ⟨4, 0, 0, D 9 (.mv (T 1))⟩,
   ⟨5, 0, 16, D 10 (.nil (T 9))⟩,
   ⟨6, 0, 48, D 11 (.fa 1 (T 10))⟩,
   ⟨7, 1, 112, D 12 (.ld1 (T 11))⟩,
   ⟨8, 4, 255, D 13 (.call 92 [(T 8), (T 12)])⟩,
   ⟨9, 4, 511, D 14 (.call 91 [(T 13)])⟩,
   ⟨10, 0, 1023, D 4 (.mv (T 14))⟩]) (
 .ret))⟩
theorem num_Int__CmpAbs_ok : Ok Try.prog 58 num_Int__CmpAbs := ⟨by kernel_rfl, by kernel_rfl⟩

/-- (*diorama/num.Rat).Denom -/
def num_Rat__Denom : AF := ⟨5, [.tmp 2],
 .seq (
  .ops [D 2 (.mv (.const (.pointer none)))]) (
 .seq (
  .ops [D 3 (.mv (T 0)),
   D 4 (.call 93 [(T 3)]),
   D 2 (.mv (T 4))]) (
 .ret))⟩
theorem num_Rat__Denom_ok : Ok Try.prog 59 num_Rat__Denom := ⟨by kernel_rfl, by kernel_rfl⟩

/-- (*diorama/num.Int).Cmp -/
def num_Int__Cmp : AF := ⟨41, [.tmp 4],
 .seq (
  .ops [D 4 (.mv (I 0))]) (
 .trim [0, 1] (
  .block 0 (
   .trim [0, 1, 5] (
    .ops [D 6 (.mv (T 0)),
     D 7 (.nil (T 6)),
     D 8 (.fa 0 (T 7)),
     D 9 (.ld1 (T 8)),
     D 10 (.mv (T 9)),
     ⟨(some 11), some (10, true), .mv (T 1)⟩,
     ⟨(some 12), some (10, true), .nil (T 11)⟩,
     ⟨(some 13), some (10, true), .fa 0 (T 12)⟩,
     ⟨(some 14), some (10, true), .ld1 (T 13)⟩,
     ⟨(some 15), some (10, true), .un .not (T 14)⟩,
     D 16 (.pick (T 10) (T 15) (.const (.bool false))),
     D 5 (.mv (T 16))]) (
   .cond (T 5) (
    .seq (
     .ops [D 4 (.mv (I (-1)))]) (
    .ret)) (
    .trim [0, 1, 17] (
     .ops [D 18 (.mv (T 0)),
      D 19 (.nil (T 18)),
      D 20 (.fa 0 (T 19)),
      D 21 (.ld1 (T 20)),
      D 22 (.un .not (T 21)),
      D 23 (.mv (T 22)),
      ⟨(some 24), some (23, true), .mv (T 1)⟩,
      ⟨(some 25), some (23, true), .nil (T 24)⟩,
      ⟨(some 26), some (23, true), .fa 0 (T 25)⟩,
      ⟨(some 27), some (23, true), .ld1 (T 26)⟩,
      D 28 (.pick (T 23) (T 27) (.const (.bool false))),
      D 17 (.mv (T 28))]) (
    .cond (T 17) (
     .seq (
      .ops [D 4 (.mv (I 1))]) (
     .ret)) (
     .seq (
      .ops [D 30 (.mv (T 0)),
       D 31 (.nil (T 30)),
       D 32 (.fa 0 (T 31)),
       D 33 (.ld1 (T 32)),
       D 29 (.mv (T 33))]) (
     .cond (T 29) (
      .seq (
       .ops [D 34 (.mv (T 0)),
        D 35 (.mv (T 1)),
        D 36 (.call 58 [(T 34), (T 35)]),
        D 37 (.un .neg (T 36)),
        D 4 (.mv (T 37))]) (
      .ret)) (
      .skip)))))))) (
 .seq (
  .ops [D 38 (.mv (T 0)),
   D 39 (.mv (T 1)),
   D 40 (.call 58 [(T 38), (T 39)]),
   D 4 (.mv (T 40))]) (
 .ret)))⟩
theorem num_Int__Cmp_ok : Ok Try.prog 60 num_Int__Cmp := ⟨by kernel_rfl, by kernel_rfl⟩

/-- (*diorama/num.Rat).Mul -/
def num_Rat__Mul : AF := ⟨21, [.tmp 6],
 .seq (
  .ops [D 6 (.mv (.const (.pointer none)))]) (
 .trim [6] (
  .draw [⟨0, 0, 0, D 7 (.mv (T 0))⟩,
   ⟨1, 0, 0, D 8 (.mv (T 1))⟩,
   ⟨2, 0, 2, D 9 (.nil (T 8))⟩,
   ⟨3, 0, 6, D 10 (.fa 0 (T 9))⟩,
   ⟨4, 0, 0, D 11 (.mv (T 2))⟩,
   ⟨5, 0, 16, D 12 (.nil (T 11))⟩,
   ⟨6, 0, 48, D 13 (.fa 0 (T 12))⟩,
   ⟨8, 0, 0, D 15 (.mv (T 1))⟩,
   ⟨10, 0, 0, D 17 (.mv (T 2))⟩,
   ⟨7, 4, 126, D 14 (.call 95 [(T 10), (T 13)])⟩,
   ⟨9, 4, 510, D 16 (.call 93 [(T 15)])⟩,
   ⟨11, 4, 2046, D 18 (.call 93 [(T 17)])⟩,
   ⟨12, 4, 4094, D 19 (.call 95 [(T 16), (T 18)])⟩,
   ⟨13, 4, 8191, D 20 (.call 94 [(T 7), (T 14), (T 19)])⟩,
   ⟨14, 0, 16383, D 6 (.mv (T 20))⟩]) (
 .ret))⟩
theorem num_Rat__Mul_ok : Ok Try.prog 61 num_Rat__Mul := ⟨by kernel_rfl, by kernel_rfl⟩

/-- (*diorama/code.reader).sample -/
def code_reader__sample : AF := ⟨60, [.tmp 4],
 .seq (
  .ops [D 4 (.mv (I 0))]) (
 .seq (
  .ops [D 5 (.mv (I (-1)))]) (
 .trim [0, 1, 5] (
  .seq (
   .ops [D 9 (.mv (T 1)),
    D 10 (.call 96 [(T 9)]),
    D 11 (.un .not (T 10))]) (
  .cond (T 11) (
   .seq (
    .ops [D 12 (.mv (T 5)),
     D 4 (.mv (T 12))]) (
   .ret)) (
   .skip))) (
 .seq (
  .ops [D 13 (.mv (T 1)),
   D 14 (.call 97 [(T 13)]),
   D 6 (.mv (T 14))]) (
 .trim [5] (
  .seq (
   .ops [D 15 (.mv (T 0)),
    D 16 (.nil (T 15)),
    D 17 (.fa 6 (T 16)),
    D 18 (.fa 10 (T 17)),
    D 19 (.ld1 (T 18)),
    D 20 (.len (T 19)),
    D 21 (.mv (I 0))]) (
  .block 0 (
   .loop [0, 5, 6, 19, 20, 21] (
    .seq (
     .ops [D 22 (.bin .lss (T 21) (T 20))]) (
    .seq (
     .cond (T 22) (
      .skip) (
      .exit 0)) (
    .trim [0, 5, 6, 19, 20, 21] (
     .block 1 (
      .seq (
       .ops [D 23 (.mv (T 21)),
        D 24 (.ia 6 (T 19) (T 21)),
        D 25 (.ldN 6 (T 24)),
        D 8 (.alloc [(.int .i64 0), (.int .i64 0), (.int .i64 0), (.bool false), (.slice none 0 0), (.slice none 0 0)]),
        D 7 (.mv (T 23)),
        E (.st 6 (T 8) (T 25))]) (
      .trim [0, 5, 6, 7, 19, 20, 21, 56] (
       .draw [⟨0, 0, 0, D 26 (.fa 1 (T 8))⟩,
        ⟨1, 1, 1, D 27 (.ld1 (T 26))⟩,
        ⟨2, 0, 0, D 28 (.mv (T 6))⟩,
        ⟨3, 0, 7, D 29 (.bin .leq (T 27) (T 28))⟩,
        ⟨4, 0, 15, D 30 (.mv (T 29))⟩,
        ⟨5, 0, 31, ⟨(some 31), some (30, true), .mv (T 6)⟩⟩,
        ⟨6, 0, 31, ⟨(some 32), some (30, true), .fa 1 (T 8)⟩⟩,
        ⟨7, 1, 95, ⟨(some 33), some (30, true), .ld1 (T 32)⟩⟩,
        ⟨8, 0, 31, ⟨(some 34), some (30, true), .fa 2 (T 8)⟩⟩,
        ⟨9, 1, 287, ⟨(some 35), some (30, true), .ld1 (T 34)⟩⟩,
        ⟨10, 0, 991, ⟨(some 36), some (30, true), .bin .add (T 33) (T 35)⟩⟩,
        ⟨11, 0, 2047, ⟨(some 37), some (30, true), .bin .lss (T 31) (T 36)⟩⟩,
        ⟨12, 0, 4095, D 38 (.pick (T 30) (T 37) (.const (.bool false)))⟩,
        ⟨13, 0, 8191, D 39 (.mv (T 38))⟩,
        ⟨14, 0, 16383, ⟨(some 40), some (39, true), .mv (T 5)⟩⟩,
        ⟨15, 0, 32767, ⟨(some 41), some (39, true), .bin .lss (T 40) (I 0)⟩⟩,
        ⟨16, 0, 65535, ⟨(some 42), some (39, true), .mv (T 41)⟩⟩,
        ⟨17, 0, 131071, ⟨(some 43), some (42, false), .fa 1 (T 8)⟩⟩,
        ⟨18, 1, 262143, ⟨(some 44), some (42, false), .ld1 (T 43)⟩⟩,
        ⟨19, 0, 131071, ⟨(some 45), some (42, false), .mv (T 0)⟩⟩,
        ⟨20, 0, 655359, ⟨(some 46), some (42, false), .nil (T 45)⟩⟩,
        ⟨21, 0, 1703935, ⟨(some 47), some (42, false), .fa 6 (T 46)⟩⟩,
        ⟨22, 0, 3801087, ⟨(some 48), some (42, false), .fa 10 (T 47)⟩⟩,
        ⟨23, 1, 7995391, ⟨(some 49), some (42, false), .ld1 (T 48)⟩⟩,
        ⟨24, 0, 131071, ⟨(some 50), some (42, false), .mv (T 5)⟩⟩,
        ⟨25, 0, 33161215, ⟨(some 51), some (42, false), .ia 6 (T 49) (T 50)⟩⟩,
        ⟨26, 0, 66715647, ⟨(some 52), some (42, false), .fa 1 (T 51)⟩⟩,
        ⟨27, 1, 133824511, ⟨(some 53), some (42, false), .ld1 (T 52)⟩⟩,
        ⟨28, 0, 268435455, ⟨(some 54), some (42, false), .bin .geq (T 44) (T 53)⟩⟩,
        ⟨29, 0, 536870911, ⟨(some 55), some (39, true), .pick (T 42) (.const (.bool true)) (T 54)⟩⟩,
        ⟨30, 0, 1073741823, D 56 (.pick (T 39) (T 55) (.const (.bool false)))⟩]) (
      .cond (T 56) (
       .ops [D 57 (.mv (T 7)),
        D 5 (.mv (T 57))]) (
       .skip))))) (
    .ops [D 58 (.bin .add (T 21) (I 1)),
     D 21 (.mv (T 58))]))))))) (
 .seq (
  .ops [D 59 (.mv (T 5)),
   D 4 (.mv (T 59))]) (
 .ret))))))⟩
theorem code_reader__sample_ok : Ok Try.prog 62 code_reader__sample := ⟨by kernel_rfl, by kernel_rfl⟩

/-- diorama/code.down -/
def code_down : AF := ⟨9, [.tmp 2],
 .seq (
  .ops [D 2 (.mv (.const (.pointer none)))]) (
 .trim [2] (
  .ops [D 3 (.alloc [(.bool false), (.slice none 0 0)]),
   D 4 (.mv (T 0)),
   D 5 (.call 57 [(T 4)]),
   D 6 (.mv (T 0)),
   D 7 (.call 59 [(T 6)]),
   D 8 (.call 98 [(T 3), (T 5), (T 7)]),
   D 2 (.mv (T 8))]) (
 .ret))⟩
theorem code_down_ok : Ok Try.prog 63 code_down := ⟨by kernel_rfl, by kernel_rfl⟩

/-- (*diorama/num.Rat).Sub -/
def num_Rat__Sub : AF := ⟨31, [.tmp 6],
 .seq (
  .ops [D 6 (.mv (.const (.pointer none)))]) (
 .trim [0, 1, 2, 7] (
  .draw [⟨0, 0, 0, D 8 (.mv (T 1))⟩,
   ⟨1, 0, 1, D 9 (.nil (T 8))⟩,
   ⟨2, 0, 3, D 10 (.fa 0 (T 9))⟩,
   ⟨3, 0, 0, D 11 (.mv (T 2))⟩,
   ⟨4, 4, 8, D 12 (.call 93 [(T 11)])⟩,
   ⟨5, 4, 31, D 13 (.call 95 [(T 10), (T 12)])⟩,
   ⟨6, 0, 63, D 7 (.mv (T 13))⟩]) (
 .trim [0, 1, 2, 7] (
  .draw [⟨0, 0, 0, D 14 (.mv (T 7))⟩,
   ⟨1, 0, 0, D 15 (.mv (T 7))⟩,
   ⟨2, 0, 0, D 16 (.mv (T 2))⟩,
   ⟨3, 0, 4, D 17 (.nil (T 16))⟩,
   ⟨4, 0, 12, D 18 (.fa 0 (T 17))⟩,
   ⟨5, 0, 0, D 19 (.mv (T 1))⟩,
   ⟨6, 4, 32, D 20 (.call 93 [(T 19)])⟩,
   ⟨7, 4, 124, D 21 (.call 95 [(T 18), (T 20)])⟩,
   ⟨8, 4, 255, D 22 (.call 99 [(T 14), (T 15), (T 21)])⟩]) (
 .trim [6] (
  .ops [D 23 (.mv (T 0)),
   D 24 (.mv (T 7)),
   D 25 (.mv (T 1)),
   D 26 (.call 93 [(T 25)]),
   D 27 (.mv (T 2)),
   D 28 (.call 93 [(T 27)]),
   D 29 (.call 95 [(T 26), (T 28)]),
   D 30 (.call 94 [(T 23), (T 24), (T 29)]),
   D 6 (.mv (T 30))]) (
 .ret))))⟩
theorem num_Rat__Sub_ok : Ok Try.prog 64 num_Rat__Sub := ⟨by kernel_rfl, by kernel_rfl⟩

/-- (diorama/code.steps).rate -/
def code_steps__rate : AF := ⟨15, [.tmp 2],
 .seq (
  .ops [D 1 (.box (T 0)),
   D 2 (.mv (.const (.pointer none)))]) (
 .trim [1] (
  .seq (
   .ops [D 3 (.fa 0 (T 1)),
    D 4 (.fa 1 (T 3)),
    D 5 (.ld1 (T 4))]) (
  .cond (T 5) (
   .trim [2] (
    .ops [D 6 (.fa 0 (T 1)),
     D 7 (.fa 0 (T 6)),
     D 8 (.ld1 (T 7)),
     D 9 (.bin .mul (T 8) (I 1000)),
     D 10 (.call 27 [(T 9), (I 1001)]),
     D 2 (.mv (T 10))]) (
   .ret)) (
   .skip))) (
 .seq (
  .ops [D 11 (.fa 0 (T 1)),
   D 12 (.fa 0 (T 11)),
   D 13 (.ld1 (T 12)),
   D 14 (.call 27 [(T 13), (I 1)]),
   D 2 (.mv (T 14))]) (
 .ret)))⟩
theorem code_steps__rate_ok : Ok Try.prog 65 code_steps__rate := ⟨by kernel_rfl, by kernel_rfl⟩

/-- (*diorama/num.Rat).Add -/
def num_Rat__Add : AF := ⟨31, [.tmp 6],
 .seq (
  .ops [D 6 (.mv (.const (.pointer none)))]) (
 .trim [0, 1, 2, 7] (
  .draw [⟨0, 0, 0, D 8 (.mv (T 1))⟩,
   ⟨1, 0, 1, D 9 (.nil (T 8))⟩,
   ⟨2, 0, 3, D 10 (.fa 0 (T 9))⟩,
   ⟨3, 0, 0, D 11 (.mv (T 2))⟩,
   ⟨4, 4, 8, D 12 (.call 93 [(T 11)])⟩,
   ⟨5, 4, 31, D 13 (.call 95 [(T 10), (T 12)])⟩,
   ⟨6, 0, 63, D 7 (.mv (T 13))⟩]) (
 .trim [0, 1, 2, 7] (
  .draw [⟨0, 0, 0, D 14 (.mv (T 7))⟩,
   ⟨1, 0, 0, D 15 (.mv (T 7))⟩,
   ⟨2, 0, 0, D 16 (.mv (T 2))⟩,
   ⟨3, 0, 4, D 17 (.nil (T 16))⟩,
   ⟨4, 0, 12, D 18 (.fa 0 (T 17))⟩,
   ⟨5, 0, 0, D 19 (.mv (T 1))⟩,
   ⟨6, 4, 32, D 20 (.call 93 [(T 19)])⟩,
   ⟨7, 4, 124, D 21 (.call 95 [(T 18), (T 20)])⟩,
   ⟨8, 4, 255, D 22 (.call 100 [(T 14), (T 15), (T 21)])⟩]) (
 .trim [6] (
  .ops [D 23 (.mv (T 0)),
   D 24 (.mv (T 7)),
   D 25 (.mv (T 1)),
   D 26 (.call 93 [(T 25)]),
   D 27 (.mv (T 2)),
   D 28 (.call 93 [(T 27)]),
   D 29 (.call 95 [(T 26), (T 28)]),
   D 30 (.call 94 [(T 23), (T 24), (T 29)]),
   D 6 (.mv (T 30))]) (
 .ret))))⟩
theorem num_Rat__Add_ok : Ok Try.prog 66 num_Rat__Add := ⟨by kernel_rfl, by kernel_rfl⟩

/-- (diorama/code.steps).modulo -/
def code_steps__modulo : AF := ⟨12, [.tmp 4],
 .seq (
  .ops [D 2 (.box (T 0)),
   D 4 (.mv (I 0))]) (
 .trim [4] (
  .ops [D 5 (.alloc [(.bool false), (.slice none 0 0)]),
   D 6 (.mv (T 1)),
   D 7 (.ldN 2 (T 2)),
   D 8 (.call 22 [(T 7)]),
   D 9 (.call 56 [(T 8)]),
   D 10 (.call 101 [(T 5), (T 6), (T 9)]),
   D 11 (.call 97 [(T 10)]),
   D 4 (.mv (T 11))]) (
 .ret))⟩
theorem code_steps__modulo_ok : Ok Try.prog 67 code_steps__modulo := ⟨by kernel_rfl, by kernel_rfl⟩

/-- diorama/num.NewRat -/
def num_NewRat : AF := ⟨11, [.tmp 4],
 .seq (
  .ops [D 4 (.mv (.const (.pointer none)))]) (
 .trim [4] (
  .ops [D 5 (.alloc [(.bool false), (.slice none 0 0), (.bool false), (.slice none 0 0)]),
   D 6 (.mv (T 0)),
   D 7 (.call 56 [(T 6)]),
   D 8 (.mv (T 1)),
   D 9 (.call 56 [(T 8)]),
   D 10 (.call 94 [(T 5), (T 7), (T 9)]),
   D 4 (.mv (T 10))]) (
 .ret))⟩
theorem num_NewRat_ok : Ok Try.prog 68 num_NewRat := ⟨by kernel_rfl, by kernel_rfl⟩

/-- (diorama/code.steps).dropped -/
def code_steps__dropped : AF := ⟨11, [.tmp 2],
 .seq (
  .ops [D 1 (.box (T 0)),
   D 2 (.mv (I 0))]) (
 .trim [1] (
  .seq (
   .ops [D 3 (.fa 0 (T 1)),
    D 4 (.fa 1 (T 3)),
    D 5 (.ld1 (T 4)),
    D 6 (.un .not (T 5))]) (
  .cond (T 6) (
   .seq (
    .ops [D 2 (.mv (I 0))]) (
   .ret)) (
   .skip))) (
 .seq (
  .ops [D 7 (.fa 0 (T 1)),
   D 8 (.fa 0 (T 7)),
   D 9 (.ld1 (T 8)),
   D 10 (.bin .quo (T 9) (I 15)),
   D 2 (.mv (T 10))]) (
 .ret)))⟩
theorem code_steps__dropped_ok : Ok Try.prog 69 code_steps__dropped := ⟨by kernel_rfl, by kernel_rfl⟩

/-- (diorama/code.steps).right -/
def code_steps__right : AF := ⟨49, [.tmp 4],
 .seq (
  .ops [D 2 (.box (T 0)),
   D 3 (.box (T 1)),
   D 4 (.mv (I 0))]) (
 .trim [] (
  .block 0 (
   .trim [2, 3, 5] (
    .ops [D 6 (.fa 0 (T 3)),
     D 7 (.ld1 (T 6)),
     D 8 (.call 30 [(T 7), (I 0), (I 23)]),
     D 9 (.un .not (T 8)),
     D 10 (.mv (T 9)),
     ⟨(some 11), some (10, false), .fa 1 (T 3)⟩,
     ⟨(some 12), some (10, false), .ld1 (T 11)⟩,
     ⟨(some 13), some (10, false), .call 30 [(T 12), (I 0), (I 59)]⟩,
     ⟨(some 14), some (10, false), .un .not (T 13)⟩,
     D 15 (.pick (T 10) (.const (.bool true)) (T 14)),
     D 16 (.mv (T 15)),
     ⟨(some 17), some (16, false), .fa 2 (T 3)⟩,
     ⟨(some 18), some (16, false), .ld1 (T 17)⟩,
     ⟨(some 19), some (16, false), .call 30 [(T 18), (I 0), (I 59)]⟩,
     ⟨(some 20), some (16, false), .un .not (T 19)⟩,
     D 21 (.pick (T 16) (.const (.bool true)) (T 20)),
     D 22 (.mv (T 21)),
     ⟨(some 23), some (22, false), .fa 3 (T 3)⟩,
     ⟨(some 24), some (22, false), .ld1 (T 23)⟩,
     ⟨(some 25), some (22, false), .fa 0 (T 2)⟩,
     ⟨(some 26), some (22, false), .fa 0 (T 25)⟩,
     ⟨(some 27), some (22, false), .ld1 (T 26)⟩,
     ⟨(some 28), some (22, false), .bin .sub (T 27) (I 1)⟩,
     ⟨(some 29), some (22, false), .call 30 [(T 24), (I 0), (T 28)]⟩,
     ⟨(some 30), some (22, false), .un .not (T 29)⟩,
     D 31 (.pick (T 22) (.const (.bool true)) (T 30)),
     D 5 (.mv (T 31))]) (
   .cond (T 5) (
    .seq (
     .ops [D 4 (.mv (I 1))]) (
    .ret)) (
    .trim [32] (
     .draw [⟨0, 0, 0, D 33 (.fa 2 (T 3))⟩,
      ⟨1, 1, 1, D 34 (.ld1 (T 33))⟩,
      ⟨2, 0, 3, D 35 (.bin .eql (T 34) (I 0))⟩,
      ⟨3, 0, 7, D 36 (.mv (T 35))⟩,
      ⟨4, 0, 15, ⟨(some 37), some (36, true), .fa 1 (T 3)⟩⟩,
      ⟨5, 1, 31, ⟨(some 38), some (36, true), .ld1 (T 37)⟩⟩,
      ⟨6, 0, 63, ⟨(some 39), some (36, true), .bin .rem (T 38) (I 10)⟩⟩,
      ⟨7, 0, 127, ⟨(some 40), some (36, true), .bin .neq (T 39) (I 0)⟩⟩,
      ⟨8, 0, 255, D 41 (.pick (T 36) (T 40) (.const (.bool false)))⟩,
      ⟨9, 0, 511, D 42 (.mv (T 41))⟩,
      ⟨10, 0, 1023, ⟨(some 43), some (42, true), .fa 3 (T 3)⟩⟩,
      ⟨11, 1, 2047, ⟨(some 44), some (42, true), .ld1 (T 43)⟩⟩,
      ⟨12, 1, 1023, ⟨(some 45), some (42, true), .ldN 2 (T 2)⟩⟩,
      ⟨13, 4, 5119, ⟨(some 46), some (42, true), .call 69 [(T 45)]⟩⟩,
      ⟨14, 0, 16383, ⟨(some 47), some (42, true), .bin .lss (T 44) (T 46)⟩⟩,
      ⟨15, 0, 32767, D 48 (.pick (T 42) (T 47) (.const (.bool false)))⟩,
      ⟨16, 0, 65535, D 32 (.mv (T 48))⟩]) (
    .cond (T 32) (
     .seq (
      .ops [D 4 (.mv (I 200))]) (
     .ret)) (
     .skip)))))) (
 .seq (
  .ops [D 4 (.mv (I 0))]) (
 .ret)))⟩
theorem code_steps__right_ok : Ok Try.prog 70 code_steps__right := ⟨by kernel_rfl, by kernel_rfl⟩

/-- diorama/dioramaref02.size -/
def dioramaref02_size : AF := ⟨10, [.tmp 2],
 .seq (
  .ops [D 2 (.mv (.const (.slice none 0 0)))]) (
 .trim [0] (
  .seq (
   .ops [D 3 (.mv (T 0)),
    D 4 (.bin .lss (T 3) (I 0))]) (
  .cond (T 4) (
   .seq (
    .ops [D 5 (.mv (T 0)),
     D 6 (.un .neg (T 5)),
     D 7 (.call 72 [(T 6)]),
     D 2 (.mv (T 7))]) (
   .ret)) (
   .skip))) (
 .seq (
  .ops [D 8 (.mv (T 0)),
   D 9 (.call 72 [(T 8)]),
   D 2 (.mv (T 9))]) (
 .ret)))⟩
theorem dioramaref02_size_ok : Ok Try.prog 71 dioramaref02_size := ⟨by kernel_rfl, by kernel_rfl⟩

/-- diorama/dioramaref02.Of -/
def dioramaref02_Of : AF := ⟨14, [.tmp 2],
 .seq (
  .ops [D 2 (.mv (.const (.slice none 0 0)))]) (
 .seq (
  .ops [D 3 (.mv (.const (.slice none 0 0)))]) (
 .trim [3] (
  .block 0 (
   .loop [0, 3] (
    .seq (
     .seq (
      .ops [D 4 (.mv (T 0)),
       D 5 (.bin .gtr (T 4) (I 0))]) (
     .cond (T 5) (
      .skip) (
      .exit 0))) (
    .block 1 (
     .trim [0, 3] (
      .ops [D 6 (.mv (T 3)),
       D 7 (.mv (T 0)),
       D 8 (.bin .rem (T 7) (I 1000000000)),
       D 9 (.bslice [(.int .i64 0)] 1 [(0, 1, (T 8))]),
       D 10 (.app 1 8 (T 6) (T 9)),
       D 3 (.mv (T 10))]) (
     .ops [D 11 (.mv (T 0)),
      D 12 (.bin .quo (T 11) (I 1000000000)),
      D 0 (.mv (T 12))])))))) (
 .seq (
  .ops [D 13 (.mv (T 3)),
   D 2 (.mv (T 13))]) (
 .ret))))⟩
theorem dioramaref02_Of_ok : Ok Try.prog 72 dioramaref02_Of := ⟨by kernel_rfl, by kernel_rfl⟩

/-- diorama/model.tick -/
def model_tick : AF := ⟨5, [.tmp 2],
 .seq (
  .ops [D 2 (.mv (.const (.bool false)))]) (
 .seq (
  .ops [D 3 (.mv (T 0)),
   D 4 (.call 45 [(T 3), (I (-1099511627776)), (I 1099511627776)]),
   D 2 (.mv (T 4))]) (
 .ret))⟩
theorem model_tick_ok : Ok Try.prog 79 model_tick := ⟨by kernel_rfl, by kernel_rfl⟩

/-- diorama/model.Check -/
def model_Check : AF := ⟨121, [.tmp 2, .tmp 3],
 .seq (
  .ops [D 1 (.box (T 0)),
   D 2 (.mv (I 0)),
   D 3 (.mv (I 0))]) (
 .trim [1] (
  .trim [1, 24] (
   .ops [D 15 (.fa 0 (T 1)),
    D 16 (.ld1 (T 15)),
    D 17 (.call 45 [(T 16), (I 1), (I 1000000)]),
    D 18 (.un .not (T 17)),
    D 19 (.mv (T 18)),
    ⟨(some 20), some (19, false), .fa 1 (T 1)⟩,
    ⟨(some 21), some (19, false), .ld1 (T 20)⟩,
    ⟨(some 22), some (19, false), .call 47 [(T 21)]⟩,
    ⟨(some 23), some (19, false), .un .not (T 22)⟩,
    D 24 (.pick (T 19) (.const (.bool true)) (T 23))]) (
  .cond (T 24) (
   .seq (
    .ops [D 2 (.mv (I 1)),
     D 3 (.mv (I (-1)))]) (
   .ret)) (
   .skip))) (
 .trim [1] (
  .trim [1, 46] (
   .ops [D 25 (.fa 2 (T 1)),
    D 26 (.ld1 (T 25)),
    D 27 (.len (T 26)),
    D 28 (.bin .gtr (T 27) (I 8)),
    D 29 (.mv (T 28)),
    ⟨(some 30), some (29, false), .fa 3 (T 1)⟩,
    ⟨(some 31), some (29, false), .ld1 (T 30)⟩,
    ⟨(some 32), some (29, false), .len (T 31)⟩,
    ⟨(some 33), some (29, false), .bin .gtr (T 32) (I 4)⟩,
    D 34 (.pick (T 29) (.const (.bool true)) (T 33)),
    D 35 (.mv (T 34)),
    ⟨(some 36), some (35, false), .fa 4 (T 1)⟩,
    ⟨(some 37), some (35, false), .ld1 (T 36)⟩,
    ⟨(some 38), some (35, false), .len (T 37)⟩,
    ⟨(some 39), some (35, false), .bin .gtr (T 38) (I 20)⟩,
    D 40 (.pick (T 35) (.const (.bool true)) (T 39)),
    D 41 (.mv (T 40)),
    ⟨(some 42), some (41, false), .fa 5 (T 1)⟩,
    ⟨(some 43), some (41, false), .ld1 (T 42)⟩,
    ⟨(some 44), some (41, false), .len (T 43)⟩,
    ⟨(some 45), some (41, false), .bin .gtr (T 44) (I 6)⟩,
    D 46 (.pick (T 41) (.const (.bool true)) (T 45))]) (
  .cond (T 46) (
   .seq (
    .ops [D 2 (.mv (I 2)),
     D 3 (.mv (I (-1)))]) (
   .ret)) (
   .skip))) (
 .trim [1] (
  .seq (
   .ops [D 47 (.fa 2 (T 1)),
    D 48 (.ld1 (T 47)),
    D 49 (.len (T 48)),
    D 50 (.mv (I 0))]) (
  .block 0 (
   .loop [1, 48, 49, 50] (
    .seq (
     .ops [D 51 (.bin .lss (T 50) (T 49))]) (
    .seq (
     .cond (T 51) (
      .skip) (
      .exit 0)) (
    .trim [1, 48, 49, 50] (
     .block 1 (
      .seq (
       .ops [D 52 (.mv (T 50)),
        D 53 (.ia 11 (T 48) (T 50)),
        D 54 (.ldN 11 (T 53)),
        D 5 (.alloc [(.int .i64 0), (.int .i64 0), (.string ⟨#[]⟩), (.int .i64 0), (.slice none 0 0), (.string ⟨#[]⟩), (.string ⟨#[]⟩), (.int .i64 0), (.slice none 0 0), (.slice none 0 0), (.slice none 0 0)]),
        D 4 (.mv (T 52)),
        E (.st 11 (T 5) (T 54))]) (
      .seq (
       .ops [D 55 (.ldN 11 (T 5)),
        D 56 (.call 23 [(T 55)]),
        D 6 (.mv (T 56))]) (
      .seq (
       .ops [D 57 (.mv (T 6)),
        D 58 (.bin .neq (T 57) (I 0))]) (
      .cond (T 58) (
       .seq (
        .ops [D 59 (.mv (T 6)),
         D 60 (.mv (T 4)),
         D 2 (.mv (T 59)),
         D 3 (.mv (T 60))]) (
       .ret)) (
       .skip)))))) (
    .ops [D 61 (.bin .add (T 50) (I 1)),
     D 50 (.mv (T 61))]))))))) (
 .trim [1] (
  .seq (
   .ops [D 62 (.fa 2 (T 1)),
    D 63 (.ld1 (T 62)),
    D 64 (.len (T 63)),
    D 65 (.mv (I 0))]) (
  .block 2 (
   .loop [1, 63, 64, 65] (
    .seq (
     .ops [D 66 (.bin .lss (T 65) (T 64))]) (
    .seq (
     .cond (T 66) (
      .skip) (
      .exit 2)) (
    .trim [1, 63, 64, 65] (
     .block 3 (
      .seq (
       .ops [D 67 (.mv (T 65)),
        D 68 (.ia 11 (T 63) (T 65)),
        D 69 (.ldN 11 (T 68)),
        D 8 (.alloc [(.int .i64 0), (.int .i64 0), (.string ⟨#[]⟩), (.int .i64 0), (.slice none 0 0), (.string ⟨#[]⟩), (.string ⟨#[]⟩), (.int .i64 0), (.slice none 0 0), (.slice none 0 0), (.slice none 0 0)]),
        D 7 (.mv (T 67)),
        E (.st 11 (T 8) (T 69))]) (
      .trim [1, 7, 63, 64, 65, 75] (
       .ops [D 70 (.ldN 6 (T 1)),
        D 71 (.fa 0 (T 8)),
        D 72 (.ld1 (T 71)),
        D 73 (.call 52 [(T 70), (T 72)]),
        D 74 (.mv (T 7)),
        D 75 (.bin .lss (T 73) (T 74))]) (
      .cond (T 75) (
       .seq (
        .ops [D 76 (.mv (T 7)),
         D 2 (.mv (I 30)),
         D 3 (.mv (T 76))]) (
       .ret)) (
       .skip))))) (
    .ops [D 77 (.bin .add (T 65) (I 1)),
     D 65 (.mv (T 77))]))))))) (
 .trim [1] (
  .seq (
   .ops [D 78 (.fa 2 (T 1)),
    D 79 (.ld1 (T 78)),
    D 80 (.len (T 79)),
    D 81 (.mv (I 0))]) (
  .block 4 (
   .loop [1, 79, 80, 81] (
    .seq (
     .ops [D 82 (.bin .lss (T 81) (T 80))]) (
    .seq (
     .cond (T 82) (
      .skip) (
      .exit 4)) (
    .trim [1, 79, 80, 81] (
     .block 5 (
      .seq (
       .ops [D 83 (.mv (T 81)),
        D 84 (.ia 11 (T 79) (T 81)),
        D 85 (.ldN 11 (T 84)),
        D 10 (.alloc [(.int .i64 0), (.int .i64 0), (.string ⟨#[]⟩), (.int .i64 0), (.slice none 0 0), (.string ⟨#[]⟩), (.string ⟨#[]⟩), (.int .i64 0), (.slice none 0 0), (.slice none 0 0), (.slice none 0 0)]),
        D 9 (.mv (T 83)),
        E (.st 11 (T 10) (T 85))]) (
      .seq (
       .ops [D 86 (.fa 9 (T 10)),
        D 87 (.ld1 (T 86)),
        D 88 (.len (T 87)),
        D 89 (.mv (I 0))]) (
      .block 6 (
       .loop [1, 9, 10, 79, 80, 81, 87, 88, 89] (
        .seq (
         .ops [D 90 (.bin .lss (T 89) (T 88))]) (
        .seq (
         .cond (T 90) (
          .skip) (
          .exit 6)) (
        .trim [1, 9, 10, 79, 80, 81, 87, 88, 89] (
         .block 7 (
          .seq (
           .ops [D 91 (.ia 2 (T 87) (T 89)),
            D 92 (.ldN 2 (T 91)),
            D 12 (.alloc [(.string ⟨#[]⟩), (.int .i64 0)]),
            E (.st 2 (T 12) (T 92))]) (
          .trim [1, 9, 10, 79, 80, 81, 87, 88, 89, 104] (
           .ops [D 93 (.fa 1 (T 12)),
            D 94 (.ld1 (T 93)),
            D 95 (.fa 0 (T 10)),
            D 96 (.ld1 (T 95)),
            D 97 (.bin .eql (T 94) (T 96)),
            D 98 (.mv (T 97)),
            ⟨(some 99), some (98, false), .ldN 6 (T 1)⟩,
            ⟨(some 100), some (98, false), .fa 1 (T 12)⟩,
            ⟨(some 101), some (98, false), .ld1 (T 100)⟩,
            ⟨(some 102), some (98, false), .call 52 [(T 99), (T 101)]⟩,
            ⟨(some 103), some (98, false), .bin .lss (T 102) (I 0)⟩,
            D 104 (.pick (T 98) (.const (.bool true)) (T 103))]) (
          .cond (T 104) (
           .seq (
            .ops [D 105 (.mv (T 9)),
             D 2 (.mv (I 30)),
             D 3 (.mv (T 105))]) (
           .ret)) (
           .skip))))) (
        .ops [D 106 (.bin .add (T 89) (I 1)),
         D 89 (.mv (T 106))]))))))))) (
    .ops [D 107 (.bin .add (T 81) (I 1)),
     D 81 (.mv (T 107))]))))))) (
 .trim [1] (
  .seq (
   .ops [D 108 (.ldN 6 (T 1)),
    D 109 (.call 109 [(T 108)]),
    D 13 (.mv (T 109))]) (
  .seq (
   .ops [D 110 (.mv (T 13)),
    D 111 (.bin .neq (T 110) (I 0))]) (
  .cond (T 111) (
   .seq (
    .ops [D 112 (.mv (T 13)),
     D 2 (.mv (T 112)),
     D 3 (.mv (I (-1)))]) (
   .ret)) (
   .skip)))) (
 .trim [1] (
  .seq (
   .ops [D 113 (.ldN 6 (T 1)),
    D 114 (.call 110 [(T 113)]),
    D 14 (.mv (T 114))]) (
  .seq (
   .ops [D 115 (.mv (T 14)),
    D 116 (.bin .neq (T 115) (I 0))]) (
  .cond (T 116) (
   .seq (
    .ops [D 117 (.mv (T 14)),
     D 2 (.mv (T 117)),
     D 3 (.mv (I (-1)))]) (
   .ret)) (
   .skip)))) (
 .trim [] (
  .seq (
   .ops [D 118 (.ldN 6 (T 1)),
    D 119 (.call 111 [(T 118)]),
    D 120 (.bin .gtr (T 119) (I 524288))]) (
  .cond (T 120) (
   .seq (
    .ops [D 2 (.mv (I 2)),
     D 3 (.mv (I (-1)))]) (
   .ret)) (
   .skip))) (
 .seq (
  .ops [D 2 (.mv (I 0)),
   D 3 (.mv (I (-1)))]) (
 .ret))))))))))⟩
theorem model_Check_ok : Ok Try.prog 80 model_Check := ⟨by kernel_rfl, by kernel_rfl⟩

/-- diorama/model.media -/
def model_media : AF := ⟨69, [.tmp 6],
 .seq (
  .ops [D 3 (.box (T 0)),
   D 4 (.box (T 1)),
   D 6 (.mv (.const (.pointer none)))]) (
 .seq (
  .seq (
   .ops [D 10 (.mv (T 2)),
    D 11 (.call 88 [(T 10)]),
    D 12 (.bin .lss (T 11) (I 0))]) (
  .cond (T 12) (
   .seq (
    .ops [D 6 (.mv (.const (.pointer none)))]) (
   .ret)) (
   .skip))) (
 .trim [2, 3, 4] (
  .seq (
   .ops [D 13 (.fa 8 (T 4)),
    D 14 (.ld1 (T 13)),
    D 15 (.len (T 14)),
    D 16 (.bin .eql (T 15) (I 0))]) (
  .cond (T 16) (
   .seq (
    .ops [D 17 (.mv (T 2)),
     D 6 (.mv (T 17))]) (
   .ret)) (
   .skip))) (
 .trim [3, 4, 7] (
  .ops [D 18 (.alloc [(.bool false), (.slice none 0 0), (.bool false), (.slice none 0 0)]),
   D 19 (.mv (T 2)),
   D 20 (.fa 0 (T 3)),
   D 21 (.ld1 (T 20)),
   D 22 (.call 83 [(T 21), (I 1)]),
   D 23 (.call 61 [(T 18), (T 19), (T 22)]),
   D 7 (.mv (T 23))]) (
 .trim [] (
  .seq (
   .ops [D 24 (.fa 8 (T 4)),
    D 25 (.ld1 (T 24)),
    D 26 (.len (T 25)),
    D 27 (.mv (I 0))]) (
  .block 0 (
   .loop [3, 4, 7, 25, 26, 27] (
    .seq (
     .ops [D 28 (.bin .lss (T 27) (T 26))]) (
    .seq (
     .cond (T 28) (
      .skip) (
      .exit 0)) (
    .trim [3, 4, 7, 25, 26, 27] (
     .block 1 (
      .seq (
       .ops [D 29 (.ia 4 (T 25) (T 27)),
        D 30 (.ldN 4 (T 29)),
        D 9 (.alloc [(.int .i64 0), (.int .i64 0), (.int .i64 0), (.int .i64 0)]),
        E (.st 4 (T 9) (T 30))]) (
      .trim [3, 4, 7, 9] (
       .trim [3, 4, 7, 9, 25, 26, 27, 36] (
        .ops [D 31 (.mv (T 7)),
         D 32 (.fa 0 (T 9)),
         D 33 (.ld1 (T 32)),
         D 34 (.call 83 [(T 33), (I 1)]),
         D 35 (.call 89 [(T 31), (T 34)]),
         D 36 (.bin .geq (T 35) (I 0))]) (
       .cond (T 36) (
        .trim [3, 4, 7, 25, 26, 27] (
         .ops [D 37 (.mv (T 7)),
          D 38 (.mv (T 7)),
          D 39 (.fa 0 (T 9)),
          D 40 (.ld1 (T 39)),
          D 41 (.call 83 [(T 40), (I 1)]),
          D 42 (.call 64 [(T 37), (T 38), (T 41)])]) (
        .exit 1)) (
        .skip))) (
      .seq (
       .seq (
        .ops [D 43 (.fa 1 (T 9)),
         D 44 (.ld1 (T 43)),
         D 45 (.bin .lss (T 44) (I 0))]) (
       .cond (T 45) (
        .seq (
         .ops [D 6 (.mv (.const (.pointer none)))]) (
        .ret)) (
        .skip))) (
      .trim [3, 4, 7, 9] (
       .ops [D 46 (.mv (T 7)),
        D 47 (.mv (T 7)),
        D 48 (.fa 2 (T 9)),
        D 49 (.ld1 (T 48)),
        D 50 (.fa 3 (T 9)),
        D 51 (.ld1 (T 50)),
        D 52 (.call 83 [(T 49), (T 51)]),
        D 53 (.call 61 [(T 46), (T 47), (T 52)])]) (
      .trim [4, 7, 9] (
       .ops [D 54 (.mv (T 7)),
        D 55 (.mv (T 7)),
        D 56 (.fa 0 (T 3)),
        D 57 (.ld1 (T 56)),
        D 58 (.call 83 [(T 57), (I 1)]),
        D 59 (.call 112 [(T 54), (T 55), (T 58)])]) (
      .trim [6] (
       .ops [D 60 (.mv (T 7)),
        D 61 (.mv (T 7)),
        D 62 (.fa 1 (T 9)),
        D 63 (.ld1 (T 62)),
        D 64 (.fa 3 (T 4)),
        D 65 (.ld1 (T 64)),
        D 66 (.call 83 [(T 63), (T 65)]),
        D 67 (.call 66 [(T 60), (T 61), (T 66)]),
        D 6 (.mv (T 67))]) (
      .ret)))))))) (
    .ops [D 68 (.bin .add (T 27) (I 1)),
     D 27 (.mv (T 68))]))))))) (
 .seq (
  .ops [D 6 (.mv (.const (.pointer none)))]) (
 .ret))))))⟩
theorem model_media_ok : Ok Try.prog 81 model_media := ⟨by kernel_rfl, by kernel_rfl⟩

/-- diorama/model.shownAt -/
def model_shownAt : AF := ⟨56, [.tmp 4],
 .seq (
  .ops [D 2 (.box (T 0)),
   D 4 (.mv (I 0))]) (
 .trim [2, 5] (
  .ops [D 9 (.alloc [(.bool false), (.slice none 0 0), (.bool false), (.slice none 0 0)]),
   D 10 (.mv (T 1)),
   D 11 (.fa 3 (T 2)),
   D 12 (.ld1 (T 11)),
   D 13 (.call 83 [(T 12), (I 1)]),
   D 14 (.call 61 [(T 9), (T 10), (T 13)]),
   D 5 (.mv (T 14))]) (
 .seq (
  .ops [D 6 (.mv (I (-1)))]) (
 .trim [6] (
  .seq (
   .ops [D 15 (.fa 10 (T 2)),
    D 16 (.ld1 (T 15)),
    D 17 (.len (T 16)),
    D 18 (.mv (I 0))]) (
  .block 0 (
   .loop [2, 5, 6, 16, 17, 18] (
    .seq (
     .ops [D 19 (.bin .lss (T 18) (T 17))]) (
    .seq (
     .cond (T 19) (
      .skip) (
      .exit 0)) (
    .trim [2, 5, 6, 16, 17, 18] (
     .block 1 (
      .seq (
       .ops [D 20 (.mv (T 18)),
        D 21 (.ia 6 (T 16) (T 18)),
        D 22 (.ldN 6 (T 21)),
        D 8 (.alloc [(.int .i64 0), (.int .i64 0), (.int .i64 0), (.bool false), (.slice none 0 0), (.slice none 0 0)]),
        D 7 (.mv (T 20)),
        E (.st 6 (T 8) (T 22))]) (
      .trim [2, 5, 6, 7, 8, 16, 17, 18] (
       .trim [2, 5, 6, 7, 8, 16, 17, 18, 39] (
        .ops [D 23 (.fa 1 (T 8)),
         D 24 (.ld1 (T 23)),
         D 25 (.call 83 [(T 24), (I 1)]),
         D 26 (.mv (T 5)),
         D 27 (.call 89 [(T 25), (T 26)]),
         D 28 (.bin .gtr (T 27) (I 0)),
         D 29 (.mv (T 28)),
         ⟨(some 30), some (29, false), .mv (T 5)⟩,
         ⟨(some 31), some (29, false), .fa 1 (T 8)⟩,
         ⟨(some 32), some (29, false), .ld1 (T 31)⟩,
         ⟨(some 33), some (29, false), .fa 2 (T 8)⟩,
         ⟨(some 34), some (29, false), .ld1 (T 33)⟩,
         ⟨(some 35), some (29, false), .bin .add (T 32) (T 34)⟩,
         ⟨(some 36), some (29, false), .call 83 [(T 35), (I 1)]⟩,
         ⟨(some 37), some (29, false), .call 89 [(T 30), (T 36)]⟩,
         ⟨(some 38), some (29, false), .bin .geq (T 37) (I 0)⟩,
         D 39 (.pick (T 29) (.const (.bool true)) (T 38))]) (
       .cond (T 39) (
        .exit 1) (
        .skip))) (
      .trim [2, 5, 6, 7, 16, 17, 18, 52] (
       .draw [⟨0, 0, 0, D 40 (.mv (T 6))⟩,
        ⟨1, 0, 1, D 41 (.bin .lss (T 40) (I 0))⟩,
        ⟨2, 0, 3, D 42 (.mv (T 41))⟩,
        ⟨3, 0, 7, ⟨(some 43), some (42, false), .fa 1 (T 8)⟩⟩,
        ⟨4, 1, 15, ⟨(some 44), some (42, false), .ld1 (T 43)⟩⟩,
        ⟨5, 0, 7, ⟨(some 45), some (42, false), .fa 10 (T 2)⟩⟩,
        ⟨6, 1, 39, ⟨(some 46), some (42, false), .ld1 (T 45)⟩⟩,
        ⟨7, 0, 7, ⟨(some 47), some (42, false), .mv (T 6)⟩⟩,
        ⟨8, 0, 231, ⟨(some 48), some (42, false), .ia 6 (T 46) (T 47)⟩⟩,
        ⟨9, 0, 487, ⟨(some 49), some (42, false), .fa 1 (T 48)⟩⟩,
        ⟨10, 1, 999, ⟨(some 50), some (42, false), .ld1 (T 49)⟩⟩,
        ⟨11, 0, 2047, ⟨(some 51), some (42, false), .bin .geq (T 44) (T 50)⟩⟩,
        ⟨12, 0, 4095, D 52 (.pick (T 42) (.const (.bool true)) (T 51))⟩]) (
      .cond (T 52) (
       .ops [D 53 (.mv (T 7)),
        D 6 (.mv (T 53))]) (
       .skip)))))) (
    .ops [D 54 (.bin .add (T 18) (I 1)),
     D 18 (.mv (T 54))]))))))) (
 .seq (
  .ops [D 55 (.mv (T 6)),
   D 4 (.mv (T 55))]) (
 .ret)))))⟩
theorem model_shownAt_ok : Ok Try.prog 82 model_shownAt := ⟨by kernel_rfl, by kernel_rfl⟩

/-- diorama/model.rat -/
def model_rat : AF := ⟨8, [.tmp 4],
 .seq (
  .ops [D 4 (.mv (.const (.pointer none)))]) (
 .seq (
  .ops [D 5 (.mv (T 0)),
   D 6 (.mv (T 1)),
   D 7 (.call 68 [(T 5), (T 6)]),
   D 4 (.mv (T 7))]) (
 .ret))⟩
theorem model_rat_ok : Ok Try.prog 83 model_rat := ⟨by kernel_rfl, by kernel_rfl⟩

/-- slices.IndexFunc[[]diorama/api.Track,diorama/api.Track] -/
def slices_IndexFunc___api_Track_api_Track_ : AF := ⟨19, [.tmp 4],
 .seq (
  .ops [D 4 (.mv (I 0))]) (
 .trim [] (
  .seq (
   .ops [D 6 (.mv (T 0)),
    D 7 (.len (T 6)),
    D 8 (.mv (I 0))]) (
  .block 0 (
   .loop [0, 1, 7, 8] (
    .seq (
     .ops [D 9 (.bin .lss (T 8) (T 7))]) (
    .seq (
     .cond (T 9) (
      .skip) (
      .exit 0)) (
    .trim [0, 1, 7, 8] (
     .block 1 (
      .seq (
       .ops [D 10 (.mv (T 8)),
        D 5 (.mv (T 10))]) (
      .trim [0, 1, 5, 7, 8, 16] (
       .ops [D 11 (.mv (T 1)),
        D 12 (.mv (T 0)),
        D 13 (.mv (T 5)),
        D 14 (.ia 11 (T 12) (T 13)),
        D 15 (.ldN 11 (T 14)),
        D 16 (.callv (T 11) [(T 15)])]) (
      .cond (T 16) (
       .seq (
        .ops [D 17 (.mv (T 5)),
         D 4 (.mv (T 17))]) (
       .ret)) (
       .skip))))) (
    .ops [D 18 (.bin .add (T 8) (I 1)),
     D 8 (.mv (T 18))]))))))) (
 .seq (
  .ops [D 4 (.mv (I (-1)))]) (
 .ret)))⟩
theorem slices_IndexFunc___api_Track_api_Track__ok : Ok Try.prog 84 slices_IndexFunc___api_Track_api_Track_ := ⟨by kernel_rfl, by kernel_rfl⟩

/-- diorama/model.Find$1 -/
def model_Find_1 : AF := ⟨8, [.tmp 3],
 .seq (
  .ops [D 2 (.box (T 0)),
   D 3 (.mv (.const (.bool false)))]) (
 .seq (
  .ops [D 4 (.fa 0 (T 2)),
   D 5 (.ld1 (T 4)),
   D 6 (.ld1 (T 1)),
   D 7 (.bin .eql (T 5) (T 6)),
   D 3 (.mv (T 7))]) (
 .ret))⟩
theorem model_Find_1_ok : Ok Try.prog 85 model_Find_1 := ⟨by kernel_rfl, by kernel_rfl⟩

/-- slices.ContainsFunc[[]diorama/api.Sample,diorama/api.Sample] -/
def slices_ContainsFunc___api_Sample_api_Sample_ : AF := ⟨9, [.tmp 4],
 .seq (
  .ops [D 4 (.mv (.const (.bool false)))]) (
 .seq (
  .ops [D 5 (.mv (T 0)),
   D 6 (.mv (T 1)),
   D 7 (.call 113 [(T 5), (T 6)]),
   D 8 (.bin .geq (T 7) (I 0)),
   D 4 (.mv (T 8))]) (
 .ret))⟩
theorem slices_ContainsFunc___api_Sample_api_Sample__ok : Ok Try.prog 86 slices_ContainsFunc___api_Sample_api_Sample_ := ⟨by kernel_rfl, by kernel_rfl⟩

/-- diorama/code.Numbers$1 -/
def code_Numbers_1 : AF := ⟨7, [.tmp 2],
 .seq (
  .ops [D 1 (.box (T 0)),
   D 2 (.mv (.const (.bool false)))]) (
 .seq (
  .ops [D 3 (.fa 5 (T 1)),
   D 4 (.ld1 (T 3)),
   D 5 (.len (T 4)),
   D 6 (.bin .neq (T 5) (I 4)),
   D 2 (.mv (T 6))]) (
 .ret))⟩
theorem code_Numbers_1_ok : Ok Try.prog 87 code_Numbers_1 := ⟨by kernel_rfl, by kernel_rfl⟩

/-- (*diorama/num.Rat).Sign -/
def num_Rat__Sign : AF := ⟨7, [.tmp 2],
 .seq (
  .ops [D 2 (.mv (I 0))]) (
 .seq (
  .ops [D 3 (.mv (T 0)),
   D 4 (.nil (T 3)),
   D 5 (.fa 0 (T 4)),
   D 6 (.call 114 [(T 5)]),
   D 2 (.mv (T 6))]) (
 .ret))⟩
theorem num_Rat__Sign_ok : Ok Try.prog 88 num_Rat__Sign := ⟨by kernel_rfl, by kernel_rfl⟩

/-- (*diorama/num.Rat).Cmp -/
def num_Rat__Cmp : AF := ⟨18, [.tmp 4],
 .seq (
  .ops [D 4 (.mv (I 0))]) (
 .trim [4] (
  .draw [⟨0, 0, 0, D 5 (.mv (T 0))⟩,
   ⟨1, 0, 1, D 6 (.nil (T 5))⟩,
   ⟨2, 0, 3, D 7 (.fa 0 (T 6))⟩,
   ⟨3, 0, 0, D 8 (.mv (T 1))⟩,
   ⟨6, 0, 0, D 11 (.mv (T 1))⟩,
   ⟨7, 0, 64, D 12 (.nil (T 11))⟩,
   ⟨8, 0, 192, D 13 (.fa 0 (T 12))⟩,
   ⟨9, 0, 0, D 14 (.mv (T 0))⟩,
   ⟨4, 4, 8, D 9 (.call 93 [(T 8)])⟩,
   ⟨5, 4, 31, D 10 (.call 95 [(T 7), (T 9)])⟩,
   ⟨10, 4, 575, D 15 (.call 93 [(T 14)])⟩,
   ⟨11, 4, 2047, D 16 (.call 95 [(T 13), (T 15)])⟩,
   ⟨12, 4, 4095, D 17 (.call 60 [(T 10), (T 16)])⟩,
   ⟨13, 0, 8191, D 4 (.mv (T 17))⟩]) (
 .ret))⟩
theorem num_Rat__Cmp_ok : Ok Try.prog 89 num_Rat__Cmp := ⟨by kernel_rfl, by kernel_rfl⟩

/-- (*diorama/num.Int).SetInt64 -/
def num_Int__SetInt64 : AF := ⟨18, [.tmp 4],
 .seq (
  .ops [D 4 (.mv (.const (.pointer none)))]) (
 .trim [0, 1] (
  .seq (
   .ops [D 5 (.mv (T 1)),
    D 6 (.bin .lss (T 5) (I 0))]) (
  .cond (T 6) (
   .trim [4] (
    .ops [D 7 (.mv (T 0)),
     D 8 (.mv (T 1)),
     D 9 (.cvi .u64 (T 8)),
     D 10 (.un .neg (T 9)),
     D 11 (.call 116 [(T 10)]),
     D 12 (.call 115 [(T 7), (.const (.bool true)), (T 11)]),
     D 4 (.mv (T 12))]) (
   .ret)) (
   .skip))) (
 .trim [4] (
  .ops [D 13 (.mv (T 0)),
   D 14 (.mv (T 1)),
   D 15 (.cvi .u64 (T 14)),
   D 16 (.call 116 [(T 15)]),
   D 17 (.call 115 [(T 13), (.const (.bool false)), (T 16)]),
   D 4 (.mv (T 17))]) (
 .ret)))⟩
theorem num_Int__SetInt64_ok : Ok Try.prog 90 num_Int__SetInt64 := ⟨by kernel_rfl, by kernel_rfl⟩

end Go.Proofs.Ytbfbgkhlngkifaa.Af
