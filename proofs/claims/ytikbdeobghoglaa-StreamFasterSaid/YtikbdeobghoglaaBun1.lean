/- Numbers as lists of digits, the lowest first. Plain theorems.
   Conditions: none. -/
namespace Go.Proofs.Ytikbdeobghoglaa.Nu
set_option linter.unusedVariables false
set_option linter.unusedSimpArgs false

/-- The number of digits. -/
def vL (B : Nat) : List Nat → Nat
  | [] => 0
  | d :: r => d + B * vL B r
def Dl (B : Nat) (l : List Nat) : Prop := ∀ d ∈ l, d < B
theorem vL_app (B : Nat) : ∀ a b : List Nat, vL B (a ++ b) = vL B a + B ^ a.length * vL B b
  | [], b => by simp [vL]
  | d :: a, b => by
    simp only [List.cons_append, vL, vL_app B a b, List.length_cons, Nat.pow_succ, Nat.mul_add]
    rw [Nat.mul_comm (B ^ a.length) B, Nat.mul_assoc, Nat.add_assoc]
theorem vL_snoc (B : Nat) (a : List Nat) (d : Nat) : vL B (a ++ [d]) = vL B a + B ^ a.length * d := by rw [vL_app]; simp [vL]
theorem vL_lt {B : Nat} : ∀ {l : List Nat}, Dl B l → vL B l < B ^ l.length
  | [], _ => by simp [vL]
  | d :: l, h => by
    have h1 := vL_lt (l := l) fun x hx => h x (by simp [hx])
    have h2 := h d (by simp)
    simp only [vL, List.length_cons, Nat.pow_succ]
    have : B * (vL B l + 1) ≤ B * B ^ l.length := Nat.mul_le_mul_left B h1
    rw [Nat.mul_add, Nat.mul_one] at this
    rw [Nat.mul_comm (B ^ l.length) B]
    omega
theorem vL_zeros (B : Nat) : ∀ n : Nat, vL B (List.replicate n 0) = 0
  | 0 => rfl
  | n + 1 => by rw [List.replicate_succ, vL, vL_zeros B n]; simp
/-- The digits of a number. -/
def dig (B : Nat) (hB : 1 < B) (v : Nat) : List Nat := if h : v = 0 then [] else v % B :: dig B hB (v / B)
termination_by v
decreasing_by exact Nat.div_lt_self (Nat.pos_of_ne_zero h) hB
theorem dig_0 {B : Nat} {hB : 1 < B} : dig B hB 0 = [] := by rw [dig]; simp
theorem dig_pos {B : Nat} {hB : 1 < B} {v : Nat} (h : v ≠ 0) : dig B hB v = v % B :: dig B hB (v / B) := by rw [dig]; simp [h]
theorem dig_nil {B : Nat} {hB : 1 < B} {v : Nat} : dig B hB v = [] ↔ v = 0 := by
  constructor
  · intro h
    rcases Decidable.em (v = 0) with h0 | h0
    · exact h0
    · rw [dig_pos h0] at h; cases h
  · rintro rfl; exact dig_0
theorem dig_dl {B : Nat} {hB : 1 < B} (v : Nat) : Dl B (dig B hB v) := by
  induction v using Nat.strongRecOn with
  | _ v ih =>
    rcases Decidable.em (v = 0) with h0 | h0
    · rw [h0, dig_0]; intro d hd; cases hd
    · rw [dig_pos h0]
      intro d hd
      rcases List.mem_cons.1 hd with rfl | hd
      · exact Nat.mod_lt _ (by omega)
      · exact ih _ (Nat.div_lt_self (Nat.pos_of_ne_zero h0) hB) d hd
theorem dig_val {B : Nat} {hB : 1 < B} (v : Nat) : vL B (dig B hB v) = v := by
  induction v using Nat.strongRecOn with
  | _ v ih =>
    rcases Decidable.em (v = 0) with h0 | h0
    · rw [h0, dig_0]; rfl
    · rw [dig_pos h0, vL, ih _ (Nat.div_lt_self (Nat.pos_of_ne_zero h0) hB)]
      exact Nat.mod_add_div v B
/-- No zero at the end. -/
def Nz (l : List Nat) : Prop := l.getLast? ≠ some 0
theorem Nz.tail {d : Nat} {l : List Nat} (h : Nz (d :: l)) : Nz l := by
  cases l with
  | nil => simp [Nz]
  | cons e l => simpa [Nz] using h
theorem vL_pos {B : Nat} (hB : 1 < B) : ∀ {l : List Nat}, Nz l → l ≠ [] → vL B l ≠ 0
  | [], _, h => absurd rfl h
  | [d], h, _ => by
    have : d ≠ 0 := fun e => h (by simp [e])
    simp [vL, this]
  | d :: e :: l, h, _ => by
    have := vL_pos hB (l := e :: l) h.tail (by simp)
    rw [vL]
    intro e0
    have := Nat.pos_of_ne_zero this
    have : 0 < B * vL B (e :: l) := Nat.mul_pos (by omega) this
    omega
theorem dig_uniq {B : Nat} (hB : 1 < B) : ∀ {l : List Nat}, Dl B l → Nz l → l = dig B hB (vL B l)
  | [], _, _ => by rw [vL, dig_0]
  | d :: l, h, hz => by
    have hp := vL_pos hB hz (by simp)
    have hd := h d (by simp)
    rw [dig_pos hp, vL]
    have h1 : (d + B * vL B l) % B = d := by rw [Nat.add_mul_mod_self_left, Nat.mod_eq_of_lt hd]
    have h2 : (d + B * vL B l) / B = vL B l := by rw [Nat.add_mul_div_left _ _ (by omega), Nat.div_eq_of_lt hd, Nat.zero_add]
    rw [h1, h2, ← dig_uniq hB (l := l) (fun x hx => h x (by simp [hx])) hz.tail]
theorem dig_nz {B : Nat} {hB : 1 < B} (v : Nat) : Nz (dig B hB v) := by
  induction v using Nat.strongRecOn with
  | _ v ih =>
    rcases Decidable.em (v = 0) with h0 | h0
    · rw [h0, dig_0]; simp [Nz]
    · rw [dig_pos h0]
      have := ih _ (Nat.div_lt_self (Nat.pos_of_ne_zero h0) hB)
      rcases Decidable.em (v / B = 0) with h1 | h1
      · rw [h1, dig_0]
        have : v % B ≠ 0 := by
          have := Nat.mod_add_div v B
          rw [h1] at this
          omega
        simp [Nz, this]
      · rw [dig_pos h1] at this ⊢
        simpa [Nz] using this
/-- Taking a zero away at the end. -/
theorem vL_init {B : Nat} {l : List Nat} : vL B (l ++ [0]) = vL B l := by rw [vL_snoc]; simp
theorem vL_take {B : Nat} (hB : 1 < B) {l : List Nat} {n : Nat} (h : n ≤ l.length) : vL B l = vL B (l.take n) + B ^ n * vL B (l.drop n) := by
  have := vL_app B (l.take n) (l.drop n)
  rw [List.take_append_drop, List.length_take, Nat.min_eq_left h] at this
  exact this
/-- A longer number is greater. -/
theorem vL_ge {B : Nat} (hB : 1 < B) {l : List Nat} (hz : Nz l) (hl : l ≠ []) : B ^ (l.length - 1) ≤ vL B l := by
  rcases List.eq_nil_or_concat l with rfl | ⟨m, d, rfl⟩
  · exact absurd rfl hl
  · rw [List.concat_eq_append] at *
    have hd : d ≠ 0 := fun e => hz (by simp [e])
    rw [vL_snoc]
    have : B ^ m.length * 1 ≤ B ^ m.length * d := Nat.mul_le_mul_left _ (Nat.pos_of_ne_zero hd)
    simp only [List.length_append, List.length_singleton, Nat.add_sub_cancel]
    omega
theorem len_lt {B : Nat} (hB : 1 < B) {a b : List Nat} (ha : Dl B a) (hb : Nz b) (h : a.length < b.length) : vL B a < vL B b := by
  have h1 := vL_lt ha
  have h2 := vL_ge hB hb (by intro e; subst e; simp at h)
  have h3 : B ^ a.length ≤ B ^ (b.length - 1) := Nat.pow_le_pow_right (by omega) (by omega)
  omega
/-- Compared from the highest digit on. -/
theorem cmp_top {B : Nat} (hB : 1 < B) {a b : List Nat} {i : Nat} (ha : Dl B a) (hb : Dl B b) (hi : i < a.length) (hl : a.length = b.length) (heq : a.drop (i + 1) = b.drop (i + 1)) (hlt : a.getD i 0 < b.getD i 0) : vL B a < vL B b := by
  have e1 : a.drop i = a.getD i 0 :: a.drop (i + 1) := by
    rw [List.drop_eq_getElem_cons hi, List.getD_eq_getElem?_getD, List.getElem?_eq_getElem hi]; rfl
  have e2 : b.drop i = b.getD i 0 :: b.drop (i + 1) := by
    rw [List.drop_eq_getElem_cons (by omega), List.getD_eq_getElem?_getD, List.getElem?_eq_getElem (by omega)]; rfl
  rw [vL_take hB (l := a) (n := i) (by omega), vL_take hB (l := b) (n := i) (by omega), e1, e2, vL, vL, heq]
  have h1 : vL B (a.take i) < B ^ i := by
    have := vL_lt (B := B) (l := a.take i) fun d hd => ha d (List.mem_of_mem_take hd)
    simpa [Nat.min_eq_left (show i ≤ a.length by omega)] using this
  have h2 : B ^ i * (a.getD i 0 + B * vL B (b.drop (i + 1)) + 1) ≤ B ^ i * (b.getD i 0 + B * vL B (b.drop (i + 1))) := Nat.mul_le_mul_left _ (by omega)
  rw [Nat.mul_add, Nat.mul_one] at h2
  omega

/-! ### long division: one digit -/
/-- The estimate of a digit from the two highest digits of the divisor and the three of the number: at most one too great. -/
theorem est_le {U V U3 V2 W q : Nat} (hV : V < (V2 + 1) * W) (hU : U3 * W ≤ U) (hq : q * V2 ≤ U3) (hqW : q * W ≤ V) (hq1 : 1 ≤ q) : (q - 1) * V ≤ U := by
  have h1 : q * V ≤ q * ((V2 + 1) * W) := Nat.mul_le_mul_left q (Nat.le_of_lt hV)
  have h2 : q * ((V2 + 1) * W) = q * V2 * W + q * W := by rw [← Nat.mul_assoc, Nat.mul_add, Nat.mul_one, Nat.add_mul]
  have h3 : q * V2 * W ≤ U3 * W := Nat.mul_le_mul_right W hq
  have h4 : q * V = (q - 1) * V + V := by
    obtain ⟨k, rfl⟩ : ∃ k, q = k + 1 := ⟨q - 1, by omega⟩
    rw [Nat.add_sub_cancel, Nat.add_mul, Nat.one_mul]
  omega
/-- It is never too small. -/
theorem est_ge {U V U3 V2 W q Q : Nat} (hV : V2 * W ≤ V) (hU : U < (U3 + 1) * W) (hQ : Q * V ≤ U) (hq : U3 < q * V2) : Q < q := by
  rcases Nat.lt_or_ge Q q with h | h
  · exact h
  · exfalso
    have h1 : q * V2 ≤ Q * V2 := Nat.mul_le_mul_right V2 h
    have h2 : Q * V2 * W ≤ Q * V := by rw [Nat.mul_assoc]; exact Nat.mul_le_mul_left Q hV
    have h3 : (U3 + 1) * W ≤ Q * V2 * W := Nat.mul_le_mul_right W (by omega)
    omega
end Go.Proofs.Ytikbdeobghoglaa.Nu
