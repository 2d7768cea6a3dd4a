/- Contracts of small functions: rows of elements, bytes and numbers, the cipher's block. Plain theorems over the abstract machine.
   Conditions: none. -/
import Derived.Test.YtloonniiffbopaaAfA
import Derived.Test.YtloonniiffbopaaCrA
import Derived.Test.YtloonniiffbopaaCrB
import Derived.IntWalk
import Derived.Laws.Bits64
namespace Go.Proofs.Ytloonniiffbopaa.Cr
open Go Go.RowKit Go.Proofs.Ytloonniiffbopaa.Am Go.Proofs.Ytloonniiffbopaa.Af
set_option linter.unusedVariables false
set_option linter.unusedSimpArgs false
set_option maxRecDepth 20000

theorem i64 {n : Int} (h : -9223372036854775808 ≤ n ∧ n ≤ 9223372036854775807) : IntKind.i64.wrap n = n := IntWalk.i64_in n h
theorem u64 {n : Int} (h : 0 ≤ n ∧ n ≤ 18446744073709551615) : IntKind.u64.wrap n = n := IntWalk.u64_in n h
theorem u8 {n : Int} (h : 0 ≤ n ∧ n ≤ 255) : IntKind.u8.wrap n = n := IntWalk.u8_in n h
theorem i64s {i : Nat} (h : (i : Int) ≤ 9223372036854775806) : IntKind.i64.wrap ((i : Int) + 1) = ((i + 1 : Nat) : Int) := by rw [i64 (by omega)]; rfl

/-! ### rows -/
theorem flat_len {α : Type} {f : α → List Value} {z : Nat} (hf : ∀ x, (f x).length = z) : ∀ xs : List α, (xs.flatMap f).length = xs.length * z
  | [] => by simp
  | x :: xs => by rw [List.flatMap_cons, List.length_append, hf, flat_len hf xs, List.length_cons, Nat.add_mul]; omega
theorem flat_get {α : Type} {f : α → List Value} {z : Nat} (hf : ∀ x, (f x).length = z) : ∀ {xs : List α} {i : Nat} {x : α}, xs[i]? = some x → ((xs.flatMap f).drop (i * z)).take z = f x
  | [], i, x, h => by simp at h
  | y :: xs, 0, x, h => by
    have : y = x := by simpa using h
    subst this
    rw [List.flatMap_cons, Nat.zero_mul, List.drop_zero, List.take_left' (hf y)]
  | y :: xs, i + 1, x, h => by
    have h' : xs[i]? = some x := by simpa using h
    rw [List.flatMap_cons, Nat.add_mul, Nat.one_mul, Nat.add_comm (i * z) z, List.drop_append, hf, List.drop_eq_nil_of_le (by rw [hf]; omega), List.nil_append, show z + i * z - z = i * z by omega]
    exact flat_get hf h'
theorem flat_take {α : Type} {f : α → List Value} {z : Nat} (hf : ∀ x, (f x).length = z) : ∀ (xs : List α) (i : Nat), (xs.flatMap f).take (i * z) = (xs.take i).flatMap f
  | [], i => by simp
  | x :: xs, 0 => by simp
  | x :: xs, i + 1 => by
    rw [List.flatMap_cons, List.take_succ_cons, List.flatMap_cons, List.take_append, hf, List.take_of_length_le (by rw [hf, Nat.add_mul]; omega), show (i + 1) * z - z = i * z by rw [Nat.add_mul]; omega, flat_take hf xs i]
theorem rdN_sub {h : Hp} {b off m k l : Nat} {cs : List Value} (e : h.rdN b off m = some cs) (hk : k + l ≤ m) : h.rdN b (off + k) l = some ((cs.drop k).take l) := by
  obtain ⟨ob, h1, h2, rfl⟩ := rdN_of e
  rw [rdN_mk h1 (by omega)]
  congr 1
  rw [List.drop_take, List.take_take, List.drop_drop, Nat.min_eq_left (by omega)]
/-- The element at a place. -/
theorem _root_.Go.Proofs.Ytloonniiffbopaa.Am.Rd.elem {α : Type} {f : α → List Value} {z : Nat} {h : Hp} {oa : Option Addr} {n : Nat} {xs : List α} (r : Rd h z oa n (xs.flatMap f)) (hf : ∀ x, (f x).length = z) (hl : xs.length = n) {i : Nat} (hi : i < n) :
    ∃ b off sp x, oa = some ⟨b, off, sp⟩ ∧ flagOk sp = true ∧ xs[i]? = some x ∧ h.rdN b (off + i * z) z = some (f x) ∧ ∀ j v, (f x)[j]? = some v → h.rd b (off + i * z + j) = some v := by
  obtain ⟨b, off, sp, e, h1, h2⟩ := r.pos (by omega)
  have hx : xs[i]? = some xs[i] := List.getElem?_eq_getElem (by omega)
  have h3 := rdN_sub (k := i * z) (l := z) h2 (by rw [← Nat.succ_mul]; exact Nat.mul_le_mul_right z hi)
  rw [flat_get hf hx] at h3
  exact ⟨b, off, sp, _, e, h1, hx, h3, fun j v hv => rdN_get h3 hv⟩
theorem put_self {h : Hp} {b : Nat} {o : Ob} (e : h.get b = some o) : h.put b o = h := by
  cases h with
  | mk s g =>
    simp only [Hp.put, Hp.mk.injEq, true_and]
    funext x
    split
    · rename_i hx; subst hx; exact e.symm
    · rfl

/-! ### numbers of 64 bits -/
theorem u_of (n : Int) : IntKind.u64.wrap n = ((BitVec.ofInt 64 n).toNat : Int) := by
  rw [IntKind.wrap_u64, BitVec.toNat_ofInt]
  omega
theorem u_add (x y : BitVec 64) : IntKind.u64.wrap ((x.toNat : Int) + (y.toNat : Int)) = ((x + y).toNat : Int) := by
  rw [IntKind.wrap_u64, BitVec.toNat_add]; omega
theorem u_mul (x c : BitVec 64) : IntKind.u64.wrap ((x.toNat : Int) * (c.toNat : Int)) = ((x * c).toNat : Int) := by
  rw [IntKind.wrap_u64, BitVec.toNat_mul, ← Int.natCast_mul]; omega
theorem ofInt_nat (x : BitVec 64) : BitVec.ofInt 64 (x.toNat : Int) = x := by
  apply BitVec.eq_of_toNat_eq
  rw [BitVec.toNat_ofInt]
  have := x.isLt
  omega
theorem u_xor (x y : BitVec 64) : IntKind.u64.wrap ((BitVec.ofInt IntKind.u64.bits (x.toNat : Int) ^^^ BitVec.ofInt IntKind.u64.bits (y.toNat : Int)).toNat : Int) = ((x ^^^ y).toNat : Int) := by
  show IntKind.u64.wrap ((BitVec.ofInt 64 (x.toNat : Int) ^^^ BitVec.ofInt 64 (y.toNat : Int)).toNat : Int) = _
  rw [ofInt_nat, ofInt_nat]
  have := (x ^^^ y).isLt
  exact u64 (by omega)
theorem u_shr (x : BitVec 64) (k : Nat) (hk : k ≤ 64) : (x.toNat : Int).fdiv (2 ^ min k IntKind.u64.bits) = ((x >>> k).toNat : Int) := by
  rw [show min k IntKind.u64.bits = k from Nat.min_eq_left hk, Int.fdiv_eq_ediv_of_nonneg _ (by exact Int.le_of_lt (Int.pow_pos (by decide))), BitVec.toNat_ushiftRight, Nat.shiftRight_eq_div_pow]
  simp
theorem val_bd {l : List Int} (h : Bytes l) {n : Nat} (hl : l.length ≤ n) : 0 ≤ val l ∧ val l < 256 ^ n := by
  have := val_lt l.reverse (fun x hx => h x (by simpa using hx))
  rw [List.reverse_reverse, List.length_reverse] at this
  refine ⟨this.1, Int.lt_of_lt_of_le this.2 ?_⟩
  have : (256 : Nat) ^ l.length ≤ 256 ^ n := Nat.pow_le_pow_right (by decide) hl
  exact_mod_cast this
theorem or_low {x y : Int} (hx : 0 ≤ x ∧ x ≤ 72057594037927935) (hy : 0 ≤ y ∧ y ≤ 255) : IntKind.u64.wrap ((BitVec.ofInt IntKind.u64.bits (x * 256) ||| BitVec.ofInt IntKind.u64.bits y).toNat : Int) = x * 256 + y := by
  obtain ⟨m, rfl⟩ : ∃ m : Nat, x = m := ⟨x.toNat, by omega⟩
  obtain ⟨n, rfl⟩ : ∃ n : Nat, y = n := ⟨y.toNat, by omega⟩
  have e : (BitVec.ofInt IntKind.u64.bits ((m : Int) * 256) ||| BitVec.ofInt IntKind.u64.bits (n : Int)).toNat = m * 256 + n := by
    show (BitVec.ofInt 64 ((m : Int) * 256) ||| BitVec.ofInt 64 (n : Int)).toNat = _
    rw [BitVec.toNat_or]
    have h1 : (BitVec.ofInt 64 ((m : Int) * 256)).toNat = m <<< 8 := by
      rw [Nat.shiftLeft_eq, BitVec.toNat_ofInt]; omega
    have h2 : (BitVec.ofInt 64 (n : Int)).toNat = n := by simp [BitVec.toNat_ofInt]; omega
    rw [h1, h2, ← Nat.shiftLeft_add_eq_or_of_lt (by omega), Nat.shiftLeft_eq]
  rw [e, u64 (by omega)]
  omega
/-- The last n bytes of a number. -/
def bytesN : Nat → Int → List Int
  | 0, _ => []
  | n + 1, v => bytesN n (v / 256) ++ [v % 256]
theorem bytesN_len : ∀ (n : Nat) (v : Int), (bytesN n v).length = n
  | 0, _ => rfl
  | n + 1, v => by simp [bytesN, bytesN_len n]
theorem bytesN_ok : ∀ (n : Nat) (v : Int), Bytes (bytesN n v)
  | 0, _ => fun x hx => by cases hx
  | n + 1, v => fun x hx => by
    rcases List.mem_append.1 hx with h | h
    · exact bytesN_ok n _ x h
    · have : x = v % 256 := by simpa using h
      omega
theorem bytesN_val : ∀ (n : Nat) (v : Int), val (bytesN n v) = v % 256 ^ n
  | 0, v => by simp [bytesN, val, Int.emod_one]
  | n + 1, v => by
    rw [bytesN, val_snoc, bytesN_val n, Int.pow_succ]
    symm
    have h1 := Int.emod_add_mul_ediv v 256
    have h2 := Int.emod_add_mul_ediv (v / 256) (256 ^ n)
    have hp : (0 : Int) < 256 ^ n := Int.pow_pos (by decide)
    have h3 := Int.emod_nonneg (v / 256) (Int.ne_of_gt hp)
    have h4 := Int.emod_lt_of_pos (v / 256) hp
    have e : v = (v / 256 % 256 ^ n * 256 + v % 256) + 256 ^ n * 256 * (v / 256 / 256 ^ n) := by
      have : 256 ^ n * 256 * (v / 256 / 256 ^ n) = 256 * (256 ^ n * (v / 256 / 256 ^ n)) := by
        rw [Int.mul_assoc, Int.mul_comm _ (v / 256 / 256 ^ n), ← Int.mul_assoc, ← Int.mul_assoc]
        rw [Int.mul_comm (256 ^ n * _) 256, Int.mul_assoc]
      rw [this]
      omega
    rw [show v % (256 ^ n * 256) = ((v / 256 % 256 ^ n * 256 + v % 256) + 256 ^ n * 256 * (v / 256 / 256 ^ n)) % (256 ^ n * 256) from congrArg (· % (256 ^ n * 256)) e, Int.add_mul_emod_self_left]
    apply Int.emod_eq_of_lt
    · omega
    · omega
theorem bytesN_inj {n : Nat} {v w : Int} (hv : 0 ≤ v ∧ v < 256 ^ n) (hw : 0 ≤ w ∧ w < 256 ^ n) (h : bytesN n v = bytesN n w) : v = w := by
  have := congrArg val h
  rwa [bytesN_val, bytesN_val, Int.emod_eq_of_lt hv.1 hv.2, Int.emod_eq_of_lt hw.1 hw.2] at this

theorem c_EqBytes {h : Hp} {a b : Option Addr} {n m c d : Nat} {xs ys : List Int} (ha : Rd h 1 a n (xs.map (Value.int .u8))) (hb : Rd h 1 b m (ys.map (Value.int .u8))) (hn : n ≤ 140737488351232) :
    ACalls Try.prog 10 [.slice a n c, .slice b m d] h fun v h' => v = .bool (decide (xs = ys)) ∧ h' = h := by
  refine dioramaref00_EqBytes_ok.snd hm rfl fun w => ?_
  rw [WF_eq, dioramaref00_EqBytes]
  simp +contextual only [↓AM, ↓AV, AP]
  have la := ha.ilen
  have lb := hb.ilen
  refine ⟨fun hne => ?_, fun hm => ?_⟩
  · simp [EqI] at hne ⊢
    intro e; subst e; omega
  have hm := eqI_n hm
  subst hm
  refine WL.mk (fun k t h' => h' = h ∧ ∃ i : Nat, i ≤ n ∧ k = n - i ∧ xs.take i = ys.take i ∧ t = [(0, some (.slice a n c)), (1, some (.slice b n d)), (5, some (.int .i64 i))]) ⟨n, rfl, 0, by simp, rfl, rfl, rfl⟩ ?_
  rintro k t _ ⟨rfl, i, hi, rfl, heq, rfl⟩
  by_cases hin : i < n
  · obtain ⟨b1, o1, s1, rfl, f1, u, hu, r1⟩ := ha.int hin
    obtain ⟨b2, o2, s2, rfl, f2, v, hv, r2⟩ := hb.int hin
    simp +contextual only [↓AM, ↓AV, AP, f1, f2, r1, r2, hin]
    refine ⟨fun hne => ?_, fun he => ?_⟩
    · simp
      intro e; subst e; rw [hu] at hv; cases hv; exact hne rfl
    · refine ⟨_, ?_, i + 1, hin, rfl, ?_, ?_⟩
      · omega
      · rw [List.take_add_one, List.take_add_one, heq, hu, hv, show u = v from he]
      · rw [i64 (by omega)]; rfl
  · simp +contextual only [↓AM, ↓AV, AP, hin]
    rw [List.take_of_length_le (by omega), List.take_of_length_le (by omega)] at heq
    simp [heq]
theorem c_CopyInts {h : Hp} {a : Option Addr} {n c : Nat} {xs : List Int} (ha : Rd h 1 a n (xs.map (Value.int .i64))) (hn : 8 * n ≤ 140737488351232) :
    ACalls Try.prog 42 [.slice a n c] h fun v h' => ∃ oa cap, v = .slice oa n cap ∧ Ow h' 1 oa n cap (xs.map (Value.int .i64)) ∧ Nw h oa ∧ Fm No h h' := by
  refine dioramaref00_CopyInts_ok.snd hm rfl fun w => ?_
  rw [WF_eq, dioramaref00_CopyInts]
  have la := ha.ilen
  simp +contextual only [↓AM, ↓AV, AP]
  refine ⟨⟨by omega, by omega⟩, ?_⟩
  refine WL.mk (fun k t h' => Wf h' ∧ Fm No h h' ∧ ∃ i : Nat, i ≤ n ∧ k = n - i ∧ ∃ oa cap, Nw h oa ∧ Ow h' 1 oa i cap ((xs.take i).map (Value.int .i64)) ∧ t = [(0, some (.slice a n c)), (3, some (.slice oa i cap)), (4, some (.int .i64 i))])
    ⟨n, w.new, Fm.new Fm.refl, 0, by omega, rfl, _, _, Nw.new Fm.refl, Ow.new (n := n) (m := 0) (by simp [rep]) (by omega), rfl⟩ ?_
  rintro k t h1 ⟨w1, fm, i, hi, rfl, oa, cap, nw, ow, rfl⟩
  by_cases hin : i < n
  · obtain ⟨b1, o1, s1, rfl, f1, u, hu, r1⟩ := (ha.keep w fm (fun x _ => id)).int hin
    simp +contextual only [↓AM, ↓AV, AP, f1, r1, hin, src_new]
    refine ow.push (m := 1) w1 rfl ?_ fun oa' cap' h' o' w' f' n' => ?_
    · omega
    try simp +contextual only [↓AM, ↓AV, AP]
    obtain ⟨g1, g2⟩ := grown fm nw f' n'
    refine ⟨_, ?_, w', g1, i + 1, hin, rfl, oa', cap', g2, ?_, ?_⟩
    · omega
    · rw [List.take_add_one, hu]; simpa using o'
    · rw [i64 (by omega)]; rfl
  · have : n = i := by omega
    subst this
    simp +contextual only [↓AM, ↓AV, AP, hin]
    rw [List.take_of_length_le (by omega)] at ow
    exact ⟨_, _, rfl, ow, nw, fm⟩
theorem c_CopyBytes {h : Hp} {a : Option Addr} {n c : Nat} {xs : List Int} (ha : Rd h 1 a n (xs.map (Value.int .u8))) (hn : 1 * n ≤ 140737488351232) :
    ACalls Try.prog 24 [.slice a n c] h fun v h' => ∃ oa cap, v = .slice oa n cap ∧ Ow h' 1 oa n cap (xs.map (Value.int .u8)) ∧ Nw h oa ∧ Fm No h h' := by
  refine dioramaref00_CopyBytes_ok.snd hm rfl fun w => ?_
  rw [WF_eq, dioramaref00_CopyBytes]
  have la := ha.ilen
  simp +contextual only [↓AM, ↓AV, AP]
  refine ⟨⟨by omega, by omega⟩, ?_⟩
  refine WL.mk (fun k t h' => Wf h' ∧ Fm No h h' ∧ ∃ i : Nat, i ≤ n ∧ k = n - i ∧ ∃ oa cap, Nw h oa ∧ Ow h' 1 oa i cap ((xs.take i).map (Value.int .u8)) ∧ t = [(0, some (.slice a n c)), (3, some (.slice oa i cap)), (4, some (.int .i64 i))])
    ⟨n, w.new, Fm.new Fm.refl, 0, by omega, rfl, _, _, Nw.new Fm.refl, Ow.new (n := n) (m := 0) (by simp [rep]) (by omega), rfl⟩ ?_
  rintro k t h1 ⟨w1, fm, i, hi, rfl, oa, cap, nw, ow, rfl⟩
  by_cases hin : i < n
  · obtain ⟨b1, o1, s1, rfl, f1, u, hu, r1⟩ := (ha.keep w fm (fun x _ => id)).int hin
    simp +contextual only [↓AM, ↓AV, AP, f1, r1, hin, src_new]
    refine ow.push (m := 1) w1 rfl ?_ fun oa' cap' h' o' w' f' n' => ?_
    · omega
    try simp +contextual only [↓AM, ↓AV, AP]
    obtain ⟨g1, g2⟩ := grown fm nw f' n'
    refine ⟨_, ?_, w', g1, i + 1, hin, rfl, oa', cap', g2, ?_, ?_⟩
    · omega
    · rw [List.take_add_one, hu]; simpa using o'
    · rw [i64 (by omega)]; rfl
  · have : n = i := by omega
    subst this
    simp +contextual only [↓AM, ↓AV, AP, hin]
    rw [List.take_of_length_le (by omega)] at ow
    exact ⟨_, _, rfl, ow, nw, fm⟩
theorem c_within {h : Hp} {n a b : Int} : ACalls Try.prog 27 [.int .i64 n, .int .i64 a, .int .i64 b] h fun v h' => v = .bool (decide (a ≤ n ∧ n ≤ b)) ∧ h' = h := by
  refine crypt_within_ok.snd hm rfl fun w => ?_
  rw [WF_eq, crypt_within]
  simp +contextual only [↓AM, ↓AV, AP]
  exact ⟨fun h => by simp [h], fun h => by simp [h]⟩
theorem c_in {h : Hp} {n a b : Int} : ACalls Try.prog 29 [.int .i64 n, .int .i64 a, .int .i64 b] h fun v h' => v = .bool (decide (a ≤ n ∧ n ≤ b)) ∧ h' = h := by
  refine dioramaref21_in_ok.snd hm rfl fun w => ?_
  rw [WF_eq, dioramaref21_in]
  simp +contextual only [↓AM, ↓AV, AP]
  exact ⟨fun h => by simp [h], fun h => by simp [h]⟩
theorem mul_c1 (x : BitVec 64) : IntKind.u64.wrap ((x.toNat : Int) * 13054099467106833845) = ((x * 0xB5297A4D3F84D5B5#64).toNat : Int) := u_mul x 0xB5297A4D3F84D5B5#64
theorem mul_c2 (x : BitVec 64) : IntKind.u64.wrap ((x.toNat : Int) * 7557917192852333225) = ((x * 0x68E31DA4B1C7E2A9#64).toNat : Int) := u_mul x 0x68E31DA4B1C7E2A9#64
theorem mul_c3 (x : BitVec 64) : IntKind.u64.wrap ((x.toNat : Int) * 11400714819323198485) = ((x * 0x9E3779B97F4A7C15#64).toNat : Int) := u_mul x 0x9E3779B97F4A7C15#64
theorem mul_2 (x : BitVec 64) : IntKind.u64.wrap ((x.toNat : Int) * 2) = ((x * 2#64).toNat : Int) := u_mul x 2#64
theorem add_1 (x : BitVec 64) : IntKind.u64.wrap ((x.toNat : Int) + 1) = ((x + 1#64).toNat : Int) := u_add x 1#64
theorem c_mix {h : Hp} {z : BitVec 64} : ACalls Try.prog 49 [.int .u64 (z.toNat : Int)] h fun v h' => v = .int .u64 ((mixB z).toNat : Int) ∧ h' = h := by
  refine crypt_mix_ok.snd hm rfl fun w => ?_
  rw [WF_eq, crypt_mix]
  simp +contextual only [↓AM, ↓AV, AP, u_shr _ 30 (by decide), u_shr _ 27 (by decide), u_shr _ 31 (by decide), u_xor, mul_c1, mul_c2]
  rfl
theorem c_rmix {h : Hp} {z : BitVec 64} : ACalls Try.prog 51 [.int .u64 (z.toNat : Int)] h fun v h' => v = .int .u64 ((mixB z).toNat : Int) ∧ h' = h := by
  refine dioramaref21_mix_ok.snd hm rfl fun w => ?_
  rw [WF_eq, dioramaref21_mix]
  simp +contextual only [↓AM, ↓AV, AP, u_shr _ 30 (by decide), u_shr _ 27 (by decide), u_shr _ 31 (by decide), u_xor, mul_c1, mul_c2]
  rfl
theorem c_word {h : Hp} {a : Option Addr} {n c : Nat} {xs : List Int} (ha : Rd h 1 a n (xs.map (Value.int .u8))) (hb : Bytes xs) (hn : n ≤ 8) :
    ACalls Try.prog 47 [.slice a n c] h fun v h' => v = .int .u64 (val xs) ∧ h' = h := by
  refine crypt_word_ok.snd hm rfl fun w => ?_
  rw [WF_eq, crypt_word]
  have la := ha.ilen
  simp +contextual only [↓AM, ↓AV, AP]
  refine WL.mk (fun k t h' => h' = h ∧ ∃ i : Nat, i ≤ n ∧ k = n - i ∧ t = [(3, some (.int .u64 (val (xs.take i)))), (6, some (.slice a n c)), (7, some (.int .i64 n)), (8, some (.int .i64 i))]) ⟨n, rfl, 0, by simp, rfl, rfl⟩ ?_
  rintro k t _ ⟨rfl, i, hi, rfl, rfl⟩
  by_cases hin : i < n
  · obtain ⟨b1, o1, s1, rfl, f1, u, hu, r1⟩ := ha.int hin
    have hu1 := hb u (List.mem_of_getElem? hu)
    have hv := val_bd (l := xs.take i) (n := 7) (fun x hx => hb x (List.mem_of_mem_take hx)) (by simp; omega)
    have e1 : IntKind.u64.wrap (val (xs.take i) * 2 ^ min 8 IntKind.u64.bits) = val (xs.take i) * 256 := u64 (by show 0 ≤ _ * 256 ∧ _ * 256 ≤ _; omega)
    have e2 := or_low (x := val (xs.take i)) (y := u) (by omega) hu1
    have e3 : IntKind.u64.wrap u = u := u64 (by omega)
    simp +contextual only [↓AM, ↓AV, AP, f1, r1, hin, e1, e2, e3, i64s (i := i) (by omega)]
    refine ⟨_, by omega, i + 1, hin, rfl, ?_⟩
    rw [List.take_add_one, hu]
    simp [val_snoc]
  · simp +contextual only [↓AM, ↓AV, AP, hin]
    rw [List.take_of_length_le (by omega)]
theorem c_rword {h : Hp} {a : Option Addr} {c : Nat} {xs : List Int} (ha : Rd h 1 a 8 (xs.map (Value.int .u8))) (hb : Bytes xs) :
    ACalls Try.prog 52 [.slice a 8 c] h fun v h' => v = .int .u64 (val xs) ∧ h' = h := by
  refine dioramaref21_word_ok.snd hm rfl fun w => ?_
  rw [WF_eq, dioramaref21_word]
  have la := ha.ilen
  simp +contextual only [↓AM, ↓AV, AP]
  refine WL.mk (fun k t h' => h' = h ∧ ∃ i : Nat, i ≤ 8 ∧ k = 8 - i ∧ t = [(0, some (.slice a 8 c)), (3, some (.int .u64 (val (xs.take i)))), (4, some (.int .i64 i))]) ⟨8, rfl, 0, by simp, rfl, rfl⟩ ?_
  rintro k t _ ⟨rfl, i, hi, rfl, rfl⟩
  by_cases hin : i < 8
  · obtain ⟨b1, o1, s1, rfl, f1, u, hu, r1⟩ := ha.int hin
    have hu1 := hb u (List.mem_of_getElem? hu)
    have hv := val_bd (l := xs.take i) (n := 7) (fun x hx => hb x (List.mem_of_mem_take hx)) (by simp; omega)
    have e1 : IntKind.u64.wrap (val (xs.take i) * 256) = val (xs.take i) * 256 := u64 (by omega)
    have e2 : IntKind.u64.wrap (val (xs.take i) * 256 + u) = val (xs.take i) * 256 + u := u64 (by omega)
    have e3 : IntKind.u64.wrap u = u := u64 (by omega)
    have hin' : (i : Int) < 8 := by omega
    simp +contextual only [↓AM, ↓AV, AP, f1, r1, hin, hin', e1, e2, e3, i64s (i := i) (by omega)]
    refine ⟨_, by omega, i + 1, hin, rfl, ?_⟩
    rw [List.take_add_one, hu]
    simp [val_snoc]
  · have hin' : ¬ (i : Int) < 8 := by omega
    simp +contextual only [↓AM, ↓AV, AP, hin']
    rw [List.take_of_length_le (by omega)]
end Go.Proofs.Ytloonniiffbopaa.Cr
