/- Limbs compared, multiplied and divided by one limb. Plain theorems over the abstract machine.
   Conditions: none. -/
import Derived.Test.YtnibipabfdalcaaNuB
namespace Go.Proofs.Ytnibipabfdalcaa.Nu
open Go Go.RowKit Go.Proofs.Ytnibipabfdalcaa.Am Go.Proofs.Ytnibipabfdalcaa.Af Go.Proofs.Ytnibipabfdalcaa.Md
set_option linter.unusedVariables false
set_option linter.unusedSimpArgs false
set_option linter.defProp false
set_option maxRecDepth 20000
set_option maxHeartbeats 1000000

theorem nmul (a b : Nat) : (a : Int) * (b : Int) = ((a * b : Nat) : Int) := rfl
theorem nmod32 (a : Nat) : (a : Int) % 4294967296 = ((a % 4294967296 : Nat) : Int) := rfl
theorem ndiv32 (a : Nat) : (a : Int) / 4294967296 = ((a / 4294967296 : Nat) : Int) := rfl
theorem shr_32 {n : Nat} : (n : Int).fdiv (2 ^ min 32 IntKind.u64.bits) = ((n / 4294967296 : Nat) : Int) := by
  show (n : Int).fdiv 4294967296 = _
  rw [Int.fdiv_eq_ediv_of_nonneg _ (by omega)]; rfl
theorem u32_mod {n : Nat} : IntKind.u32.wrap (n : Int) = ((n % 4294967296 : Nat) : Int) := by rw [IntKind.wrap_u32]; rfl
theorem shl_32 {n : Nat} : (n : Int) * 2 ^ min 32 IntKind.u64.bits = ((n * 4294967296 : Nat) : Int) := rfl
theorem or_32 {r d : Nat} (hr : r < 4294967296) (hd : d < 4294967296) : (BitVec.ofInt IntKind.u64.bits ((r * 4294967296 : Nat) : Int) ||| BitVec.ofInt IntKind.u64.bits (d : Int)).toNat = r * 4294967296 + d := by
  show (BitVec.ofInt 64 ((r * 4294967296 : Nat) : Int) ||| BitVec.ofInt 64 (d : Int)).toNat = r * 4294967296 + d
  rw [BitVec.toNat_or, BitVec.toNat_ofInt, BitVec.toNat_ofInt]
  have e1 : ((((r * 4294967296 : Nat) : Int)) % ((2 ^ 64 : Nat) : Int)).toNat = r <<< 32 := by
    rw [Nat.shiftLeft_eq]; omega
  have e2 : (((d : Nat) : Int) % ((2 ^ 64 : Nat) : Int)).toNat = d := by omega
  rw [e1, e2, ← Nat.shiftLeft_add_eq_or_of_lt (by omega), Nat.shiftLeft_eq]
def CN := And.intro @nmul <| And.intro @shr_32 <| And.intro @u32_mod @shl_32
theorem rep_u3 (n : Nat) : rep n [.int .u32 0] = u3 (List.replicate n 0) := by
  unfold rep u3
  induction n with
  | zero => rfl
  | succ n ih => rw [List.replicate_succ, List.flatten_cons, ih]; rfl
theorem spl_u3 {O : List Nat} {j d : Nat} (hj : j < O.length) : spl (u3 O) j [.int .u32 (d : Int)] = u3 (O.set j d) := by
  rw [spl_one _ _ _ (by rw [u3_len]; omega)]
  simp [u3, List.map_set]
theorem u3_at {O : List Nat} {j d : Nat} (h : O[j]? = some d) : (u3 O)[j]? = some (.int .u32 (d : Int)) := by simp [u3, h]
theorem vL_set {B : Nat} : ∀ {O : List Nat} {j d e : Nat}, O[j]? = some e → vL B (O.set j d) + B ^ j * e = vL B O + B ^ j * d
  | [], j, d, e, h => by simp at h
  | x :: O, 0, d, e, h => by
    have : x = e := by simpa using h
    subst this
    simp [vL]; omega
  | x :: O, j + 1, d, e, h => by
    have := vL_set (B := B) (O := O) (j := j) (d := d) (e := e) (by simpa using h)
    simp only [List.set_cons_succ, vL, Nat.pow_succ]
    have h2 : B * (vL B (O.set j d) + B ^ j * e) = B * (vL B O + B ^ j * d) := by rw [this]
    rw [Nat.mul_add, Nat.mul_add, ← Nat.mul_assoc, ← Nat.mul_assoc, Nat.mul_comm B (B ^ j)] at h2
    omega
theorem Dl.set {B : Nat} {O : List Nat} {j d : Nat} (h : Dl B O) (hd : d < B) : Dl B (O.set j d) := fun x hx => by
  rcases List.mem_or_eq_of_mem_set hx with h1 | rfl
  · exact h x h1
  · exact hd
theorem Dl.zeros (n : Nat) : Dl B32 (List.replicate n 0) := fun d hd => by
  rw [(List.mem_replicate.1 hd).2]; decide
theorem lm_new {h : Hp} {O : List Nat} (hd : Dl B32 O) : Lm (h.new ⟨u3 O, .own⟩) (some ⟨h.size, 0, none⟩) O.length O.length O :=
  ⟨Rd.of rfl (by rw [Nat.mul_one]; have := rdN_mk (gnew (h := h) (o := ⟨u3 O, .own⟩)) (off := 0) (m := O.length) (by simp [u3_len]); rw [this]; simp [List.take_of_length_le (Nat.le_of_eq (u3_len O))]), Nat.le_refl _, hd⟩
theorem c_magOf {h : Hp} {v : Nat} (hv : v < 18446744073709551616) : ACalls Try.prog 123 [.int .u64 (v : Int)] h fun r h' => LmV h' r v ∧ Fm No h h' := by
  refine num_magOf_ok.snd hm rfl fun w => ?_
  rw [WF_eq, num_magOf]
  simp +contextual (disch := omega) only [↓AM, ↓AV, AP, CQ, CN]
  have lm := lm_new (h := h) (O := [v % 4294967296, v / 4294967296 % 4294967296]) (fun d hd => by
    simp only [List.mem_cons, List.not_mem_nil, or_false] at hd
    show d < 4294967296
    rcases hd with rfl | rfl <;> omega)
  refine (c_trim lm (by simp)).use ?_
  rintro _ _ w1 ⟨l, rfl⟩
  have e : vL B32 [v % 4294967296, v / 4294967296 % 4294967296] = v := by simp only [vL, B32]; omega
  rw [e] at l
  obtain ⟨oa, c, rfl, l⟩ := l
  simp +contextual (disch := omega) only [↓AM, ↓AV, AP, CQ]
  exact ⟨⟨_, _, rfl, l⟩, Fm.new Fm.refl⟩
theorem c_cmp {h : Hp} {a b : Option Addr} {c d x y : Nat} (la : Lm h a (dg x).length c (dg x)) (lb : Lm h b (dg y).length d (dg y)) (hx : (dg x).length ≤ 1000000) (hy : (dg y).length ≤ 1000000) :
    ACalls Try.prog 120 [.slice a (dg x).length c, .slice b (dg y).length d] h fun v h' => (∃ r : Int, v = .int .i64 r ∧ (r < 0 ↔ x < y) ∧ (r = 0 ↔ x = y) ∧ -1000000 ≤ r ∧ r ≤ 1000000) ∧ h' = h := by
  refine num_cmpMag_ok.snd hm rfl fun w => ?_
  rw [WF_eq, num_cmpMag]
  have ll : (dg x).length < (dg y).length → x < y := fun hlt => by
    have := len_lt b32 (dg_dl x) (dig_nz (hB := b32) y) hlt
    rwa [dg_val, show vL B32 (dig B32 b32 y) = y from dg_val y] at this
  have lr : (dg y).length < (dg x).length → y < x := fun hlt => by
    have := len_lt b32 (dg_dl y) (dig_nz (hB := b32) x) hlt
    rwa [dg_val, show vL B32 (dig B32 b32 x) = x from dg_val x] at this
  by_cases hne : ((dg x).length : Int) = ((dg y).length : Int)
  case neg =>
    have e0 : EqI ((dg x).length : Int) ((dg y).length : Int) = False := eq_false hne
    simp +contextual (disch := omega) only [↓AM, ↓AV, AP, CQ, i64, e0]
    refine ⟨_, rfl, ?_, ?_, by omega, by omega⟩
    · constructor
      · intro hlt; exact ll (by omega)
      · intro hlt
        rcases Nat.lt_or_ge (dg y).length (dg x).length with h | h
        · have := lr h; omega
        · omega
    · constructor
      · intro h; omega
      · intro h; subst h; omega
  have hl : (dg x).length = (dg y).length := by omega
  have e0 : EqI ((dg x).length : Int) ((dg y).length : Int) = True := eq_true hne
  simp +contextual (disch := omega) only [↓AM, ↓AV, AP, CQ, i64, e0]
  refine WL.mk (fun k t h' => h' = h ∧ k ≤ (dg x).length ∧ (dg x).drop k = (dg y).drop k ∧ t = [(0, some (.slice a (dg x).length c)), (1, some (.slice b (dg y).length d)), (5, some (.int .i64 ((k : Int) - 1)))]) ⟨(dg x).length, rfl, Nat.le_refl _, by rw [List.drop_eq_nil_of_le (Nat.le_refl _), List.drop_eq_nil_of_le (by omega)], rfl⟩ ?_
  rintro k t _ ⟨rfl, hk, heq, rfl⟩
  cases k with
  | zero =>
    have e1 : ((0 : Int) ≤ ((0 : Nat) : Int) - 1) = False := by simp
    simp +contextual (disch := omega) only [↓AM, ↓AV, AP, CQ, e1]
    have : x = y := by
      have : dg x = dg y := heq
      rw [← dg_val x, this, dg_val]
    simp [this]
  | succ k =>
    obtain ⟨b1, o1, s1, p, rfl, f1, hp, r1⟩ := la.rd.nat (i := k) (by omega)
    obtain ⟨b2, o2, s2, q, rfl, f2, hq, r2⟩ := lb.rd.nat (i := k) (by omega)
    have hk1 : k < (dg x).length := by omega
    have hk2 : k < (dg y).length := by omega
    have gp : (dg x).getD k 0 = p := by rw [List.getD_eq_getElem?_getD, hp]; rfl
    have gq : (dg y).getD k 0 = q := by rw [List.getD_eq_getElem?_getD, hq]; rfl
    by_cases h1 : p = q
    · subst h1
      simp +contextual (disch := omega) only [↓AM, ↓AV, AP, CQ, i64, f1, f2, r1, r2, hk1, hk2, eqI_self]
      refine ⟨k, by omega, by omega, ?_, rfl⟩
      rw [List.getElem?_eq_getElem hk1] at hp
      rw [List.getElem?_eq_getElem hk2] at hq
      rw [List.drop_eq_getElem_cons hk1, List.drop_eq_getElem_cons hk2, heq, Option.some.inj hp, Option.some.inj hq]
    · have e1 : EqI (p : Int) (q : Int) = False := eq_false (by unfold EqI; omega)
      by_cases h2 : p < q
      · have := cmp_top b32 (dg_dl x) (dg_dl y) hk1 hl heq (by omega)
        rw [dg_val, dg_val] at this
        simp +contextual (disch := omega) only [↓AM, ↓AV, AP, CQ, i64, f1, f2, r1, r2, hk1, hk2, e1, h2]
        exact ⟨_, rfl, by omega, by omega, by omega, by omega⟩
      · have := cmp_top b32 (dg_dl y) (dg_dl x) hk2 hl.symm heq.symm (by omega)
        rw [dg_val, dg_val] at this
        simp +contextual (disch := omega) only [↓AM, ↓AV, AP, CQ, i64, f1, f2, r1, r2, hk1, hk2, e1, h2]
        exact ⟨_, rfl, by omega, by omega, by omega, by omega⟩
end Go.Proofs.Ytnibipabfdalcaa.Nu
