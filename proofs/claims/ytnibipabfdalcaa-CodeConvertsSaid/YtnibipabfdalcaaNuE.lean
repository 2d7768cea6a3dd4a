/- Limbs divided by one limb. Plain theorems over the abstract machine.
   Conditions: none. -/
import Derived.Test.YtnibipabfdalcaaNuD
namespace Go.Proofs.Ytnibipabfdalcaa.Nu
open Go Go.RowKit Go.Proofs.Ytnibipabfdalcaa.Am Go.Proofs.Ytnibipabfdalcaa.Af Go.Proofs.Ytnibipabfdalcaa.Md
set_option linter.unusedVariables false
set_option linter.unusedSimpArgs false
set_option linter.defProp false
set_option maxRecDepth 20000
set_option maxHeartbeats 1000000

theorem dg_0 : dg 0 = [] := dig_0
theorem dg_1 {y : Nat} (h0 : 0 < y) (h1 : y < 4294967296) : dg y = [y] := by
  show dig B32 b32 y = [y]
  rw [dig_pos (by omega), show y / B32 = 0 from Nat.div_eq_of_lt h1, show dig B32 b32 0 = [] from dig_0, show y % B32 = y from Nat.mod_eq_of_lt h1]
theorem lmv0 {h : Hp} : LmV h (.slice none 0 0) 0 := ⟨none, 0, by rw [dg_0]; rfl, by rw [dg_0]; exact ⟨Rd.mk0, Nat.le_refl _, fun d hd => by cases hd⟩⟩
theorem LmV.keep {h h' : Hp} {v : Value} {x : Nat} (w : Wf h) (l : LmV h v x) (fm : Fm No h h') : LmV h' v x := by
  obtain ⟨oa, c, e, l⟩ := l
  exact ⟨oa, c, e, l.rd.keepW w fm nNo, l.le, l.dl⟩
theorem ntdiv (a b : Nat) : (a : Int).tdiv (b : Int) = ((a / b : Nat) : Int) := by rw [Int.tdiv_eq_ediv_of_nonneg (by omega)]; rfl
theorem ntmod (a b : Nat) : (a : Int).tmod (b : Int) = ((a % b : Nat) : Int) := by rw [Int.tmod_eq_emod_of_nonneg (by omega)]; rfl
theorem div_step {r a y : Nat} (hr : r < y) (ha : a < 4294967296) (hy : y < 4294967296) : (r * 4294967296 + a) / y < 4294967296 ∧ r * 4294967296 + a < 18446744073709551616 := by
  refine ⟨Nat.div_lt_of_lt_mul ?_, by omega⟩
  have : y * 4294967296 = 4294967296 * y := Nat.mul_comm _ _
  omega
theorem c_div {h : Hp} {a b : Option Addr} {c d x y : Nat} (la : Lm h a (dg x).length c (dg x)) (lb : Lm h b (dg y).length d (dg y)) (hx : (dg x).length ≤ 400000) (hy0 : 0 < y) (hy : y < 4294967296) :
    ACalls Try.prog 95 [.slice a (dg x).length c, .slice b (dg y).length d] h fun r h' => ∃ u v, r = .tuple #[u, v] ∧ LmV h' u (x / y) ∧ LmV h' v (x % y) ∧ Fm No h h' := by
  refine num_divMag_ok.snd hm rfl fun w => ?_
  rw [WF_eq, num_divMag]
  have hy1 := dg_1 hy0 hy
  have hyl : (dg y).length = 1 := by rw [hy1]; rfl
  simp +contextual (disch := omega) only [↓AM, ↓AV, AP, CQ, i64]
  refine (c_cmp la lb (by omega) (by omega)).use ?_
  rintro _ hA w1 ⟨⟨q, rfl, q1, q2, q3, q4⟩, rfl⟩
  by_cases hlt : x < y
  · have hq : q < 0 := q1.2 hlt
    simp +contextual (disch := omega) only [↓AM, ↓AV, AP, CQ, i64, hq]
    refine (c_clone la (by omega)).use ?_
    rintro _ h2 w2 ⟨l, fm⟩
    simp +contextual (disch := omega) only [↓AM, ↓AV, AP, CQ, i64]
    rw [Nat.div_eq_of_lt hlt, Nat.mod_eq_of_lt hlt]
    exact ⟨_, _, rfl, lmv0, l, fm⟩
  have hq : ¬ q < 0 := fun h => hlt (q1.1 h)
  obtain ⟨b2, o2, s2, y', rfl, f2, hy', r2⟩ := lb.rd.nat (i := 0) (by omega)
  have : y' = y := by rw [hy1] at hy'; simpa using hy'.symm
  subst this
  have e1 : EqI ((1 : Nat) : Int) 1 = True := eqI_self
  rw [hyl]
  have hval : vL B32 (dg x) = x := dg_val x
  generalize hX : dg x = X at *
  simp +contextual (disch := omega) only [↓AM, ↓AV, AP, CQ, i64, hq, e1, rep_u3]
  refine ⟨by omega, ?_⟩
  refine WL.mk (fun k t h' => ∃ O : List Nat, h' = hA.new ⟨u3 O, .own⟩ ∧ O.length = X.length ∧ Dl B32 O ∧ k ≤ X.length ∧ ∃ r : Nat, r < y' ∧ vL B32 (X.drop k) = vL B32 (O.drop k) * y' + r ∧
      t = [(0, some (.slice a X.length c)), (1, some (.slice (some ⟨b2, o2, s2⟩) 1 d)), (4, some (.slice (some ⟨hA.size, 0, none⟩) X.length X.length)), (6, some (.int .u64 (r : Int))), (7, some (.int .i64 ((k : Int) - 1)))])
    ⟨X.length, _, rfl, by simp, Dl.zeros _, Nat.le_refl _, 0, hy0, by rw [List.drop_eq_nil_of_le (Nat.le_refl _), List.drop_eq_nil_of_le (by simp)]; simp [vL], rfl⟩ ?_
  rintro k t _ ⟨O, rfl, hOl, hOd, hk, r, hr, hv, rfl⟩
  cases k with
  | zero =>
    have e2 : ((0 : Int) ≤ ((0 : Nat) : Int) - 1) = False := by simp
    simp +contextual (disch := omega) only [↓AM, ↓AV, AP, CQ, i64, e2]
    have hv : x = vL B32 O * y' + r := by rw [← hval]; exact hv
    have v1 : vL B32 O = x / y' := by rw [hv, Nat.mul_comm, Nat.mul_add_div hy0, Nat.div_eq_of_lt hr]; rfl
    have v2 : r = x % y' := by rw [hv, Nat.mul_comm, Nat.mul_add_mod, Nat.mod_eq_of_lt hr]
    have lm := lm_new (h := hA) hOd
    rw [hOl] at lm
    refine (c_trim lm (by omega)).use ?_
    rintro _ hB w2 ⟨l, rfl⟩
    rw [v1] at l
    simp +contextual (disch := omega) only [↓AM, ↓AV, AP, CQ, i64]
    refine (c_magOf (v := r) (by omega)).use ?_
    rintro _ h3 w3 ⟨l3, fm3⟩
    rw [v2] at l3
    simp +contextual (disch := omega) only [↓AM, ↓AV, AP, CQ, i64]
    exact ⟨_, _, rfl, l.keep w2 fm3, l3, (Fm.new Fm.refl).trans fm3 fun _ _ f => f⟩
  | succ k =>
    have fmO : Fm No hA (hA.new ⟨u3 O, .own⟩) := Fm.new Fm.refl
    obtain ⟨b1, o1, s1, p, rfl, f1, hp, r1⟩ := (la.rd.keepW w1 fmO nNo).nat (i := k) (by omega)
    have hpl : p < 4294967296 := la.dl.at hp
    obtain ⟨d1, d2⟩ := div_step hr hpl hy
    have r2n : ∀ o, (hA.new o).rd b2 o2 = some (.int .u32 (y' : Int)) := fun o => by
      obtain ⟨b2', o2', s2', z, e, f2', hz, rz⟩ := (lb.rd.keepW w1 (Fm.new (o := o) (Fm.refl (F := No))) nNo).nat (i := 0) (by omega)
      cases e
      rw [hy1] at hz
      cases hz
      exact rz
    have hk1 : k < X.length := by omega
    have hkO : k < O.length := by omega
    have rlt : r < 4294967296 := by omega
    have eor := or_32 rlt hpl
    have y0 : EqI (y' : Int) 0 = False := eq_false (by unfold EqI; omega)
    have y1 : ((y' : Int) = 0) = False := eq_false (by omega)
    have eq1 : IntKind.u64.wrap (((r * 4294967296 + p) / y' : Nat) : Int) = (((r * 4294967296 + p) / y' : Nat) : Int) := by
      generalize (r * 4294967296 + p) / y' = Q at *
      exact u64 (by omega)
    have p01 : ((0 : Int) < ((1 : Nat) : Int)) = True := by simp
    have ul : leIs (k + 1) (u3 O) = true := by rw [← leIs_p, u3_len]; omega
    have us : spl (u3 O) k [.int .u32 (((r * 4294967296 + p) / y' % 4294967296 : Nat) : Int)] = u3 (O.set k ((r * 4294967296 + p) / y' % 4294967296)) := spl_u3 hkO
    simp +contextual (disch := omega) only [↓AM, ↓AV, AP, CQ, CN, i64, u64, f1, f2, r1, r2n, hk1, eor, ntdiv, ntmod, y0, y1, ul, us, eq1, p01]
    refine ⟨k, by omega, _, rfl, by simp [hOl], hOd.set (Nat.mod_lt _ (by decide)), by omega, (r * 4294967296 + p) % y', Nat.mod_lt _ hy0, ?_, rfl⟩
    have e1 : vL B32 (X.drop k) = p + B32 * vL B32 (X.drop (k + 1)) := by
      rw [List.drop_eq_getElem_cons hk1]
      rw [List.getElem?_eq_getElem hk1] at hp
      rw [Option.some.inj hp]; rfl
    have e2 : vL B32 ((O.set k ((r * 4294967296 + p) / y' % 4294967296)).drop k) = (r * 4294967296 + p) / y' + B32 * vL B32 (O.drop (k + 1)) := by
      rw [List.drop_eq_getElem_cons (by simpa using hkO), List.getElem_set_self, Nat.mod_eq_of_lt d1]
      show _ + B32 * vL B32 ((O.set k _).drop (k + 1)) = _
      rw [List.drop_set_of_lt (by omega)]
    rw [e1, e2, hv, Nat.mul_add, Nat.add_mul]
    have e3 := Nat.mod_add_div (r * 4294967296 + p) y'
    rw [Nat.mul_comm y'] at e3
    have e4 : B32 * (vL B32 (O.drop (k + 1)) * y') = B32 * vL B32 (O.drop (k + 1)) * y' := (Nat.mul_assoc _ _ _).symm
    rw [e4]
    show p + (_ + 4294967296 * r) = _
    omega
end Go.Proofs.Ytnibipabfdalcaa.Nu
