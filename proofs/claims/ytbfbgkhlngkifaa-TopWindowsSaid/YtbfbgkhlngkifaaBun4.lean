/- The document's sum, and two times compared by it. Plain theorems over the abstract machine.
   Conditions: none. -/
import Derived.Test.YtbfbgkhlngkifaaBun3
import Derived.Test.YtbfbgkhlngkifaaBun2
import Derived.Test.YtbfbgkhlngkifaaAmX
import Derived.Test.YtbfbgkhlngkifaaAmZb
import Derived.DataShut
namespace Go.Proofs.Ytbfbgkhlngkifaa.Nu
open Go Go.RowKit Go.Proofs.Ytbfbgkhlngkifaa.Am Go.Proofs.Ytbfbgkhlngkifaa.Af Go.Proofs.Ytbfbgkhlngkifaa.Md
set_option linter.unusedVariables false
set_option linter.unusedSimpArgs false
set_option linter.defProp false
set_option maxRecDepth 20000
set_option maxHeartbeats 1000000

theorem plus_end {L : List Nat} {x y : Nat} (hd : Dl B9 L) (hv : vL B9 L = x + y) (hb : L ≠ [] → B9 ^ (L.length - 1) ≤ x + y) : L = dc (x + y) := by
  rw [← hv]
  refine dig_uniq b9 hd ?_
  intro hlast
  have hne : L ≠ [] := fun e => by rw [e] at hlast; cases hlast
  have e1 : L = L.dropLast ++ [0] := by
    have := List.dropLast_concat_getLast hne
    rw [List.getLast?_eq_some_getLast hne] at hlast
    rw [Option.some.inj hlast] at this
    exact this.symm
  have h2 : vL B9 L < B9 ^ (L.length - 1) := by
    have h3 := vL_lt (l := L.dropLast) (fun d hd' => hd d (List.dropLast_subset _ hd'))
    rw [List.length_dropLast] at h3
    rw [e1, vL_init]
    simpa using h3
  have := hb hne
  omega
theorem pow_low {X : List Nat} {x i : Nat} (hX : dc x = X) (hi : i < X.length) : B9 ^ i ≤ x := by
  subst hX
  have h1 := vL_ge b9 (dig_nz (hB := b9) x) (by intro e; rw [show dc x = [] from e] at hi; simp at hi)
  rw [show vL B9 (dig B9 b9 x) = x from dc_val x] at h1
  exact Nat.le_trans (Nat.pow_le_pow_right (by decide) (show i ≤ (dig B9 b9 x).length - 1 by have : (dig B9 b9 x).length = (dc x).length := rfl; omega)) h1
theorem c_Plus {h : Hp} {a b : Option Addr} {c d x y : Nat} (la : Dm h a (dc x).length c (dc x)) (lb : Dm h b (dc y).length d (dc y)) (hx : (dc x).length ≤ 400000) (hy : (dc y).length ≤ 400000) :
    ACalls Try.prog 103 [.slice a (dc x).length c, .slice b (dc y).length d] h fun v h' => DmW (fun z => h.size ≤ z) h' v (x + y) ∧ Fm No h h' := by
  refine dioramaref02_Plus_ok.snd hm rfl fun w => ?_
  rw [WF_eq, dioramaref02_Plus]
  simp +contextual (disch := omega) only [↓AM, ↓AV, AP, CQ, i64]
  have xval : vL B9 (dc x) = x := dc_val x
  have yval : vL B9 (dc y) = y := dc_val y
  generalize hX : dc x = X at *
  generalize hY : dc y = Y at *
  refine WL.mk (fun k t h' => Wf h' ∧ Fm No h h' ∧ ∃ L : List Nat, ∃ oa cap cy, L.length ≤ max X.length Y.length + 1 ∧ (L.length = max X.length Y.length + 1 → cy = 0) ∧ k = max X.length Y.length + 1 - L.length ∧ cy ≤ 1 ∧ Dl B9 L ∧ Nw h oa ∧ Ow h' 1 oa L.length cap (i3 L) ∧
      vL B9 L + B9 ^ L.length * cy = vL B9 (X.take L.length) + vL B9 (Y.take L.length) ∧ (L ≠ [] → B9 ^ (L.length - 1) ≤ x + y) ∧
      t = [(0, some (.slice a X.length c)), (1, some (.slice b Y.length d)), (5, some (.slice oa L.length cap)), (6, some (.int .i64 (cy : Int))), (7, some (.int .i64 (L.length : Int)))])
    ⟨max X.length Y.length + 1, w, Fm.refl, [], none, 0, 0, by simp, fun _ => rfl, rfl, by decide, (fun d hd => by cases hd), Nw.none, Ow.mk0, by simp [vL], fun e => absurd rfl e, rfl⟩ ?_
  rintro k t h1 ⟨w1, fm, L, oa, cap, cy, hi, hi0, rfl, hc1, hLd, nw, ow, hv, hlow, rfl⟩
  have hpD : X.getD L.length 0 < 1000000000 := getD_lt la.dl L.length
  have hqD : Y.getD L.length 0 < 1000000000 := getD_lt lb.dl L.length
  have htx := take_getD (Y := X) L.length
  have hty := take_getD (Y := Y) L.length
  have hmx : X.length ≤ max X.length Y.length ∧ Y.length ≤ max X.length Y.length := ⟨Nat.le_max_left _ _, Nat.le_max_right _ _⟩
  have hmm : max X.length Y.length ≤ 400000 := Nat.max_le.2 ⟨hx, hy⟩
  by_cases hgo : L.length < X.length ∨ L.length < Y.length ∨ 0 < cy
  case neg =>
    have n1 : ¬ L.length < X.length := fun e => hgo (.inl e)
    have n2 : ¬ L.length < Y.length := fun e => hgo (.inr (.inl e))
    have hc0 : cy = 0 := by omega
    subst hc0
    have n3 : ((0 : Int) < ((0 : Nat) : Int)) = False := by simp
    simp +contextual (disch := omega) only [↓AM, ↓AV, AP, CQ, i64, n1, n2, n3]
    rw [List.take_of_length_le (l := X) (by omega), List.take_of_length_le (l := Y) (by omega), xval, yval, Nat.mul_zero, Nat.add_zero] at hv
    have he := plus_end hLd hv hlow
    subst he
    exact ⟨⟨_, _, rfl, ⟨ow.rd, ow.le, hLd⟩, nw⟩, fm⟩
  have hlowN : B9 ^ L.length ≤ x + y := by
    rcases hgo with h' | h' | h'
    · have := pow_low hX h'; omega
    · have := pow_low hY h'; omega
    · have hc0 : cy = 1 := by omega
      subst hc0
      have e1 := vL_take b9 (l := X) (n := min L.length X.length) (Nat.min_le_right _ _)
      have e2 := vL_take b9 (l := Y) (n := min L.length Y.length) (Nat.min_le_right _ _)
      have t1 : X.take (min L.length X.length) = X.take L.length := by rw [Nat.min_comm, List.take_eq_take_iff]; omega
      have t2 : Y.take (min L.length Y.length) = Y.take L.length := by rw [Nat.min_comm, List.take_eq_take_iff]; omega
      rw [t1, xval] at e1
      rw [t2, yval] at e2
      have : vL B9 (X.take L.length) ≤ x := by rw [e1]; exact Nat.le_add_right _ _
      have : vL B9 (Y.take L.length) ≤ y := by rw [e2]; exact Nat.le_add_right _ _
      omega
  have hin : L.length ≤ max X.length Y.length := by
    rcases hgo with h' | h' | h'
    · omega
    · omega
    · rcases Nat.lt_or_ge (max X.length Y.length) L.length with h2 | h2
      · have := hi0 (by omega); omega
      · exact h2
  have hend : L.length = max X.length Y.length → X.getD L.length 0 = 0 ∧ Y.getD L.length 0 = 0 := fun e => by
    rw [List.getD_eq_getElem?_getD, List.getD_eq_getElem?_getD, List.getElem?_eq_none (by omega), List.getElem?_eq_none (by omega)]; exact ⟨rfl, rfl⟩
  generalize hp : X.getD L.length 0 = p at *
  generalize hq : Y.getD L.length 0 = q at *
  have g1 : L.length < X.length ∨ (¬ L.length < X.length ∧ L.length < Y.length) ∨ (¬ L.length < X.length ∧ ¬ L.length < Y.length ∧ (0 : Int) < (cy : Int)) := by omega
  have ea : (p : Int) + (q : Int) = ((p + q : Nat) : Int) := rfl
  have eb : ((p + q : Nat) : Int) + (cy : Int) = ((p + q + cy : Nat) : Int) := rfl
  have step : vL B9 (L ++ [(p + q + cy) % 1000000000]) + B9 ^ (L.length + 1) * ((p + q + cy) / 1000000000) = vL B9 (X.take (L.length + 1)) + vL B9 (Y.take (L.length + 1)) := by
    rw [vL_snoc, htx, hty, Nat.pow_succ, Nat.mul_assoc]
    have e2 : B9 ^ L.length * (p + q + cy) = B9 ^ L.length * ((p + q + cy) % 1000000000 + B9 * ((p + q + cy) / 1000000000)) := by rw [Nat.mod_add_div]
    rw [Nat.mul_add, Nat.mul_add, Nat.mul_add] at e2
    omega
  rcases g1 with g1 | g1 | g1 <;>
  · simp +contextual (disch := omega) only [↓AM, ↓AV, AP, CQ, CN, i64, g1]
    refine (c_digit (i := L.length) (la.rd.keepW w fm nNo) (by omega)).use ?_
    rintro _ hA w2 ⟨rfl, rfl⟩
    rw [hp]
    simp +contextual (disch := omega) only [↓AM, ↓AV, AP, CQ, CN, i64]
    refine (c_digit (i := L.length) (lb.rd.keepW w fm nNo) (by omega)).use ?_
    rintro _ hB w2 ⟨rfl, rfl⟩
    rw [hq]
    simp +contextual (disch := omega) only [↓AM, ↓AV, AP, CQ, CD, i64, ea, eb]
    refine ow.push (m := 1) w2 rfl ?_ fun oa' cap' h2 o2 w3 f2 n2 => ?_
    · omega
    obtain ⟨k1, k2⟩ := grown fm nw f2 n2
    simp +contextual (disch := omega) only [↓AM, ↓AV, AP, CQ, CD, i64]
    refine ⟨_, ?_, w3, k1, L ++ [(p + q + cy) % 1000000000], oa', cap', (p + q + cy) / 1000000000, by simp; omega, ?_, rfl, by omega, ?_, k2, ?_, by simpa using step, fun _ => by simpa using hlowN, by simp⟩
    · simp; omega
    · intro e
      have := hend (by simpa using e)
      omega
    · intro z hz
      rcases List.mem_append.1 hz with hz | hz
      · exact hLd z hz
      · rw [List.mem_singleton.1 hz]; exact Nat.mod_lt _ (by decide)
    · rw [i3_app, List.length_append]; exact o2

/-! ### signed fractions -/
theorem c_sizeZ {h : Hp} {x : Int} (hx : -9223372036854775807 ≤ x ∧ x ≤ 9223372036854775807) :
    ACalls Try.prog 71 [.int .i64 x] h fun v h' => DmW (fun z => h.size ≤ z) h' v x.natAbs ∧ Fm No h h' := by
  refine dioramaref02_size_ok.snd hm rfl fun w => ?_
  rw [WF_eq, dioramaref02_size]
  by_cases h0 : x < 0
  · have e1 : (0 : Int) - x = ((x.natAbs : Nat) : Int) := by omega
    simp +contextual (disch := omega) only [↓AM, ↓AV, AP, CQ, h0, i64, e1]
    refine (c_Of (x := x.natAbs) (by omega)).use ?_
    rintro v h1 w1 ⟨l, fm⟩
    simp +contextual (disch := omega) only [↓AM, ↓AV, AP, CQ]
    exact ⟨l, fm⟩
  · obtain ⟨n, rfl⟩ : ∃ n : Nat, x = (n : Int) := ⟨x.toNat, by omega⟩
    simp +contextual (disch := omega) only [↓AM, ↓AV, AP, CQ, h0]
    refine (c_Of (by omega)).use ?_
    rintro v h1 w1 ⟨l, fm⟩
    simp +contextual (disch := omega) only [↓AM, ↓AV, AP, CQ]
    exact ⟨l, fm⟩
/-- A fraction with a sign. -/
def RtV (h : Hp) (r : Value) (b : Bool) (p q : Nat) : Prop := ∃ u v, r = .agg #[.bool b, u, v] ∧ DmV h u p ∧ DmV h v q
theorem RtV.keep {h h' : Hp} {r : Value} {b : Bool} {p q : Nat} (l : RtV h r b p q) (w : Wf h) (fm : Fm No h h') : RtV h' r b p q := by
  obtain ⟨u, v, e, l1, l2⟩ := l
  exact ⟨u, v, e, l1.keep w fm, l2.keep w fm⟩
theorem rdp3 {h : Hp} {p : Nat} {a b c : Value} {md : Md} : (h.put p ⟨[a, b, c], md⟩).rdN p 0 3 = some [a, b, c] := by
  rw [rdN_mk gput (Nat.le_refl 3)]; rfl
theorem put_n {h : Hp} {p : Nat} {o : Ob} : (h.put p o).get p = some o := gput
theorem _root_.Go.Proofs.Ytbfbgkhlngkifaa.Nu.DmW.putv {h0 h : Hp} {v : Value} {x p : Nat} {o : Ob} (l : DmW (fun z => h0.size ≤ z) h v x) (w : Wf h) (hp : p < h0.size) : DmV (h.put p o) v x := by
  obtain ⟨oa, c, e, l, hS⟩ := l
  exact ⟨oa, c, e, ⟨l.rd.keep (F := fun z => z = p) w (Fm.put Fm.refl fun _ => rfl) (fun z hz e => by have h3 := hS z hz; have e : z = p := e; omega), l.le, l.dl⟩⟩
theorem DmW.kp {h0 h h' : Hp} {v : Value} {x : Nat} (l : DmW (fun z => h0.size ≤ z) h v x) (w : Wf h) (fm : Fm No h h') : DmW (fun z => h0.size ≤ z) h' v x := by
  obtain ⟨oa, c, e, l, hS⟩ := l
  exact ⟨oa, c, e, ⟨l.rd.keepW w fm nNo, l.le, l.dl⟩, hS⟩
theorem c_RatOfZ {h : Hp} {p : Int} {q : Nat} (hp : -9223372036854775807 ≤ p ∧ p ≤ 9223372036854775807) (hq : (q : Int) ≤ 9223372036854775807) :
    ACalls Try.prog 35 [.agg #[.int .i64 p, .int .i64 (q : Int)]] h fun r h' => RtV h' r (decide (p < 0)) p.natAbs q ∧ Fm No h h' := by
  refine dioramaref02_RatOf_ok.snd hm rfl fun w => ?_
  rw [WF_eq, dioramaref02_RatOf]
  obtain ⟨hA, eA⟩ : ∃ g, h.new ⟨[.int .i64 p, .int .i64 (q : Int)], .own⟩ = g := ⟨_, rfl⟩
  obtain ⟨hB, eB⟩ : ∃ g, hA.new ⟨[.bool false, .slice none 0 0, .slice none 0 0], .own⟩ = g := ⟨_, rfl⟩
  have sA : hA.size = h.size + 1 := by rw [← eA]; rfl
  have sB : hB.size = h.size + 2 := by rw [← eB, size_new, sA]
  have wA : Wf hA := eA ▸ w.new
  have wB : Wf hB := eB ▸ wA.new
  have fA : Fm No h hA := eA ▸ Fm.new Fm.refl
  have fB : Fm No hA hB := eB ▸ Fm.new Fm.refl
  have gA : hA.get h.size = some ⟨[.int .i64 p, .int .i64 (q : Int)], .own⟩ := eA ▸ gnew
  have gB : hB.get hA.size = some ⟨[.bool false, .slice none 0 0, .slice none 0 0], .own⟩ := eB ▸ gnew
  have gA := fB.keep wA gA (fun f => f)
  have f0 : Fm No h hB := fA.trans fB fun _ _ f => f
  have rds : ∀ g, Fm No hB g → g.rd h.size 0 = some (.int .i64 p) ∧ g.rd h.size 1 = some (.int .i64 (q : Int)) ∧ g.get hA.size = some ⟨[.bool false, .slice none 0 0, .slice none 0 0], .own⟩ := fun g fg =>
    ⟨rd_mk (fg.keep wB gA (fun f => f)), rd_mk (fg.keep wB gA (fun f => f)), fg.keep wB gB (fun f => f)⟩
  obtain ⟨u0, u1, u2⟩ := rds hB Fm.refl
  simp +contextual (disch := omega) only [↓AM, ↓AV, AP, CQ, eA, eB]
  simp +contextual (disch := omega) only [↓AM, ↓AV, AP, CQ, eA, eB, u0, u1]
  refine (c_sizeZ hp).use ?_
  rintro _ h1 w1 ⟨lu, fm1⟩
  have lu0 := lu
  obtain ⟨ua, uc, rfl, -, -⟩ := lu
  obtain ⟨u0, u1, u2⟩ := rds h1 fm1
  simp +contextual (disch := omega) only [↓AM, ↓AV, AP, CQ, eA, eB, u0, u1]
  refine (c_Of hq).use ?_
  rintro _ h3 w3 ⟨lv, fm3⟩
  have lv0 := lv
  obtain ⟨va, vc, rfl, -, -⟩ := lv
  have f13 := fm1.trans fm3 fun _ _ f => f
  obtain ⟨u0, u1, u2⟩ := rds h3 f13
  simp +contextual (disch := omega) only [↓AM, ↓AV, AP, CQ, eA, eB, u0, u1, u2, rdp3]
  have n1 : ¬ hB.size ≤ hA.size := by omega
  have n2 : ¬ h1.size ≤ hA.size := by have := fm1.size; omega
  exact ⟨⟨_, _, rfl, (((lu0.kp w1 fm3).putv w3 (by omega))), ((lv0.putv w3 (by have := fm1.size; omega)))⟩, (f0.trans f13 fun _ _ f => f).put fun hlt => absurd hlt (by omega)⟩

def sg (b : Bool) (n : Nat) : Int := if b = true then -(n : Int) else (n : Int)
theorem dl40 {x : Nat} (h : x < B9 ^ 40) : (dc x).length ≤ 400000 := Nat.le_trans (dc_len h) (by decide)
theorem dl100 {x : Nat} (h : x < B9 ^ 100) : (dc x).length ≤ 400000 := Nat.le_trans (dc_len h) (by decide)
theorem mul40 {x y : Nat} (hx : x < B9 ^ 40) (hy : y < B9 ^ 40) : x * y < B9 ^ 100 := by
  have h1 : x * y ≤ B9 ^ 40 * B9 ^ 40 := Nat.mul_le_mul (Nat.le_of_lt hx) (Nat.le_of_lt hy)
  exact Nat.lt_of_le_of_lt h1 (by decide)
theorem DmV.dm {h : Hp} {v : Value} {x : Nat} (l : DmV h v x) : ∃ oa c, v = .slice oa (dc x).length c ∧ Dm h oa (dc x).length c (dc x) := l
theorem c_Sum {h : Hp} {r s : Value} {b1 b2 : Bool} {p1 q1 p2 q2 : Nat} (lr : RtV h r b1 p1 q1) (ls : RtV h s b2 p2 q2) (h1 : p1 < B9 ^ 40) (h2 : q1 < B9 ^ 40) (h3 : p2 < B9 ^ 40) (h4 : q2 < B9 ^ 40) :
    ACalls Try.prog 73 [r, s] h fun v h' => (∃ b p, RtV h' v b p (q1 * q2) ∧ sg b p = sg b1 p1 * q2 + sg b2 p2 * q1) ∧ Fm No h h' := by
  refine dioramaref02_Sum_ok.snd hm rfl fun w => ?_
  rw [WF_eq, dioramaref02_Sum]
  obtain ⟨_, _, rfl, ⟨a1, c1, rfl, l1⟩, ⟨a2, c2, rfl, l2⟩⟩ := lr
  obtain ⟨_, _, rfl, ⟨a3, c3, rfl, l3⟩, ⟨a4, c4, rfl, l4⟩⟩ := ls
  obtain ⟨hA, eA⟩ : ∃ g, h.new ⟨[.bool b1, .slice a1 (dc p1).length c1, .slice a2 (dc q1).length c2], .own⟩ = g := ⟨_, rfl⟩
  obtain ⟨hB, eB⟩ : ∃ g, hA.new ⟨[.bool b2, .slice a3 (dc p2).length c3, .slice a4 (dc q2).length c4], .own⟩ = g := ⟨_, rfl⟩
  obtain ⟨hC, eC⟩ : ∃ g, hB.new ⟨[.bool false, .slice none 0 0, .slice none 0 0], .own⟩ = g := ⟨_, rfl⟩
  have sA : hA.size = h.size + 1 := by rw [← eA]; rfl
  have sB : hB.size = h.size + 2 := by rw [← eB, size_new, sA]
  have sC : hC.size = h.size + 3 := by rw [← eC, size_new, sB]
  have wA : Wf hA := eA ▸ w.new
  have wB : Wf hB := eB ▸ wA.new
  have wC : Wf hC := eC ▸ wB.new
  have fA : Fm No h hA := eA ▸ Fm.new Fm.refl
  have fB : Fm No hA hB := eB ▸ Fm.new Fm.refl
  have fC : Fm No hB hC := eC ▸ Fm.new Fm.refl
  have gA : hA.get h.size = some ⟨[.bool b1, .slice a1 (dc p1).length c1, .slice a2 (dc q1).length c2], .own⟩ := eA ▸ gnew
  have gB : hB.get hA.size = some ⟨[.bool b2, .slice a3 (dc p2).length c3, .slice a4 (dc q2).length c4], .own⟩ := eB ▸ gnew
  have gC : hC.get hB.size = some ⟨[.bool false, .slice none 0 0, .slice none 0 0], .own⟩ := eC ▸ gnew
  have gA := fC.keep wB (fB.keep wA gA (fun f => f)) (fun f => f)
  have gB := fC.keep wB gB (fun f => f)
  have f0 : Fm No h hC := (fA.trans fB fun _ _ f => f).trans fC fun _ _ f => f
  have rds : ∀ g, Fm No hC g → (g.rd h.size 0 = some (.bool b1) ∧ g.rd h.size 1 = some (.slice a1 (dc p1).length c1) ∧ g.rd h.size 2 = some (.slice a2 (dc q1).length c2)) ∧
      (g.rd hA.size 0 = some (.bool b2) ∧ g.rd hA.size 1 = some (.slice a3 (dc p2).length c3) ∧ g.rd hA.size 2 = some (.slice a4 (dc q2).length c4)) ∧ g.get hB.size = some ⟨[.bool false, .slice none 0 0, .slice none 0 0], .own⟩ := fun g fg =>
    ⟨⟨rd_mk (fg.keep wC gA (fun f => f)), rd_mk (fg.keep wC gA (fun f => f)), rd_mk (fg.keep wC gA (fun f => f))⟩, ⟨rd_mk (fg.keep wC gB (fun f => f)), rd_mk (fg.keep wC gB (fun f => f)), rd_mk (fg.keep wC gB (fun f => f))⟩, fg.keep wC gC (fun f => f)⟩
  have u := rds hC Fm.refl
  simp +contextual (disch := omega) only [↓AM, ↓AV, AP, CQ, eA, eB, eC]
  simp +contextual (disch := omega) only [↓AM, ↓AV, AP, CQ, eA, eB, eC, u]
  refine (c_Times ⟨l1.rd.keepW w f0 nNo, l1.le, l1.dl⟩ ⟨l4.rd.keepW w f0 nNo, l4.le, l4.dl⟩ (dl40 h1) (dl40 h4)).use ?_
  rintro _ hD wD ⟨lx, fD⟩
  obtain ⟨xa, xc, rfl, lxd, nx⟩ := lx
  have f1 := f0.trans fD fun _ _ f => f
  have u := rds hD fD
  simp +contextual (disch := omega) only [↓AM, ↓AV, AP, CQ, eA, eB, eC, u]
  refine (c_Times ⟨l3.rd.keepW w f1 nNo, l3.le, l3.dl⟩ ⟨l2.rd.keepW w f1 nNo, l2.le, l2.dl⟩ (dl40 h3) (dl40 h2)).use ?_
  rintro _ hE wE ⟨ly, fE⟩
  obtain ⟨ya, yc, rfl, lyd, ny⟩ := ly
  have f2 := f1.trans fE fun _ _ f => f
  have fCE := fD.trans fE fun _ _ f => f
  have u := rds hE fCE
  simp +contextual (disch := omega) only [↓AM, ↓AV, AP, CQ, eA, eB, eC, u]
  refine (c_Times ⟨l2.rd.keepW w f2 nNo, l2.le, l2.dl⟩ ⟨l4.rd.keepW w f2 nNo, l4.le, l4.dl⟩ (dl40 h2) (dl40 h4)).use ?_
  rintro _ hG wG ⟨lz, fG⟩
  have lz0 := lz
  obtain ⟨za, zc, rfl, -, -⟩ := lz
  have f3 := f2.trans fG fun _ _ f => f
  have fCG := fCE.trans fG fun _ _ f => f
  have u := rds hG fCG
  have lxd : Dm hG xa (dc (p1 * q2)).length xc (dc (p1 * q2)) := ⟨(lxd.rd.keepW wD fE nNo).keepW wE fG nNo, lxd.le, lxd.dl⟩
  have lyd : Dm hG ya (dc (p2 * q1)).length yc (dc (p2 * q1)) := ⟨lyd.rd.keepW wE fG nNo, lyd.le, lyd.dl⟩
  have sE := fCE.size
  have sG := fG.size
  have fin : ∀ (va : Option Addr) (vc x : Nat) (b : Bool) (hH : Hp), Wf hH → Fm No hG hH → DmW (fun z => hG.size ≤ z) hH (.slice va (dc x).length vc) x → sg b x = sg b1 p1 * q2 + sg b2 p2 * q1 →
      (∃ b' p, RtV (hH.put hB.size ⟨[.bool b, .slice va (dc x).length vc, .slice za (dc (q1 * q2)).length zc], .own⟩) (.agg #[.bool b, .slice va (dc x).length vc, .slice za (dc (q1 * q2)).length zc]) b' p (q1 * q2) ∧ sg b' p = sg b1 p1 * q2 + sg b2 p2 * q1) ∧
      Fm No h (hH.put hB.size ⟨[.bool b, .slice va (dc x).length vc, .slice za (dc (q1 * q2)).length zc], .own⟩) := fun va vc x b hH wH fH l hs =>
    ⟨⟨b, x, ⟨_, _, rfl, l.putv wH (by omega), (lz0.kp wG fH).putv wH (by omega)⟩, hs⟩, (f3.trans fH fun _ _ f => f).put fun hlt => absurd hlt (by omega)⟩
  have le1 := dl100 (mul40 h1 h4)
  have bq : (false == false) = true ∧ (true == true) = true ∧ (false == true) = false ∧ (true == false) = false := ⟨rfl, rfl, rfl, rfl⟩
  have le2 := dl100 (mul40 h3 h2)
  by_cases hbb : b1 = b2
  · subst hbb
    have e1 : sg b1 (p1 * q2 + p2 * q1) = sg b1 p1 * q2 + sg b1 p2 * q1 := by
      unfold sg
      cases b1 <;> simp only [if_true, if_false, Bool.false_eq_true, Int.natCast_add, Int.natCast_mul, Int.neg_mul] <;> omega
    cases b1 <;>
    · simp +contextual (disch := omega) only [↓AM, ↓AV, AP, CQ, eA, eB, eC, u, bq]
      refine (c_Plus lxd lyd le1 le2).use ?_
      rintro _ hH wH ⟨lv, fH⟩
      have lv0 := lv
      obtain ⟨va, vc, rfl, -, -⟩ := lv
      have u := rds hH (fCG.trans fH fun _ _ f => f)
      simp +contextual (disch := omega) only [↓AM, ↓AV, AP, CQ, eA, eB, eC, u, rdp3]
      exact fin va vc _ _ hH wH fH lv0 e1
  · have hb : b2 = !b1 := by cases b1 <;> cases b2 <;> simp at hbb ⊢
    subst hb
    by_cases hle : p2 * q1 ≤ p1 * q2
    · have e1 : sg b1 (p1 * q2 - p2 * q1) = sg b1 p1 * q2 + sg (!b1) p2 * q1 := by
        unfold sg
        cases b1 <;> simp only [if_true, if_false, Bool.false_eq_true, Bool.not_true, Bool.not_false, Int.natCast_sub hle, Int.natCast_mul, Int.neg_mul] <;> omega
      have e2 : ((0 : Int) ≤ (if p1 * q2 < p2 * q1 then -1 else if p1 * q2 = p2 * q1 then 0 else 1)) = True := by
        rw [if_neg (by omega)]
        split <;> simp
      cases b1 <;>
      · simp +contextual (disch := omega) only [↓AM, ↓AV, AP, CQ, eA, eB, eC, u, bq]
        refine (c_Compare lxd lyd (by omega) (by omega)).use ?_
        rintro _ _ wH ⟨rfl, rfl⟩
        simp +contextual (disch := omega) only [↓AM, ↓AV, AP, CQ, eA, eB, eC, u, e2]
        refine (c_Minus lxd lyd le1 le2 hle).use ?_
        rintro _ hH wH ⟨lv, fH⟩
        have lv0 := lv
        obtain ⟨va, vc, rfl, -, -⟩ := lv
        have u := rds hH (fCG.trans fH fun _ _ f => f)
        simp +contextual (disch := omega) only [↓AM, ↓AV, AP, CQ, eA, eB, eC, u, rdp3]
        exact fin va vc _ _ hH wH fH lv0 e1
    · have hle' : p1 * q2 ≤ p2 * q1 := by omega
      have e1 : sg (!b1) (p2 * q1 - p1 * q2) = sg b1 p1 * q2 + sg (!b1) p2 * q1 := by
        unfold sg
        cases b1 <;> simp only [if_true, if_false, Bool.false_eq_true, Bool.not_true, Bool.not_false, Int.natCast_sub hle', Int.natCast_mul, Int.neg_mul] <;> omega
      have e2 : ((0 : Int) ≤ (if p1 * q2 < p2 * q1 then -1 else if p1 * q2 = p2 * q1 then 0 else 1)) = False := by
        rw [if_pos (by omega)]
        simp
      cases b1 <;>
      · simp +contextual (disch := omega) only [↓AM, ↓AV, AP, CQ, eA, eB, eC, u, bq]
        refine (c_Compare lxd lyd (by omega) (by omega)).use ?_
        rintro _ _ wH ⟨rfl, rfl⟩
        simp +contextual (disch := omega) only [↓AM, ↓AV, AP, CQ, eA, eB, eC, u, e2]
        refine (c_Minus lyd lxd le2 le1 hle').use ?_
        rintro _ hH wH ⟨lv, fH⟩
        have lv0 := lv
        obtain ⟨va, vc, rfl, -, -⟩ := lv
        have u := rds hH (fCG.trans fH fun _ _ f => f)
        simp +contextual (disch := omega) only [↓AM, ↓AV, AP, CQ, eA, eB, eC, u, rdp3]
        exact fin va vc _ _ hH wH fH lv0 e1
end Go.Proofs.Ytbfbgkhlngkifaa.Nu

/- Segments of the program: the window. Plain theorems over the abstract machine.
   Conditions: none. -/
namespace Go.Proofs.Ytbfbgkhlngkifaa.St
open Go Go.RowKit Go.Proofs.Ytbfbgkhlngkifaa.Am Go.Proofs.Ytbfbgkhlngkifaa.Af Go.Proofs.Ytbfbgkhlngkifaa.Md Go.Proofs.Ytbfbgkhlngkifaa.Nu
set_option linter.unusedVariables false
set_option linter.unusedSimpArgs false
set_option linter.defProp false
set_option maxRecDepth 20000
set_option maxHeartbeats 1000000

/-- A segment: its number, its span, where its data lie, whether it breaks. -/
abbrev Sg := Int × Tim × Tim × (Option Addr × Nat × Nat) × Bool
def segC (x : Sg) : List Value := [.int .i64 x.1, .int .i64 x.2.1.1, .int .i64 x.2.1.2, .int .i64 x.2.2.1.1, .int .i64 x.2.2.1.2, .slice x.2.2.2.1.1 x.2.2.2.1.2.1 x.2.2.2.1.2.2, .bool x.2.2.2.2]
theorem segC_len (x : Sg) : (segC x).length = 7 := rfl
def leT (a b : Tim) : Prop := a.1 * b.2 ≤ b.1 * a.2
instance (a b : Tim) : Decidable (leT a b) := by unfold leT; infer_instance
/-- A segment's span is valid. -/
def SO (x : Sg) : Prop := (VT x.2.1 ∧ VT x.2.2.1) ∧ leT x.2.1 x.2.2.1
instance (x : Sg) : Decidable (SO x) := by unfold SO; infer_instance
def nSO (x : Sg) : Bool := !decide (SO x)
theorem cmpZ_le {a b : Int} : (cmpZ a b ≤ 0) = (a ≤ b) := by
  unfold cmpZ
  split
  · simp; omega
  · split <;> simp <;> omega
theorem cmpZ_gt {a b : Int} : (0 < cmpZ a b) = (b < a) := by
  unfold cmpZ
  split
  · simp; omega
  · split <;> simp <;> omega
theorem c_IndexSeg {h : Hp} {a : Option Addr} {n c f : Nat} {us vs : Array Value} {xs : List Sg} {p : Sg → Bool} (ha : Rd h 7 a n (xs.flatMap segC)) (hl : xs.length = n) (hn : n ≤ 140737488351232) (hf : okF Try.prog f = true)
    (hp : ∀ x ∈ xs, ∀ h1, Fm No h h1 → ACalls Try.prog f (us.toList ++ [.agg (segC x).toArray] ++ vs.toList) h1 fun v h' => v = .bool (p x) ∧ Fm No h1 h') :
    ACalls Try.prog 78 [.slice a n c, .func (.func f) us vs] h fun v h' => (∃ i : Int, v = .int .i64 i ∧ decide (0 ≤ i) = xs.any p) ∧ Fm No h h' := by
  refine slices_IndexFunc___api_Segment_api_Segment__ok.snd hm rfl fun w => ?_
  rw [WF_eq, slices_IndexFunc___api_Segment_api_Segment_]
  simp +contextual only [↓AM, ↓AV, AP]
  refine WL.mk (fun k t h' => Wf h' ∧ Fm No h h' ∧ ∃ i : Nat, i ≤ n ∧ k = n - i ∧ (xs.take i).any p = false ∧ t = [(0, some (.slice a n c)), (1, some (.func (.func f) us vs)), (7, some (.int .i64 n)), (8, some (.int .i64 i))]) ⟨n, w, Fm.refl, 0, by simp, rfl, rfl, rfl⟩ ?_
  rintro k t h1 ⟨w1, fm, i, hi, rfl, hall, rfl⟩
  by_cases hin : i < n
  · obtain ⟨b1, o1, s1, u, rfl, f1, hu, r1, -⟩ := (ha.keep w fm (fun x _ => id)).elem segC_len hl hin
    simp only [segC] at r1
    simp +contextual only [↓AM, ↓AV, AP, f1, r1, hin]
    refine ⟨hf, (hp u (List.mem_of_getElem? hu) _ fm).use ?_⟩
    rintro _ h2 w2 ⟨rfl, fm2⟩
    have fm' := fm.trans fm2 (fun _ _ x => x)
    simp +contextual only [↓AM, ↓AV, AP]
    refine ⟨fun hpu => ⟨⟨_, rfl, ?_⟩, fm'⟩, fun hpu => ⟨_, ?_, w2, fm', i + 1, hin, rfl, ?_, ?_⟩⟩
    · have : xs.any p = true := List.any_eq_true.2 ⟨u, List.mem_of_getElem? hu, hpu⟩
      rw [this]; simp
    · omega
    · rw [List.take_add_one, hu]; simp [hall, hpu]
    · rw [i64 (by omega)]; rfl
  · simp +contextual only [↓AM, ↓AV, AP, hin]
    rw [List.take_of_length_le (by omega)] at hall
    exact ⟨⟨_, rfl, by rw [hall]; rfl⟩, fm⟩
theorem c_ContainsSeg {h : Hp} {a : Option Addr} {n c f : Nat} {us vs : Array Value} {xs : List Sg} {p : Sg → Bool} (ha : Rd h 7 a n (xs.flatMap segC)) (hl : xs.length = n) (hn : n ≤ 140737488351232) (hf : okF Try.prog f = true)
    (hp : ∀ x ∈ xs, ∀ h1, Fm No h h1 → ACalls Try.prog f (us.toList ++ [.agg (segC x).toArray] ++ vs.toList) h1 fun v h' => v = .bool (p x) ∧ Fm No h1 h') :
    ACalls Try.prog 39 [.slice a n c, .func (.func f) us vs] h fun v h' => v = .bool (xs.any p) ∧ Fm No h h' := by
  refine slices_ContainsFunc___api_Segment_api_Segment__ok.snd hm rfl fun w => ?_
  rw [WF_eq, slices_ContainsFunc___api_Segment_api_Segment_]
  simp +contextual only [↓AM, ↓AV, AP]
  refine (c_IndexSeg ha hl hn hf hp).use ?_
  rintro _ _ w1 ⟨⟨i, rfl, hi⟩, fm⟩
  simp +contextual only [↓AM, ↓AV, AP, hi]
  exact fm

/-! ### the error of a lock -/

theorem c_spanOK {h : Hp} {x : Sg} : ACalls Try.prog 41 [.agg #[.int .i64 x.2.1.1, .int .i64 x.2.1.2, .int .i64 x.2.2.1.1, .int .i64 x.2.2.1.2]] h fun v h' => v = .bool (decide (SO x)) ∧ Fm No h h' := by
  refine stream_spanOK_ok.snd Af.hm rfl fun w => ?_
  rw [WF_eq, stream_spanOK]
  obtain ⟨m, ⟨f1, f2⟩, ⟨t1, t2⟩, dd, br⟩ := x
  simp only at *
  obtain ⟨h0, e0⟩ : ∃ g, h.new ⟨[.int .i64 f1, .int .i64 f2, .int .i64 t1, .int .i64 t2], .own⟩ = g := ⟨_, rfl⟩
  have fm0 : Fm No h h0 := e0 ▸ Fm.new Fm.refl
  have g0 : h0.get h.size = some ⟨[.int .i64 f1, .int .i64 f2, .int .i64 t1, .int .i64 t2], .own⟩ := e0 ▸ gnew
  have n0 : h0.rdN h.size 0 2 = some [.int .i64 f1, .int .i64 f2] := rdN_mk g0 (by simp)
  have n2 : h0.rdN h.size 2 2 = some [.int .i64 t1, .int .i64 t2] := rdN_mk g0 (by simp)
  simp +contextual (disch := omega) only [↓AM, ↓AV, AP, CQ, e0, n0, n2]
  refine (c_CmpT (x := (f1, f2)) (y := (t1, t2))).use ?_
  rintro _ h1 w1 ⟨rfl, fm1⟩
  have fin := fm0.trans fm1 fun _ _ f => f
  by_cases hv : VT (f1, f2) ∧ VT (t1, t2)
  · rw [if_pos hv, if_pos hv]
    simp +contextual (disch := omega) only [↓AM, ↓AV, AP, CQ, eqI_self, cmpZ_le]
    exact ⟨congrArg Value.bool (decide_eq_decide.2 (by unfold SO leT; simp only [hv, true_and])), fin⟩
  · rw [if_neg hv, if_neg hv]
    simp +contextual (disch := omega) only [↓AM, ↓AV, AP, CQ, e4_0]
    exact ⟨by rw [decide_eq_false (fun q : SO (m, (f1, f2), (t1, t2), dd, br) => hv q.1)], fin⟩
theorem rdN_n7 {h : Hp} {a b c d e f g : Value} {md : Md} : (h.new ⟨[a, b, c, d, e, f, g], md⟩).rdN h.size 0 7 = some [a, b, c, d, e, f, g] := rdN_new rfl
theorem c_there1 {h : Hp} {x : Sg} : ACalls Try.prog 40 [.agg (segC x).toArray] h fun v h' => v = .bool (nSO x) ∧ Fm No h h' := by
  refine stream_there_1_ok.snd Af.hm rfl fun w => ?_
  rw [WF_eq, stream_there_1]
  obtain ⟨h0, e0⟩ : ∃ g, h.new ⟨segC x, .own⟩ = g := ⟨_, rfl⟩
  have fm0 : Fm No h h0 := e0 ▸ Fm.new Fm.refl
  have g0 : h0.get h.size = some ⟨segC x, .own⟩ := e0 ▸ gnew
  have n0 : h0.rdN h.size 1 4 = some [.int .i64 x.2.1.1, .int .i64 x.2.1.2, .int .i64 x.2.2.1.1, .int .i64 x.2.2.1.2] := rdN_mk g0 (by simp [segC])
  have al : allc (segC x) = true := rfl
  simp +contextual (disch := omega) only [↓AM, ↓AV, AP, CQ, al, e0, n0]
  refine c_spanOK.use ?_
  rintro _ h1 w1 ⟨rfl, fm1⟩
  simp +contextual (disch := omega) only [↓AM, ↓AV, AP, CQ]
  exact ⟨by simp [nSO], fm0.trans fm1 fun _ _ f => f⟩
theorem c_within {h : Hp} {n a b : Int} : ACalls Try.prog 42 [.int .i64 n, .int .i64 a, .int .i64 b] h fun v h' => v = .bool (decide (a ≤ n ∧ n ≤ b)) ∧ h' = h := by
  refine stream_within_ok.snd Af.hm rfl fun w => ?_
  rw [WF_eq, stream_within]
  by_cases h1 : a ≤ n
  · simp +contextual (disch := omega) only [↓AM, ↓AV, AP, CQ, h1]
  · simp +contextual (disch := omega) only [↓AM, ↓AV, AP, CQ, h1]
theorem _root_.Go.Proofs.Ytbfbgkhlngkifaa.Am.Rd.dropS {h : Hp} {z b off n cap l : Nat} {sp : Option Nat} {cs : List Value} (r : Rd h z (some ⟨b, off, sp⟩) n cs) (hf : flagOk sp = true) (hk : l ≤ n) (hc : n ≤ cap) :
    Rd h z (some (slAddr b off sp z l cap true)) (n - l) (cs.drop (l * z)) := by
  obtain ⟨ob, h1, h2, h3⟩ : ∃ ob, h.get b = some ob ∧ off + n * z ≤ ob.cs.length ∧ cs = (ob.cs.drop off).take (n * z) := by
    rcases r.at_ _ rfl with ⟨-, h2⟩ | ⟨h1, -⟩
    · obtain ⟨ob, h1, h2, h3⟩ := rdN_of h2
      exact ⟨ob, h1, h2, h3⟩
    · rw [hf] at h1; cases h1
  have hlen := r.len
  have hz : (n - l) * z + l * z = n * z := by rw [← Nat.add_mul]; congr 1; omega
  have e : (cs.drop (l * z)).length = (n - l) * z := by rw [List.length_drop, hlen]; omega
  refine ⟨e, (fun e => by cases e), fun a ha => ?_⟩
  have key : ∀ o, o = off + l * z → h.rdN b o ((n - l) * z) = some (cs.drop (l * z)) := by
    rintro o rfl
    rw [rdN_mk h1 (by omega), h3, List.drop_take, List.drop_drop]
    congr 2
    omega
  have key0 : cap = l → h.rdN b off ((n - l) * z) = some (cs.drop (l * z)) ∧ n - l = 0 := fun hcl => by
    have h0 : n - l = 0 := by omega
    refine ⟨?_, h0⟩
    rw [h0, Nat.zero_mul, rdN_mk h1 (by omega), List.take_zero]
    rw [h0, Nat.zero_mul] at e
    rw [List.length_eq_zero_iff.1 e]
  cases ha
  cases sp with
  | none =>
    unfold slAddr
    by_cases hcl : cap = l
    · simp only [hcl, if_true]
      exact .inl ⟨rfl, (key0 hcl).1⟩
    · simp only [hcl, if_false]
      exact .inl ⟨rfl, key _ rfl⟩
  | some k =>
    unfold slAddr
    by_cases hcl : cap = l
    · simp only [hcl, if_true]
      cases hfl : flagOk (some (l * z)) with
      | true => exact .inl ⟨rfl, (key0 hcl).1⟩
      | false => exact .inr ⟨rfl, (key0 hcl).2⟩
    · simp only [hcl, if_false]
      exact .inl ⟨hf, key _ rfl⟩
/-- What is there at a time. -/
def thr (s : List Sg) (t : Tim) : List Sg := s.filter fun x => decide (leT x.2.2.1 t)
def win (s : List Sg) (t : Tim) (keep : Int) : List Sg := (thr s t).drop ((thr s t).length - keep.toNat)
def er (s : List Sg) (t : Tim) (keep : Int) : Int := if VT t ∧ ∀ x ∈ s, SO x then (if 1 ≤ keep ∧ keep ≤ 60 then 0 else 1) else 4
theorem flat_drop {α : Type} {f : α → List Value} {z : Nat} (hf : ∀ x, (f x).length = z) : ∀ (xs : List α) (i : Nat), (xs.flatMap f).drop (i * z) = (xs.drop i).flatMap f
  | [], i => by simp
  | x :: xs, 0 => by simp
  | x :: xs, i + 1 => by
    rw [List.flatMap_cons, List.drop_succ_cons, List.drop_append, hf, List.drop_eq_nil_of_le (by rw [hf, Nat.add_mul]; omega), List.nil_append, show (i + 1) * z - z = i * z by rw [Nat.add_mul]; omega, flat_drop hf xs i]
theorem c_there {h : Hp} {oa : Option Addr} {c : Nat} {s : List Sg} {t : Tim} {keep : Int} (ha : Rd h 7 oa s.length (s.flatMap segC)) (hn : s.length ≤ 1000000) :
    ACalls Try.prog 19 [.slice oa s.length c, .agg #[.int .i64 t.1, .int .i64 t.2], .int .i64 keep] h fun v h' => Fm No h h' ∧ ∃ a' c', v = .tuple #[.slice a' (if er s t keep = 0 then (win s t keep).length else 0) c', .int .i64 (er s t keep)] ∧
      (er s t keep = 0 → Rd h' 7 a' (win s t keep).length ((win s t keep).flatMap segC)) := by
  refine stream_there_ok.snd Af.hm rfl fun w => ?_
  rw [WF_eq, stream_there]
  obtain ⟨t1, t2⟩ := t
  simp only at *
  obtain ⟨h0, e0⟩ : ∃ g, h.new ⟨[.int .i64 t1, .int .i64 t2], .own⟩ = g := ⟨_, rfl⟩
  have w0 : Wf h0 := e0 ▸ w.new
  have f0 : Fm No h h0 := e0 ▸ Fm.new Fm.refl
  have g0 : h0.get h.size = some ⟨[.int .i64 t1, .int .i64 t2], .own⟩ := e0 ▸ gnew
  have rds : ∀ g : Hp, Fm No h0 g → g.rdN h.size 0 2 = some [.int .i64 t1, .int .i64 t2] := fun g fg => rdN_mk (fg.keep w0 g0 (fun f => f)) (by simp)
  have n0 := rds h0 Fm.refl
  simp +contextual (disch := omega) only [↓AM, ↓AV, AP, CQ, e0, n0]
  refine (c_Valid (x := (t1, t2))).use ?_
  rintro _ h1 w1 ⟨rfl, f1⟩
  have f01 := f0.trans f1 fun _ _ f => f
  by_cases hv : VT (t1, t2)
  case neg =>
    have he : er s (t1, t2) keep = 4 := by unfold er; rw [if_neg (fun q => hv q.1)]
    simp +contextual (disch := omega) only [↓AM, ↓AV, AP, CQ, e0, hv]
    rw [he]
    exact ⟨f01, none, 0, rfl, fun q => by omega⟩
  simp +contextual (disch := omega) only [↓AM, ↓AV, AP, CQ, e0, hv]
  refine (c_ContainsSeg (us := #[]) (vs := #[]) (p := nSO) (ha.keepW w f01 nNo) rfl (by omega) stream_there_1_ok.2 (fun x _ h1 _ => c_there1)).use ?_
  rintro _ h2 w2 ⟨rfl, f2⟩
  have f02 := f01.trans f2 fun _ _ f => f
  have f12 := f1.trans f2 fun _ _ f => f
  by_cases hs : s.any nSO = true
  · have he : er s (t1, t2) keep = 4 := by
      unfold er
      rw [if_neg]
      rintro ⟨-, q⟩
      obtain ⟨x, hx, hx2⟩ := List.any_eq_true.1 hs
      simp [nSO, q x hx] at hx2
    simp +contextual (disch := omega) only [↓AM, ↓AV, AP, CQ, e0, hs]
    rw [he]
    exact ⟨f02, none, 0, rfl, fun q => by omega⟩
  have hall : ∀ x ∈ s, SO x := fun x hx => by
    refine Classical.byContradiction fun q => hs ?_
    exact List.any_eq_true.2 ⟨x, hx, by simp [nSO, q]⟩
  have hs : s.any nSO = false := by simpa using hs
  simp +contextual (disch := omega) only [↓AM, ↓AV, AP, CQ, e0, hs]
  refine c_within.use ?_
  rintro _ h2 w3 ⟨rfl, rfl⟩
  by_cases hk : 1 ≤ keep ∧ keep ≤ 60
  case neg =>
    have he : er s (t1, t2) keep = 1 := by unfold er; rw [if_pos ⟨hv, hall⟩, if_neg hk]
    simp +contextual (disch := omega) only [↓AM, ↓AV, AP, CQ, e0, hk]
    rw [he]
    exact ⟨f02, none, 0, rfl, fun q => by omega⟩
  have he : er s (t1, t2) keep = 0 := by unfold er; rw [if_pos ⟨hv, hall⟩, if_pos hk]
  simp +contextual (disch := omega) only [↓AM, ↓AV, AP, CQ, e0, hk]
  refine WL.mk (fun k u h' => ∃ (i : Nat) (o : Option Addr) (cap : Nat), Wf h' ∧ Fm No h2 h' ∧ i ≤ s.length ∧ k = s.length - i ∧ Nw h2 o ∧ Ow h' 7 o (thr (s.take i) (t1, t2)).length cap ((thr (s.take i) (t1, t2)).flatMap segC) ∧
      u = [(2, some (.int .i64 keep)), (4, some (.pointer (some ⟨h.size, 0, none⟩))), (8, some (.slice o (thr (s.take i) (t1, t2)).length cap)), (23, some (.slice oa s.length c)), (24, some (.int .i64 (s.length : Int))), (25, some (.int .i64 (i : Int)))])
    ⟨s.length, 0, none, 0, w2, Fm.refl, by omega, rfl, Nw.none, by simp [thr]; exact Ow.mk0, by simp [thr]⟩ ?_
  rintro k u h3 ⟨i, o, cap, w3, f3, hi, rfl, nw, ow, rfl⟩
  have f03 := f02.trans f3 fun _ _ f => f
  have hthl : (thr (s.take i) (t1, t2)).length ≤ 1000000 := by
    have h1 : (thr (s.take i) (t1, t2)).length ≤ (s.take i).length := List.length_filter_le _ _
    have h2 : (s.take i).length ≤ s.length := by rw [List.length_take]; omega
    omega
  by_cases hin : i < s.length
  · obtain ⟨b1, o1, s1, x, rfl, g1, hx, r1, -⟩ := (ha.keepW w f03 nNo).elem segC_len rfl hin
    have hsx := hall x (List.mem_of_getElem? hx)
    have hts : s.take (i + 1) = s.take i ++ [x] := by rw [List.take_add_one, hx]; rfl
    obtain ⟨hA, eA⟩ : ∃ g, h3.new ⟨segC x, .own⟩ = g := ⟨_, rfl⟩
    have wA : Wf hA := eA ▸ w3.new
    have fA : Fm No h3 hA := eA ▸ Fm.new Fm.refl
    have gA : hA.get h3.size = some ⟨segC x, .own⟩ := eA ▸ gnew
    have nA : hA.rdN h3.size 3 2 = some [.int .i64 x.2.2.1.1, .int .i64 x.2.2.1.2] := rdN_mk gA (by simp [segC])
    have nT := rds hA (((f1.trans f2 fun _ _ f => f).trans f3 fun _ _ f => f).trans fA fun _ _ f => f)
    have al : allc (segC x) = true := rfl
    have np : ∀ cs : List Value, cs.length = 7 → spl cs 0 (segC x) = segC x := fun cs hc => by unfold spl; rw [List.take_zero, List.nil_append, segC_len, List.drop_eq_nil_of_le (by omega), List.append_nil]
    have np := np _ (show ([.int .i64 0, .int .i64 0, .int .i64 0, .int .i64 0, .int .i64 0, .slice none 0 0, .bool false] : List Value).length = 7 from rfl)
    have l7 : lenIs (segC x) 7 = true := rfl
    simp +contextual (disch := omega) only [↓AM, ↓AV, AP, CQ, e0, hin, g1, r1, al, np, l7, eA, nA, nT]
    refine (c_CmpT (x := x.2.2.1) (y := (t1, t2))).use ?_
    rintro _ h4 w4 ⟨rfl, f4⟩
    rw [if_pos ⟨hsx.1.2, hv⟩, if_pos ⟨hsx.1.2, hv⟩]
    have gA4 := f4.keep wA gA (fun f => f)
    have nA4 : h4.rdN h3.size 0 7 = some (segC x) := rdN_mk gA4 (by simp [segC])
    have ow4 := (ow.keep w3 fA fun _ _ f => f).keep wA f4 fun _ _ f => f
    have f34 := fA.trans f4 fun _ _ f => f
    have nw4 := nw
    by_cases hle : leT x.2.2.1 (t1, t2)
    · have hth : thr (s.take (i + 1)) (t1, t2) = thr (s.take i) (t1, t2) ++ [x] := by
        rw [hts]; unfold thr; rw [List.filter_append]; simp [hle]
      have hle' : x.2.2.1.1 * t2 ≤ t1 * x.2.2.1.2 := hle
      have srcx : (h4.new ⟨segC x, .own⟩).src 7 (.slice (some ⟨h4.size, 0, none⟩) 1 1) = some (segC x) := src_new rfl
      simp +contextual (disch := omega) only [↓AM, ↓AV, AP, CQ, e0, cmpZ_le, hle', nA4, srcx, al, l7, np]
      refine ow4.push (m := 1) w4 rfl ?_ fun oa' cap' h5 o5 w5 f5 n5 => ?_
      · omega
      obtain ⟨p1, p2⟩ := grown (f3.trans f34 fun _ _ f => f) nw4 f5 n5
      simp +contextual (disch := omega) only [↓AM, ↓AV, AP, CQ, e0, i64]
      have hl1 : (thr (s.take (i + 1)) (t1, t2)).length = (thr (s.take i) (t1, t2)).length + 1 := by rw [hth, List.length_append]; rfl
      have ho5 : Ow h5 7 oa' (thr (s.take (i + 1)) (t1, t2)).length cap' ((thr (s.take (i + 1)) (t1, t2)).flatMap segC) := by
        rw [hl1, hth, List.flatMap_append, List.flatMap_cons, List.flatMap_nil, List.append_nil]; exact o5
      refine ⟨_, ?_, i + 1, oa', cap', w5, p1, by omega, rfl, p2, ho5, by rw [hl1]⟩
      omega
    · have hth : thr (s.take (i + 1)) (t1, t2) = thr (s.take i) (t1, t2) := by
        rw [hts]; unfold thr; rw [List.filter_append]; simp [hle]
      have hle' : ¬ x.2.2.1.1 * t2 ≤ t1 * x.2.2.1.2 := hle
      simp +contextual (disch := omega) only [↓AM, ↓AV, AP, CQ, e0, cmpZ_le, hle', i64]
      refine ⟨_, ?_, i + 1, o, cap, w4, f3.trans f34 fun _ _ f => f, by omega, rfl, nw, by rw [hth]; exact ow4, by rw [hth]⟩
      omega
  · have hie : i = s.length := by omega
    subst hie
    simp +contextual (disch := omega) only [↓AM, ↓AV, AP, CQ, e0, hin, i64]
    have ets : s.take s.length = s := List.take_of_length_le (Nat.le_refl _)
    rw [ets] at hthl ow ⊢
    have em : intMax [.int .i64 0, .int .i64 (((thr s (t1, t2)).length : Int) - keep)] = some (.int .i64 (((thr s (t1, t2)).length - keep.toNat : Nat) : Int)) := by
      have e2 : ∀ z, intMax [.int .i64 0, .int .i64 z] = some (.int .i64 (if z > 0 then z else 0)) := fun z => by simp [intMax]
      rw [e2]
      congr 2
      split <;> omega
    rcases o with _ | ⟨bo, oo, so⟩
    · have h1 := ow.nil rfl
      have h2 := ow.le
      have hL : (thr s (t1, t2)).length = 0 := by omega
      have hw : win s (t1, t2) keep = [] := by unfold win; rw [List.length_eq_zero_iff.1 hL, List.drop_nil]
      rw [hL] at em ⊢
      subst h1
      have em : intMax [.int .i64 0, .int .i64 (((0 : Nat) : Int) - keep)] = some (.int .i64 ((0 : Nat) : Int)) := by rw [em]; simp
      simp +contextual (disch := omega) only [↓AM, ↓AV, AP, CQ, em, bnds]
      rw [he, if_pos rfl, hw]
      exact ⟨Nat.le_refl _, f03, none, 0, rfl, fun _ => Rd.mk0⟩
    · have hs := ow.flag _ rfl
      have hle := ow.le
      have hcap : capOk so (thr s (t1, t2)).length cap := by cases so <;> simp [capOk]; omega
      have rd := (ow.rd).dropS (l := (thr s (t1, t2)).length - keep.toNat) hs (by omega) hle
      rw [flat_drop segC_len] at rd
      have hwl : (win s (t1, t2) keep).length = (thr s (t1, t2)).length - ((thr s (t1, t2)).length - keep.toNat) := by unfold win; rw [List.length_drop]
      simp +contextual (disch := omega) only [↓AM, ↓AV, AP, CQ, em, bnds, hs, hcap, Option.isNone]
      rw [he, if_pos rfl]
      refine ⟨by omega, f03, _, _, by rw [hwl], fun _ => ?_⟩
      rw [hwl]
      exact rd
end Go.Proofs.Ytbfbgkhlngkifaa.St

/- The program's window, and with which segment a client goes on. Plain theorems over the abstract machine.
   Conditions: none. -/
namespace Go.Proofs.Ytbfbgkhlngkifaa.St
open Go Go.RowKit Go.Proofs.Ytbfbgkhlngkifaa.Am Go.Proofs.Ytbfbgkhlngkifaa.Af Go.Proofs.Ytbfbgkhlngkifaa.Md Go.Proofs.Ytbfbgkhlngkifaa.Nu
set_option linter.unusedVariables false
set_option linter.unusedSimpArgs false
set_option linter.defProp false
set_option maxRecDepth 20000
set_option maxHeartbeats 1000000

/-- The first number of a window, and how many there are. -/
def wiN (R : List Sg) : Int := match R with
  | [] => 0
  | x :: _ => x.1
def wiR (e : Int) (R : List Sg) : Value := if e = 0 then .tuple #[.int .i64 (wiN R), .int .i64 (R.length : Int), .int .i64 0] else .tuple #[.int .i64 0, .int .i64 0, .int .i64 e]
theorem er_b (s : List Sg) (t : Tim) (keep : Int) : er s t keep = 0 ∨ er s t keep = 1 ∨ er s t keep = 4 := by
  unfold er
  split
  · split <;> simp
  · simp
theorem win_len (s : List Sg) (t : Tim) (keep : Int) : (win s t keep).length ≤ s.length := by
  unfold win thr
  rw [List.length_drop]
  have := List.length_filter_le (fun x => decide (leT x.2.2.1 t)) s
  omega
theorem eqI_f {a : Int} (h : a ≠ 0) : EqI a 0 = False := eq_false h
/-- The number of an element. -/
theorem num_at {h : Hp} {oa : Option Addr} {R : List Sg} (rd : Rd h 7 oa R.length (R.flatMap segC)) {i : Nat} (hi : i < R.length) : ∃ b off sp x, oa = some ⟨b, off, sp⟩ ∧ flagOk sp = true ∧ R[i]? = some x ∧ h.rd b (off + i * 7) = some (.int .i64 x.1) ∧ h.rdN b (off + i * 7) 7 = some (segC x) := by
  obtain ⟨b, off, sp, x, e, f1, hx, r1, r2⟩ := rd.elem segC_len rfl hi
  exact ⟨b, off, sp, x, e, f1, hx, r2 0 _ rfl, r1⟩
theorem c_Next1 {h : Hp} {x : Sg} {b : Nat} {last : Int} (hb : h.rd b 0 = some (.int .i64 last)) (hx : 1 ≤ x.1 ∧ x.1 ≤ 1000000) : ACalls Try.prog 43 ([] ++ [.agg (segC x).toArray] ++ [.pointer (some ⟨b, 0, none⟩)]) h fun v h' => v = .bool (decide (x.1 - 1 = last)) ∧ Fm No h h' := by
  refine stream_Next_1_ok.snd Af.hm rfl fun w => ?_
  show WF _ stream_Next_1 [.agg (segC x).toArray, .pointer (some ⟨b, 0, none⟩)] h _
  rw [WF_eq, stream_Next_1]
  obtain ⟨h0, e0⟩ : ∃ g, h.new ⟨segC x, .own⟩ = g := ⟨_, rfl⟩
  have f0 : Fm No h h0 := e0 ▸ Fm.new Fm.refl
  have g0 : h0.get h.size = some ⟨segC x, .own⟩ := e0 ▸ gnew
  have r0 : h0.rd h.size 0 = some (.int .i64 x.1) := rd_mk g0
  have rb : h0.rd b 0 = some (.int .i64 last) := (rd_keep (f0.get _ (rd_lt w hb) (fun f => f))).trans hb
  have al : allc (segC x) = true := rfl
  have sc0 : (segC x)[0]? = some (.int .i64 x.1) := rfl
  simp +contextual (disch := omega) only [↓AM, ↓AV, AP, CQ, i64, al, e0, r0, rb, sc0]
  exact ⟨congrArg Value.bool (decide_eq_decide.2 Iff.rfl), f0⟩
/-- With which segment a client goes on, and what it is told. -/
def nxt (R : List Sg) (last : Int) : Int × Int :=
  if R = [] then (0, 1) else if last = 0 then ((R.getLast?.map (·.1)).getD 0, 0) else if ∃ x ∈ R, x.1 - 1 = last then (last + 1, 0) else if last < wiN R - 1 then (wiN R, 2) else (0, 1)
def nxR (e : Int) (R : List Sg) (last : Int) : Value := if e = 0 then (if last < 0 then .tuple #[.int .i64 0, .int .i64 0, .int .i64 1] else .tuple #[.int .i64 (nxt R last).1, .int .i64 (nxt R last).2, .int .i64 0]) else .tuple #[.int .i64 0, .int .i64 0, .int .i64 e]
theorem win_mem {s : List Sg} {t : Tim} {keep : Int} {x : Sg} (h : x ∈ win s t keep) : x ∈ s ∧ leT x.2.2.1 t := by
  have := List.mem_of_mem_drop h
  have := List.mem_filter.1 this
  exact ⟨this.1, by simpa using this.2⟩
theorem c_Next {h : Hp} {oa : Option Addr} {c : Nat} {s : List Sg} {t : Tim} {keep last : Int} (ha : Rd h 7 oa s.length (s.flatMap segC)) (hn : s.length ≤ 1000000) (hnum : ∀ x ∈ s, 1 ≤ x.1 ∧ x.1 ≤ 1000000) :
    ACalls Try.prog 20 [.slice oa s.length c, .agg #[.int .i64 t.1, .int .i64 t.2], .int .i64 keep, .int .i64 last] h fun v h' => v = nxR (er s t keep) (win s t keep) last ∧ Fm No h h' := by
  refine stream_Next_ok.snd Af.hm rfl fun w => ?_
  rw [WF_eq, stream_Next]
  obtain ⟨t1, t2⟩ := t
  simp only at *
  obtain ⟨h0, e0⟩ : ∃ g, h.new ⟨[.int .i64 t1, .int .i64 t2], .own⟩ = g := ⟨_, rfl⟩
  obtain ⟨hL, eL⟩ : ∃ g, h0.new ⟨[.int .i64 last], .own⟩ = g := ⟨_, rfl⟩
  have w0 : Wf h0 := e0 ▸ w.new
  have wL : Wf hL := eL ▸ w0.new
  have f0 : Fm No h h0 := e0 ▸ Fm.new Fm.refl
  have fL : Fm No h0 hL := eL ▸ Fm.new Fm.refl
  have g0 : hL.get h.size = some ⟨[.int .i64 t1, .int .i64 t2], .own⟩ := fL.keep w0 (e0 ▸ gnew) (fun f => f)
  have gL : hL.get h0.size = some ⟨[.int .i64 last], .own⟩ := eL ▸ gnew
  have n0 : hL.rdN h.size 0 2 = some [.int .i64 t1, .int .i64 t2] := rdN_mk g0 (by simp)
  have fhL := f0.trans fL fun _ _ f => f
  simp +contextual (disch := omega) only [↓AM, ↓AV, AP, CQ, e0, eL, n0]
  refine (c_there (t := (t1, t2)) (keep := keep) (ha.keepW w fhL nNo) hn).use ?_
  rintro _ h1 w1 ⟨f1, a', c', rfl, hr⟩
  have fm := fhL.trans f1 fun _ _ f => f
  have rl : ∀ g : Hp, Fm No h1 g → g.rd h0.size 0 = some (.int .i64 last) := fun g fg => rd_mk (fg.keep w1 (f1.keep wL gL (fun f => f)) (fun f => f))
  have rl1 := rl h1 Fm.refl
  have hb := er_b s (t1, t2) keep
  have hwl := win_len s (t1, t2) keep
  have hmem : ∀ x ∈ win s (t1, t2) keep, 1 ≤ x.1 ∧ x.1 ≤ 1000000 := fun x hx => hnum x (win_mem hx).1
  generalize er s (t1, t2) keep = e at *
  generalize win s (t1, t2) keep = R at *
  by_cases he : e = 0
  case neg =>
    rw [if_neg he]
    have e1 : EqI e 0 = False := eq_false he
    simp +contextual (disch := omega) only [↓AM, ↓AV, AP, CQ, e0, eL, e1]
    exact ⟨by unfold nxR; rw [if_neg he], fm⟩
  subst he
  rw [if_pos rfl]
  have hr := hr rfl
  by_cases hneg : last < 0
  · simp +contextual (disch := omega) only [↓AM, ↓AV, AP, CQ, e0, eL, eqI_self, rl1, hneg]
    exact ⟨by unfold nxR; rw [if_pos rfl, if_pos hneg], fm⟩
  have hres : nxR 0 R last = .tuple #[.int .i64 (nxt R last).1, .int .i64 (nxt R last).2, .int .i64 0] := by unfold nxR; rw [if_pos rfl, if_neg hneg]
  rw [hres]
  rcases Nat.eq_zero_or_pos R.length with h0' | h0'
  · have hR : R = [] := List.length_eq_zero_iff.1 h0'
    subst hR
    have e0' : EqI ((([] : List Sg).length : Nat) : Int) 0 = True := eqI_self
    simp +contextual (disch := omega) only [↓AM, ↓AV, AP, CQ, e0, eL, eqI_self, e0', rl1, hneg]
    exact ⟨rfl, fm⟩
  have hRn : R ≠ [] := fun q => by rw [q] at h0'; simp at h0'
  have e1 : EqI ((R.length : Nat) : Int) 0 = False := eq_false (by unfold EqI; omega)
  by_cases hl0 : last = 0
  · obtain ⟨b, off, sp, x, rfl, g1, hx, r1, -⟩ := num_at hr (show R.length - 1 < R.length by omega)
    have e2 : EqI last 0 = True := eq_true hl0
    have e3 : ((R.length : Int) - 1) = ((R.length - 1 : Nat) : Int) := by omega
    have e4 : R.length - 1 < R.length := by omega
    simp +contextual (disch := omega) only [↓AM, ↓AV, AP, CQ, e0, eL, eqI_self, e1, e2, e3, e4, rl1, hneg, i64, g1, r1]
    refine ⟨?_, fm⟩
    have : nxt R last = (x.1, 0) := by
      unfold nxt
      rw [if_neg hRn, if_pos hl0, List.getLast?_eq_getElem?, hx]
      rfl
    rw [this]
  have e2 : EqI last 0 = False := eq_false hl0
  simp +contextual (disch := omega) only [↓AM, ↓AV, AP, CQ, e0, eL, eqI_self, e1, e2, rl1, hneg, i64]
  refine (c_ContainsSeg (us := #[]) (vs := #[.pointer (some ⟨h0.size, 0, none⟩)]) (p := fun x => decide (x.1 - 1 = last)) hr rfl (by omega) stream_Next_1_ok.2 (fun x hx h' fg => c_Next1 (rl h' fg) (hmem x hx))).use ?_
  rintro _ h2 w2 ⟨rfl, f2⟩
  have fm2 := fm.trans f2 fun _ _ f => f
  have rl2 := rl h2 f2
  have hany : (R.any fun x => decide (x.1 - 1 = last)) = decide (∃ x ∈ R, x.1 - 1 = last) := by
    by_cases hex : ∃ x ∈ R, x.1 - 1 = last
    · rw [decide_eq_true hex]
      obtain ⟨x, hx, hx2⟩ := hex
      exact List.any_eq_true.2 ⟨x, hx, by simp [hx2]⟩
    · rw [decide_eq_false hex]
      refine Bool.eq_false_iff.2 fun q => hex ?_
      obtain ⟨x, hx, hx2⟩ := List.any_eq_true.1 q
      exact ⟨x, hx, by simpa using hx2⟩
  rw [hany]
  by_cases hex : ∃ x ∈ R, x.1 - 1 = last
  · have hlb : last ≤ 1000000 := by
      obtain ⟨x, hx, hx2⟩ := hex
      have := hmem x hx
      omega
    have hnx : nxt R last = (last + 1, 0) := by unfold nxt; rw [if_neg hRn, if_neg hl0, if_pos hex]
    rw [decide_eq_true hex, hnx]
    simp +contextual (disch := omega) only [↓AM, ↓AV, AP, CQ, e0, eL, rl2, i64]
    exact fm2
  · rw [decide_eq_false hex]
    obtain ⟨b, off, sp, x, rfl, g1, hx, r1, -⟩ := num_at (hr.keepW w1 f2 nNo) h0'
    simp only [Nat.zero_mul, Nat.add_zero] at r1
    have hx1 := hmem x (List.mem_of_getElem? hx)
    have hw : wiN R = x.1 := by
      cases R with
      | nil => simp at h0'
      | cons y R => cases hx; rfl
    have hnx : nxt R last = if last < x.1 - 1 then (x.1, 2) else (0, 1) := by unfold nxt; rw [if_neg hRn, if_neg hl0, if_neg hex, hw]
    rw [hnx]
    by_cases hlt : last < x.1 - 1
    · rw [if_pos hlt]
      simp +contextual (disch := omega) only [↓AM, ↓AV, AP, CQ, e0, eL, rl2, i64, g1, r1, h0', hlt]
      exact ⟨by omega, by omega, fm2⟩
    · rw [if_neg hlt]
      simp +contextual (disch := omega) only [↓AM, ↓AV, AP, CQ, e0, eL, rl2, i64, g1, r1, h0', hlt]
      exact ⟨by omega, fm2⟩
end Go.Proofs.Ytbfbgkhlngkifaa.St

/- The document's next segment; live segments. Plain theorems over the abstract machine.
   Conditions: none. -/
namespace Go.Proofs.Ytbfbgkhlngkifaa.St
open Go Go.RowKit Go.Proofs.Ytbfbgkhlngkifaa.Am Go.Proofs.Ytbfbgkhlngkifaa.Af Go.Proofs.Ytbfbgkhlngkifaa.Md Go.Proofs.Ytbfbgkhlngkifaa.Nu
set_option linter.unusedVariables false
set_option linter.unusedSimpArgs false
set_option linter.defProp false
set_option maxRecDepth 20000
set_option maxHeartbeats 1000000
def Rise (R : List Sg) : Prop := R.Pairwise fun x y => x.1 < y.1
def Nums (s : List Sg) : Prop := ∀ (i : Nat) (x : Sg), s[i]? = some x → x.1 = (i : Int) + 1
theorem Nums.rise {s : List Sg} (h : Nums s) : Rise s := by
  unfold Rise
  refine List.pairwise_iff_getElem.2 fun i j hi hj hij => ?_
  have h1 := h i _ (List.getElem?_eq_getElem hi)
  have h2 := h j _ (List.getElem?_eq_getElem hj)
  omega
theorem Nums.bound {s : List Sg} (h : Nums s) (hn : s.length ≤ 1000000) : ∀ x ∈ s, 1 ≤ x.1 ∧ x.1 ≤ 1000000 := fun x hx => by
  obtain ⟨i, hi, rfl⟩ := List.getElem_of_mem hx
  have := h i _ (List.getElem?_eq_getElem hi)
  omega
end Go.Proofs.Ytbfbgkhlngkifaa.St

/- Segments of a law's argument. Plain theorems over the abstract machine.
   Conditions: none. -/
namespace Go.Proofs.Ytbfbgkhlngkifaa.St
open Go Go.RowKit Go.Proofs.Ytbfbgkhlngkifaa.Am Go.Proofs.Ytbfbgkhlngkifaa.Af Go.Proofs.Ytbfbgkhlngkifaa.Md Go.Proofs.Ytbfbgkhlngkifaa.Nu
set_option linter.unusedVariables false
set_option linter.unusedSimpArgs false
set_option maxRecDepth 20000

def segK := AKd.pair (AKd.int .i64) (AKd.pair (AKd.pair (AKd.pair (AKd.int .i64) (AKd.int .i64)) (AKd.pair (AKd.int .i64) (AKd.int .i64))) (AKd.pair (AKd.slice (AKd.int .u8)) AKd.bool))
abbrev SegA := Int × ((Int × Int) × (Int × Int)) × List Int × Bool
theorem seg_open {h : Hp} {x : SegA} {cs : List Value} (a : segK.A h x cs) : ∃ y : Sg, cs = segC y := by
  obtain ⟨m, ⟨⟨f1, f2⟩, t1, t2⟩, d, b⟩ := x
  obtain ⟨c1, c2, rfl, a1, c3, c4, rfl, ⟨c5, c6, rfl, ⟨c7, c8, rfl, a2, a3⟩, c9, c10, rfl, a4, a5⟩, c11, c12, rfl, ⟨oa, c, r, rfl, -⟩, a6⟩ := a
  have a1 : c1 = [.int .i64 m] := a1
  have a2 : c7 = [.int .i64 f1] := a2
  have a3 : c8 = [.int .i64 f2] := a3
  have a4 : c9 = [.int .i64 t1] := a4
  have a5 : c10 = [.int .i64 t2] := a5
  have a6 : c12 = [.bool b] := a6
  subst a1 a2 a3 a4 a5 a6
  exact ⟨(m, (f1, f2), (t1, t2), (oa, d.length, c), b), rfl⟩
theorem segs_open {h : Hp} : ∀ {xs : List SegA} {r : List Value}, AKd.Row (segK.A h) xs r → ∃ s : List Sg, r = s.flatMap segC ∧ s.length = xs.length
  | [], r, e => ⟨[], e, rfl⟩
  | x :: xs, r, ⟨c, r', e, h1, h2⟩ => by
    obtain ⟨y, rfl⟩ := seg_open h1
    obtain ⟨s, rfl, hs⟩ := segs_open h2
    exact ⟨y :: s, e, by simp [hs]⟩
theorem wiR_tuple (e : Int) (R : List Sg) : ∃ a b c, wiR e R = .tuple #[.int .i64 a, .int .i64 b, .int .i64 c] := by
  unfold wiR
  split
  · exact ⟨_, _, _, rfl⟩
  · exact ⟨_, _, _, rfl⟩
theorem nxR_tuple (e : Int) (R : List Sg) (last : Int) : ∃ a b c, nxR e R last = .tuple #[.int .i64 a, .int .i64 b, .int .i64 c] := by
  unfold nxR
  split
  · split
    · exact ⟨_, _, _, rfl⟩
    · exact ⟨_, _, _, rfl⟩
  · exact ⟨_, _, _, rfl⟩
end Go.Proofs.Ytbfbgkhlngkifaa.St

/- What a client takes at some times: plain words; two growing rows. Plain theorems over the abstract machine.
   Conditions: none. -/
namespace Go.Proofs.Ytbfbgkhlngkifaa.St
open Go Go.RowKit Go.Proofs.Ytbfbgkhlngkifaa.Am Go.Proofs.Ytbfbgkhlngkifaa.Af Go.Proofs.Ytbfbgkhlngkifaa.Md Go.Proofs.Ytbfbgkhlngkifaa.Nu
set_option linter.unusedVariables false
set_option linter.unusedSimpArgs false
set_option linter.defProp false
set_option maxRecDepth 20000
set_option maxHeartbeats 1000000

abbrev Tk := List Int × List Int × Int
def fstep (s : List Sg) (keep : Int) (z : Tk) (t : Tim) : Tk :=
  if (nxt (win s t keep) z.2.2).2 = 1 then z else (z.1 ++ [(nxt (win s t keep) z.2.2).1], (if (nxt (win s t keep) z.2.2).2 = 2 then z.2.1 ++ [(z.1.length : Int)] else z.2.1), (nxt (win s t keep) z.2.2).1)
def fol (s : List Sg) (keep : Int) (ts : List Tim) : Tk := ts.foldl (fstep s keep) ([], [], 0)
theorem fol_snoc (s : List Sg) (keep : Int) (ts : List Tim) (t : Tim) : fol s keep (ts ++ [t]) = fstep s keep (fol s keep ts) t := by
  unfold fol; rw [List.foldl_append]; rfl
/-- The times are valid and rise. -/
def TOK (ts : List Tim) : Prop := ∀ (i : Nat) (t : Tim), ts[i]? = some t → VT t ∧ ∀ u, 0 < i → ts[i - 1]? = some u → u.1 * t.2 < t.1 * u.2
theorem nxt_gt {R : List Sg} {last : Int} (hm : ∀ x ∈ R, 1 ≤ x.1) (hl : 0 ≤ last) (hk : (nxt R last).2 ≠ 1) : last < (nxt R last).1 := by
  unfold nxt at hk ⊢
  by_cases h1 : R = []
  · rw [if_pos h1] at hk; exact absurd rfl hk
  · rw [if_neg h1] at hk ⊢
    by_cases h2 : last = 0
    · rw [if_pos h2]
      have : R.getLast? = some (R.getLast h1) := List.getLast?_eq_some_getLast h1
      rw [this]
      have := hm _ (List.getLast_mem h1)
      show last < (R.getLast h1).1
      omega
    · rw [if_neg h2] at hk ⊢
      by_cases h3 : ∃ x ∈ R, x.1 - 1 = last
      · rw [if_pos h3]; show last < last + 1; omega
      · rw [if_neg h3] at hk ⊢
        by_cases h4 : last < wiN R - 1
        · rw [if_pos h4]; show last < wiN R; omega
        · rw [if_neg h4] at hk; exact absurd rfl hk
theorem nxt_small {R : List Sg} {last : Int} (hm : ∀ x ∈ R, 1 ≤ x.1 ∧ x.1 ≤ 1000000) (hl : 0 ≤ last ∧ last ≤ 1000000) : 0 ≤ (nxt R last).1 ∧ (nxt R last).1 ≤ 1000000 := by
  unfold nxt
  split
  · decide
  · rename_i h1
    split
    · have : R.getLast? = some (R.getLast h1) := List.getLast?_eq_some_getLast h1
      rw [this]
      have := hm _ (List.getLast_mem h1)
      show 0 ≤ (R.getLast h1).1 ∧ (R.getLast h1).1 ≤ 1000000
      omega
    · split
      · rename_i h3
        obtain ⟨x, hx, h4⟩ := h3
        have := hm x hx
        show 0 ≤ last + 1 ∧ last + 1 ≤ 1000000
        omega
      · split
        · cases R with
          | nil => exact absurd rfl h1
          | cons y R =>
            have := hm y (by simp)
            show 0 ≤ y.1 ∧ y.1 ≤ 1000000
            omega
        · decide
/-- What is taken rises, and is at most the last. -/
structure FolOk (z : Tk) (n : Nat) : Prop where
  nn : 0 ≤ z.2.2 ∧ z.2.2 ≤ 1000000
  le : ∀ x ∈ z.1, x ≤ z.2.2
  up : z.1.Pairwise fun x y => x < y
  l1 : z.1.length ≤ n
  l2 : z.2.1.length ≤ n
theorem FolOk.step {s : List Sg} {keep : Int} {z : Tk} {n : Nat} {t : Tim} (f : FolOk z n) (hm : ∀ x ∈ win s t keep, 1 ≤ x.1 ∧ x.1 ≤ 1000000) : FolOk (fstep s keep z t) (n + 1) := by
  unfold fstep
  by_cases h : (nxt (win s t keep) z.2.2).2 = 1
  · rw [if_pos h]; exact ⟨f.nn, f.le, f.up, by have := f.l1; omega, by have := f.l2; omega⟩
  · rw [if_neg h]
    have hg := nxt_gt (fun x hx => (hm x hx).1) f.nn.1 h
    have hs := nxt_small hm f.nn
    refine ⟨hs, ?_, ?_, by simp; exact f.l1, ?_⟩
    · intro x hx
      rcases List.mem_append.1 hx with hx | hx
      · have := f.le x hx
        show x ≤ (nxt (win s t keep) z.2.2).1
        omega
      · rw [List.mem_singleton.1 hx]; exact Int.le_refl _
    · rw [List.pairwise_append]
      refine ⟨f.up, by simp, fun x hx y hy => ?_⟩
      rw [List.mem_singleton.1 hy]
      have := f.le x hx
      omega
    · show (if _ then _ else _ : List Int).length ≤ _
      split
      · simp; exact f.l2
      · have := f.l2; omega
theorem fol_ok {s : List Sg} {keep : Int} (hm : ∀ x ∈ s, 1 ≤ x.1 ∧ x.1 ≤ 1000000) (ts : List Tim) : ∀ i, FolOk (fol s keep (ts.take i)) i
  | 0 => ⟨by simp [fol], by simp [fol], by simp [fol], by simp [fol], by simp [fol]⟩
  | i + 1 => by
    rw [List.take_add_one]
    cases h : ts[i]? with
    | none =>
      rw [Option.toList_none, List.append_nil]
      have f := fol_ok (keep := keep) hm ts i
      exact ⟨f.nn, f.le, f.up, by have := f.l1; omega, by have := f.l2; omega⟩
    | some t =>
      rw [Option.toList_some, fol_snoc]
      exact (fol_ok hm ts i).step fun x hx => hm x (win_mem hx).1
def iV (L : List Int) : List Value := L.map (Value.int .i64)
/-- Two rows of numbers that grow. -/
structure Gr (h0 h : Hp) (o1 : Option Addr) (c1 : Nat) (L1 : List Int) (o2 : Option Addr) (c2 : Nat) (L2 : List Int) : Prop where
  n1 : Nw h0 o1
  n2 : Nw h0 o2
  w1 : Ow h 1 o1 L1.length c1 (iV L1)
  w2 : Ow h 1 o2 L2.length c2 (iV L2)
  ne : ∀ x, At o1 x → ¬ At o2 x
theorem Gr.mk0 {h0 h : Hp} : Gr h0 h none 0 [] none 0 [] := ⟨Nw.none, Nw.none, Ow.mk0, Ow.mk0, fun x hx => absurd hx At.none⟩
theorem Gr.keep {h0 h h' : Hp} {o1 o2 : Option Addr} {c1 c2 : Nat} {L1 L2 : List Int} (g : Gr h0 h o1 c1 L1 o2 c2 L2) (w : Wf h) (f : Fm No h h') : Gr h0 h' o1 c1 L1 o2 c2 L2 :=
  ⟨g.n1, g.n2, g.w1.keep w f fun _ _ f => f, g.w2.keep w f fun _ _ f => f, g.ne⟩
theorem Gr.push1 {h0 h h' : Hp} {o1 o2 o' : Option Addr} {c1 c2 c' : Nat} {L1 L2 : List Int} {d : Int} (g : Gr h0 h o1 c1 L1 o2 c2 L2) (w : Wf h) (fm : Fm No h0 h) (o : Ow h' 1 o' (L1.length + 1) c' (iV L1 ++ [.int .i64 d])) (f : Fm (At o1) h h') (n : ∀ x, At o' x → At o1 x ∨ h.size ≤ x) :
    Gr h0 h' o' c' (L1 ++ [d]) o2 c2 L2 ∧ Fm No h0 h' := by
  obtain ⟨g1, g2⟩ := grown fm g.n1 f n
  refine ⟨⟨g2, g.n2, ?_, g.w2.keep w f fun x hx hy => g.ne x hy hx, fun x hx hy => ?_⟩, g1⟩
  · rw [List.length_append]; simp only [iV, List.map_append]; exact o
  · rcases n x hx with h1 | h1
    · exact g.ne x h1 hy
    · have := g.w2.lt w x hy; omega
theorem Gr.push2 {h0 h h' : Hp} {o1 o2 o' : Option Addr} {c1 c2 c' : Nat} {L1 L2 : List Int} {d : Int} (g : Gr h0 h o1 c1 L1 o2 c2 L2) (w : Wf h) (fm : Fm No h0 h) (o : Ow h' 1 o' (L2.length + 1) c' (iV L2 ++ [.int .i64 d])) (f : Fm (At o2) h h') (n : ∀ x, At o' x → At o2 x ∨ h.size ≤ x) :
    Gr h0 h' o1 c1 L1 o' c' (L2 ++ [d]) ∧ Fm No h0 h' := by
  obtain ⟨g1, g2⟩ := grown fm g.n2 f n
  refine ⟨⟨g.n1, g2, g.w1.keep w f fun x hx hy => g.ne x hx hy, ?_, fun x hx hy => ?_⟩, g1⟩
  · rw [List.length_append]; simp only [iV, List.map_append]; exact o
  · rcases n x hy with h1 | h1
    · exact g.ne x hx h1
    · have := g.w1.lt w x hx; omega
theorem c_EqInts {h : Hp} {a b : Option Addr} {c d : Nat} {L : List Int} (ra : Rd h 1 a L.length (iV L)) (rb : Rd h 1 b L.length (iV L)) (hn : L.length ≤ 1000000) :
    ACalls Try.prog 14 [.slice a L.length c, .slice b L.length d] h fun v h' => v = .bool true ∧ h' = h := by
  refine dioramaref00_EqInts_ok.snd Af.hm rfl fun w => ?_
  rw [WF_eq, dioramaref00_EqInts]
  simp +contextual (disch := omega) only [↓AM, ↓AV, AP, CQ, eqI_self]
  refine WL.mk (fun k u h' => ∃ i : Nat, h' = h ∧ i ≤ L.length ∧ k = L.length - i ∧ u = [(0, some (.slice a L.length c)), (1, some (.slice b L.length d)), (5, some (.int .i64 (i : Int)))]) ⟨L.length, 0, rfl, by omega, rfl, rfl⟩ ?_
  rintro k u _ ⟨i, rfl, hi, rfl, rfl⟩
  by_cases hin : i < L.length
  · obtain ⟨b1, o1, s1, rfl, f1, x, hx, r1⟩ := Rd.int ra hin
    obtain ⟨b2, o2, s2, rfl, f2, y, hy, r2⟩ := Rd.int rb hin
    rw [hx] at hy
    cases hy
    simp +contextual (disch := omega) only [↓AM, ↓AV, AP, CQ, hin, f1, f2, r1, r2, eqI_self, i64]
    first
      | exact ⟨L.length - (i + 1), by omega, i + 1, by omega, rfl⟩
      | exact ⟨L.length - (i + 1), by omega, i + 1, by omega, rfl, rfl⟩
      | exact ⟨L.length - (i + 1), by omega, i + 1, rfl, by omega, rfl, rfl⟩
  · simp +contextual (disch := omega) only [↓AM, ↓AV, AP, CQ, hin]
end Go.Proofs.Ytbfbgkhlngkifaa.St

/- What the program's client takes. Plain theorems over the abstract machine.
   Conditions: none. -/
namespace Go.Proofs.Ytbfbgkhlngkifaa.St
open Go Go.RowKit Go.Proofs.Ytbfbgkhlngkifaa.Am Go.Proofs.Ytbfbgkhlngkifaa.Af Go.Proofs.Ytbfbgkhlngkifaa.Md Go.Proofs.Ytbfbgkhlngkifaa.Nu
set_option linter.unusedVariables false
set_option linter.unusedSimpArgs false
set_option linter.defProp false
set_option maxRecDepth 20000
set_option maxHeartbeats 1000000

theorem cmpZ_ge {a b : Int} : (0 ≤ cmpZ a b) = (b ≤ a) := by
  unfold cmpZ
  split
  · simp; omega
  · split <;> simp <;> omega
/-- What comes of following. -/
structure FolP (s : List Sg) (keep : Int) (ts : List Tim) (L1 L2 : List Int) (e : Int) : Prop where
  bad : ¬ TOK ts → e = 4 ∧ L1 = [] ∧ L2 = []
  err : TOK ts → er s (0, 1) keep ≠ 0 → e = er s (0, 1) keep ∧ L1 = [] ∧ L2 = []
  ok : TOK ts → er s (0, 1) keep = 0 → e = 0 ∧ L1 = (fol s keep ts).1 ∧ L2 = (fol s keep ts).2.1
theorem FolP.same {s : List Sg} {keep : Int} {ts : List Tim} {L1 L2 M1 M2 : List Int} {e f : Int} (a : FolP s keep ts L1 L2 e) (b : FolP s keep ts M1 M2 f) : L1 = M1 ∧ L2 = M2 ∧ e = f := by
  rcases Classical.em (TOK ts) with h | h
  · rcases Classical.em (er s (0, 1) keep = 0) with h2 | h2
    · obtain ⟨a1, a2, a3⟩ := a.ok h h2
      obtain ⟨b1, b2, b3⟩ := b.ok h h2
      exact ⟨by rw [a2, b2], by rw [a3, b3], by rw [a1, b1]⟩
    · obtain ⟨a1, a2, a3⟩ := a.err h h2
      obtain ⟨b1, b2, b3⟩ := b.err h h2
      exact ⟨by rw [a2, b2], by rw [a3, b3], by rw [a1, b1]⟩
  · obtain ⟨a1, a2, a3⟩ := a.bad h
    obtain ⟨b1, b2, b3⟩ := b.bad h
    exact ⟨by rw [a2, b2], by rw [a3, b3], by rw [a1, b1]⟩
theorem er_all {s : List Sg} {keep : Int} {t u : Tim} (h : er s t keep = 0) (hu : VT u) : er s u keep = 0 := by
  unfold er at h ⊢
  by_cases q : VT t ∧ ∀ x ∈ s, SO x
  · rw [if_pos q] at h
    rw [if_pos ⟨hu, q.2⟩]
    exact h
  · rw [if_neg q] at h; omega
theorem er_cond {s : List Sg} {keep : Int} {t : Tim} (he : er s t keep = 0) : (VT t ∧ ∀ x ∈ s, SO x) ∧ (1 ≤ keep ∧ keep ≤ 60) := by
  unfold er at he
  by_cases q : VT t ∧ ∀ x ∈ s, SO x
  · rw [if_pos q] at he
    by_cases q2 : 1 ≤ keep ∧ keep ≤ 60
    · exact ⟨q, q2⟩
    · rw [if_neg q2] at he; omega
  · rw [if_neg q] at he; omega
theorem tok_bad {ts : List Tim} {i : Nat} {t : Tim} (h : ts[i]? = some t) (hb : ¬ VT t) : ¬ TOK ts := fun q => hb (q i t h).1
theorem tok_bad2 {ts : List Tim} {i : Nat} {t u : Tim} (h : ts[i]? = some t) (hi : 0 < i) (hu : ts[i - 1]? = some u) (hb : ¬ u.1 * t.2 < t.1 * u.2) : ¬ TOK ts := fun q => hb ((q i t h).2 u hi hu)
theorem c_Follow {h : Hp} {oa ta : Option Addr} {c d : Nat} {s : List Sg} {ts : List Tim} {keep : Int} (ha : Rd h 7 oa s.length (s.flatMap segC)) (ht : Rd h 2 ta ts.length (ts.flatMap timC)) (hn : s.length ≤ 1000000) (hm : ts.length ≤ 1000000) (hnum : ∀ x ∈ s, 1 ≤ x.1 ∧ x.1 ≤ 1000000) :
    ACalls Try.prog 7 [.slice oa s.length c, .slice ta ts.length d, .int .i64 keep] h fun v h' => Fm No h h' ∧ ∃ o1 c1 o2 c2 L1 L2 e, v = .tuple #[.slice o1 L1.length c1, .slice o2 L2.length c2, .int .i64 e] ∧ Rd h' 1 o1 L1.length (iV L1) ∧ Rd h' 1 o2 L2.length (iV L2) ∧ FolP s keep ts L1 L2 e := by
  refine stream_Follow_ok.snd Af.hm rfl fun w => ?_
  rw [WF_eq, stream_Follow]
  simp +contextual (disch := omega) only [↓AM, ↓AV, AP, CQ]
  have bad : ∀ g : Hp, Fm No h g → ¬ TOK ts → Fm No h g ∧ ∃ o1 c1 o2 c2 L1 L2 e, Value.tuple #[.slice none 0 0, .slice none 0 0, .int .i64 4] = .tuple #[.slice o1 L1.length c1, .slice o2 L2.length c2, .int .i64 e] ∧ Rd g 1 o1 L1.length (iV L1) ∧ Rd g 1 o2 L2.length (iV L2) ∧ FolP s keep ts L1 L2 e :=
    fun g fg hb => ⟨fg, none, 0, none, 0, [], [], 4, rfl, Rd.mk0, Rd.mk0, fun _ => ⟨rfl, rfl, rfl⟩, fun q => absurd q hb, fun q => absurd q hb⟩
  refine WL.mk (fun k u h' => ∃ i : Nat, Wf h' ∧ Fm No h h' ∧ i ≤ ts.length ∧ k = ts.length - i ∧ (∀ (j : Nat) (t : Tim), j < i → ts[j]? = some t → VT t ∧ ∀ u, 0 < j → ts[j - 1]? = some u → u.1 * t.2 < t.1 * u.2) ∧
      u = [(0, some (.slice oa s.length c)), (1, some (.slice ta ts.length d)), (2, some (.int .i64 keep)), (23, some (.slice ta ts.length d)), (24, some (.int .i64 (ts.length : Int))), (25, some (.int .i64 (i : Int)))]) ⟨ts.length, 0, w, Fm.refl, by omega, rfl, fun j t hj => by omega, rfl⟩ ?_
  rintro k u h2 ⟨i, w2, f2, hi, rfl, hall, rfl⟩
  by_cases hin : i < ts.length
  · obtain ⟨b1, o1, s1, t, rfl, g1, hx, r1, -⟩ := (ht.keepW w f2 nNo).elem timC_len rfl hin
    obtain ⟨hA, eA⟩ : ∃ g, h2.new ⟨timC t, .own⟩ = g := ⟨_, rfl⟩
    have wA : Wf hA := eA ▸ w2.new
    have fA : Fm No h2 hA := eA ▸ Fm.new Fm.refl
    have f2A := f2.trans fA fun _ _ f => f
    have gA : hA.get h2.size = some ⟨[.int .i64 t.1, .int .i64 t.2], .own⟩ := eA ▸ gnew
    have rds : ∀ g : Hp, Fm No hA g → g.rdN h2.size 0 2 = some [.int .i64 t.1, .int .i64 t.2] := fun g fg => rdN_mk (fg.keep wA gA (fun f => f)) (by simp)
    have nA := rds hA Fm.refl
    simp only [timC] at r1 eA
    simp +contextual (disch := omega) only [↓AM, ↓AV, AP, CQ, hin, g1, r1, eA, nA]
    refine (c_Valid (x := t)).use ?_
    rintro _ h3 w3 ⟨rfl, f3⟩
    have f23 := f2A.trans f3 fun _ _ f => f
    by_cases hv : VT t
    case neg =>
      simp +contextual (disch := omega) only [↓AM, ↓AV, AP, CQ, eA, hv]
      exact bad h3 f23 (tok_bad hx hv)
    have n3 := rds h3 f3
    cases i with
    | zero =>
      have e6 : ((0 : Int) < ((0 : Nat) : Int)) = False := by simp
      simp +contextual (disch := omega) only [↓AM, ↓AV, AP, CQ, eA, hv, e6, i64]
      refine ⟨ts.length - 1, by omega, 1, w3, f23, by omega, rfl, fun j t' hj ht' => ?_, rfl⟩
      have : j = 0 := by omega
      subst this
      rw [hx] at ht'
      cases ht'
      exact ⟨hv, fun u h0 => by omega⟩
    | succ i =>
      have e6 : ((0 : Int) < (((i + 1 : Nat)) : Int)) = True := eq_true (by omega)
      obtain ⟨b2, o2, s2, y, e, g2, hy, q1, -⟩ := (ht.keepW w f23 nNo).elem timC_len rfl (show i < ts.length by omega)
      cases e
      have hin2 : i < ts.length := by omega
      have hvy := (hall i y (by omega) hy).1
      simp only [timC] at q1
      simp +contextual (disch := omega) only [↓AM, ↓AV, AP, CQ, eA, hv, e6, i64, hin2, g1, q1, n3]
      refine (c_CmpT (x := y) (y := t)).use ?_
      rintro _ h4 w4 ⟨rfl, f4⟩
      rw [if_pos ⟨hvy, hv⟩, if_pos ⟨hvy, hv⟩]
      have f24 := f23.trans f4 fun _ _ f => f
      by_cases hge : t.1 * y.2 ≤ y.1 * t.2
      · simp +contextual (disch := omega) only [↓AM, ↓AV, AP, CQ, eA, cmpZ_ge, hge]
        exact bad h4 f24 (tok_bad2 hx (by omega) (by simpa using hy) (by omega))
      · simp +contextual (disch := omega) only [↓AM, ↓AV, AP, CQ, eA, cmpZ_ge, hge, i64]
        refine ⟨ts.length - (i + 1 + 1), by omega, i + 1 + 1, w4, f24, by omega, rfl, fun j t' hj ht' => ?_, rfl⟩
        rcases Nat.lt_or_ge j (i + 1) with hlt | hge'
        · exact hall j t' hlt ht'
        · have : j = i + 1 := by omega
          subst this
          rw [hx] at ht'
          cases ht'
          refine ⟨hv, fun u h0 hu => ?_⟩
          rw [show i + 1 - 1 = i by omega, hy] at hu
          cases hu
          omega
  have htok : TOK ts := fun j t hj => hall j t (by have := (List.getElem?_eq_some_iff.1 hj).1; omega) hj
  simp +contextual (disch := omega) only [↓AM, ↓AV, AP, CQ, hin]
  refine (c_there (t := (0, 1)) (keep := keep) (ha.keepW w f2 nNo) hn).use ?_
  rintro _ h3 w3 ⟨f3, a', c', rfl, -⟩
  have f23 := f2.trans f3 fun _ _ f => f
  by_cases he : er s (0, 1) keep = 0
  case neg =>
    have e1 : EqI (er s (0, 1) keep) 0 = False := eq_false he
    simp +contextual (disch := omega) only [↓AM, ↓AV, AP, CQ, e1]
    exact ⟨f23, none, 0, none, 0, [], [], _, rfl, Rd.mk0, Rd.mk0, fun q => absurd htok q, fun _ _ => ⟨rfl, rfl, rfl⟩, fun _ q => absurd q he⟩
  have e1 : EqI (er s (0, 1) keep) 0 = True := eq_true he
  simp +contextual (disch := omega) only [↓AM, ↓AV, AP, CQ, e1]
  refine WL.mk (fun k u h' => ∃ (i : Nat) (p1 : Option Addr) (q1 : Nat) (p2 : Option Addr) (q2 : Nat), Wf h' ∧ Fm No h h' ∧ i ≤ ts.length ∧ k = ts.length - i ∧ Gr h h' p1 q1 (fol s keep (ts.take i)).1 p2 q2 (fol s keep (ts.take i)).2.1 ∧
      u = [(0, some (.slice oa s.length c)), (2, some (.int .i64 keep)), (15, some (.slice p1 (fol s keep (ts.take i)).1.length q1)), (16, some (.slice p2 (fol s keep (ts.take i)).2.1.length q2)), (17, some (.int .i64 (fol s keep (ts.take i)).2.2)), (58, some (.slice ta ts.length d)), (59, some (.int .i64 (ts.length : Int))), (60, some (.int .i64 (i : Int)))])
    ⟨ts.length, 0, none, 0, none, 0, w3, f23, by omega, rfl, by simp [fol]; exact Gr.mk0, by simp [fol]⟩ ?_
  rintro k u h4 ⟨i, p1, q1, p2, q2, w4, f4, hi, rfl, gr, rfl⟩
  have fok := fol_ok (keep := keep) hnum ts i
  by_cases hin : i < ts.length
  case neg =>
    have hie : i = ts.length := by omega
    have ets : ts.take i = ts := List.take_of_length_le (by omega)
    rw [ets] at gr ⊢
    simp +contextual (disch := omega) only [↓AM, ↓AV, AP, CQ, hin]
    exact ⟨f4, p1, q1, p2, q2, _, _, 0, rfl, gr.w1.rd, gr.w2.rd, fun q => absurd htok q, fun _ q => absurd he q, fun _ _ => ⟨rfl, rfl, rfl⟩⟩
  obtain ⟨b1, o1, s1, t, rfl, g1, hx, r1, -⟩ := (ht.keepW w f4 nNo).elem timC_len rfl hin
  have hv := (htok i t hx).1
  have het := er_all he hv
  have efs : fol s keep (ts.take (i + 1)) = fstep s keep (fol s keep (ts.take i)) t := by rw [List.take_add_one, hx, Option.toList_some, fol_snoc]
  have fok1 := fol_ok (keep := keep) hnum ts (i + 1)
  rw [efs] at fok1
  generalize hz : fol s keep (ts.take i) = z at *
  obtain ⟨L1, L2, last⟩ := z
  simp only at gr fok efs fok1 ⊢
  have hl0 : 0 ≤ last ∧ last ≤ 1000000 := fok.nn
  have hL1 : L1.length ≤ i := fok.l1
  have hL2 : L2.length ≤ i := fok.l2
  obtain ⟨hA, eA⟩ : ∃ g, h4.new ⟨timC t, .own⟩ = g := ⟨_, rfl⟩
  have wA : Wf hA := eA ▸ w4.new
  have fA : Fm No h4 hA := eA ▸ Fm.new Fm.refl
  have f4A := f4.trans fA fun _ _ f => f
  have nA : hA.rdN h4.size 0 2 = some [.int .i64 t.1, .int .i64 t.2] := by rw [← eA]; exact rd_n2
  simp only [timC] at r1 eA
  simp +contextual (disch := omega) only [↓AM, ↓AV, AP, CQ, hin, g1, r1, eA, nA]
  refine (c_Next (t := t) (keep := keep) (last := last) (ha.keepW w f4A nNo) hn hnum).use ?_
  rintro _ h5 w5 ⟨rfl, f5⟩
  have f45 := f4A.trans f5 fun _ _ f => f
  have gr5 := (gr.keep w4 fA).keep wA f5
  have hres : nxR (er s t keep) (win s t keep) last = .tuple #[.int .i64 (nxt (win s t keep) last).1, .int .i64 (nxt (win s t keep) last).2, .int .i64 0] := by
    unfold nxR; rw [if_pos het, if_neg (by omega)]
  rw [hres]
  have hfs : fstep s keep (L1, L2, last) t = if (nxt (win s t keep) last).2 = 1 then (L1, L2, last) else (L1 ++ [(nxt (win s t keep) last).1], (if (nxt (win s t keep) last).2 = 2 then L2 ++ [(L1.length : Int)] else L2), (nxt (win s t keep) last).1) := rfl
  rw [hfs] at efs
  generalize (nxt (win s t keep) last).1 = n at *
  generalize (nxt (win s t keep) last).2 = kk at *
  by_cases hk1 : kk = 1
  · have e2 : EqI kk 1 = True := eq_true hk1
    rw [if_pos hk1] at efs
    simp +contextual (disch := omega) only [↓AM, ↓AV, AP, CQ, eA, e2, i64]
    refine ⟨ts.length - (i + 1), by omega, i + 1, p1, q1, p2, q2, w5, f45, by omega, rfl, ?_, ?_⟩
    · rw [efs]; exact gr5
    · rw [efs]
  have e2 : EqI kk 1 = False := eq_false hk1
  rw [if_neg hk1] at efs
  by_cases hk2 : kk = 2
  · have e3 : EqI kk 2 = True := eq_true hk2
    rw [if_pos hk2] at efs
    simp +contextual (disch := omega) only [↓AM, ↓AV, AP, CQ, eA, e2, e3, i64]
    refine gr5.w2.push (m := 1) w5 rfl ?_ fun oa' cap' h6 o6 w6 f6 n6 => ?_
    · omega
    obtain ⟨gr6, f46⟩ := gr5.push2 (d := (L1.length : Int)) w5 f45 o6 f6 n6
    simp +contextual (disch := omega) only [↓AM, ↓AV, AP, CQ, eA, e2, e3, i64]
    refine gr6.w1.push (m := 1) w6 rfl ?_ fun ob' cbp h7 o7 w7 f7 n7 => ?_
    · omega
    obtain ⟨gr7, f47⟩ := gr6.push1 (d := n) w6 f46 o7 f7 n7
    simp +contextual (disch := omega) only [↓AM, ↓AV, AP, CQ, eA, e2, e3, i64]
    refine ⟨ts.length - (i + 1), by omega, i + 1, ob', cbp, oa', cap', w7, f47, by omega, rfl, ?_, ?_⟩
    · rw [efs]; exact gr7
    · rw [efs]; simp
  · have e3 : EqI kk 2 = False := eq_false hk2
    rw [if_neg hk2] at efs
    simp +contextual (disch := omega) only [↓AM, ↓AV, AP, CQ, eA, e2, e3, i64]
    refine gr5.w1.push (m := 1) w5 rfl ?_ fun ob' cbp h7 o7 w7 f7 n7 => ?_
    · omega
    obtain ⟨gr7, f47⟩ := gr5.push1 (d := n) w5 f45 o7 f7 n7
    simp +contextual (disch := omega) only [↓AM, ↓AV, AP, CQ, eA, e2, e3, i64]
    refine ⟨ts.length - (i + 1), by omega, i + 1, ob', cbp, p2, q2, w7, f47, by omega, rfl, ?_, ?_⟩
    · rw [efs]; exact gr7
    · rw [efs]; simp
end Go.Proofs.Ytbfbgkhlngkifaa.St

/- The law's own client and movie, carried out. Plain theorems over the abstract machine.
   Conditions: none. -/
namespace Go.Proofs.Ytbfbgkhlngkifaa.Tw
open Go Go.RowKit Go.Proofs.Ytbfbgkhlngkifaa.Am Go.Proofs.Ytbfbgkhlngkifaa.Af
set_option maxRecDepth 20000

def follTab : List (Nat × AF) := [(5, dioramatop_follows), (7, stream_Follow), (14, dioramaref00_EqInts), (15, dioramatop_shows), (17, exact_Valid), (18, exact_Cmp), (19, stream_there), (20, stream_Next), (23, model_CheckTrack), (24, model_Shown), (33, dioramatop_plainMovie), (37, exact_valid), (38, exact_cmp), (39, slices_ContainsFunc___api_Segment_api_Segment_), (40, stream_there_1), (41, stream_spanOK), (42, stream_within), (43, stream_Next_1), (45, model_within), (46, model_letters), (47, model_isName), (48, model_checkSample), (49, model_asked), (50, model_shown), (51, model_ratOf), (52, model_Find), (56, num_NewInt), (58, num_Int__CmpAbs), (60, num_Int__Cmp), (61, num_Rat__Mul), (64, num_Rat__Sub), (66, num_Rat__Add), (68, num_NewRat), (74, slices_ContainsFunc___api_Time_api_Time_), (75, exact_valid_1), (76, exact_little), (77, exact_product), (78, slices_IndexFunc___api_Segment_api_Segment_), (79, model_tick), (80, model_Check), (81, model_media), (82, model_shownAt), (83, model_rat), (84, slices_IndexFunc___api_Track_api_Track_), (85, model_Find_1), (88, num_Rat__Sign), (89, num_Rat__Cmp), (90, num_Int__SetInt64), (91, num_sign), (92, num_cmpMag), (93, num_Rat__down), (94, num_Rat__SetFrac), (95, num_product), (99, num_Int__Sub), (100, num_Int__Add), (106, slices_IndexFunc___api_Time_api_Time_), (107, exact_little_1), (108, num_Int__Mul), (109, model_checkChapters), (110, model_checkRest), (111, model_Bytes), (112, num_Rat__Quo), (114, num_Int__Sign), (115, num_Int__set), (116, num_magOf), (117, slices_Clone___uint32_uint32_), (118, num_divMag), (121, num_addMag), (122, num_subMag), (126, num_mulMag), (127, model_chapters__check), (128, model_checkRest_1), (129, num_trim), (130, bits_LeadingZeros32), (131, num_shift), (132, num_digit), (133, bits_Len32)]
theorem follTab_ok : TabL Try.prog follTab := ⟨dioramatop_follows_ok, stream_Follow_ok, dioramaref00_EqInts_ok, dioramatop_shows_ok, exact_Valid_ok, exact_Cmp_ok, stream_there_ok, stream_Next_ok, model_CheckTrack_ok, model_Shown_ok, dioramatop_plainMovie_ok, exact_valid_ok, exact_cmp_ok, slices_ContainsFunc___api_Segment_api_Segment__ok, stream_there_1_ok, stream_spanOK_ok, stream_within_ok, stream_Next_1_ok, model_within_ok, model_letters_ok, model_isName_ok, model_checkSample_ok, model_asked_ok, model_shown_ok, model_ratOf_ok, model_Find_ok, num_NewInt_ok, num_Int__CmpAbs_ok, num_Int__Cmp_ok, num_Rat__Mul_ok, num_Rat__Sub_ok, num_Rat__Add_ok, num_NewRat_ok, slices_ContainsFunc___api_Time_api_Time__ok, exact_valid_1_ok, exact_little_ok, exact_product_ok, slices_IndexFunc___api_Segment_api_Segment__ok, model_tick_ok, model_Check_ok, model_media_ok, model_shownAt_ok, model_rat_ok, slices_IndexFunc___api_Track_api_Track__ok, model_Find_1_ok, num_Rat__Sign_ok, num_Rat__Cmp_ok, num_Int__SetInt64_ok, num_sign_ok, num_cmpMag_ok, num_Rat__down_ok, num_Rat__SetFrac_ok, num_product_ok, num_Int__Sub_ok, num_Int__Add_ok, slices_IndexFunc___api_Time_api_Time__ok, exact_little_1_ok, num_Int__Mul_ok, model_checkChapters_ok, model_checkRest_ok, model_Bytes_ok, num_Rat__Quo_ok, num_Int__Sign_ok, num_Int__set_ok, num_magOf_ok, slices_Clone___uint32_uint32__ok, num_divMag_ok, num_addMag_ok, num_subMag_ok, num_mulMag_ok, model_chapters__check_ok, model_checkRest_1_ok, num_trim_ok, bits_LeadingZeros32_ok, num_shift_ok, num_digit_ok, bits_Len32_ok, trivial⟩

theorem foll_run : xIs (xCall (tabOf follTab) 4000 5 []) (.bool true) = true := by kernel_rfl
theorem c_follows (h : Hp) : ACalls Try.prog 5 [] h fun v h' => v = .bool true ∧ h' = h := xCall_ok Af.hm (TabL.tab follTab_ok) foll_run rfl rfl h
end Go.Proofs.Ytbfbgkhlngkifaa.Tw

/- Two times compared by the document; the law's words. Plain theorems over the abstract machine.
   Conditions: none. -/
namespace Go.Proofs.Ytbfbgkhlngkifaa.St
open Go Go.RowKit Go.Proofs.Ytbfbgkhlngkifaa.Am Go.Proofs.Ytbfbgkhlngkifaa.Af Go.Proofs.Ytbfbgkhlngkifaa.Md Go.Proofs.Ytbfbgkhlngkifaa.Nu
set_option linter.unusedVariables false
set_option linter.unusedSimpArgs false
set_option linter.defProp false
set_option maxRecDepth 20000
set_option maxHeartbeats 1000000

theorem sg_neg (b : Bool) (p : Nat) : (b && decide (0 < p)) = decide (sg b p < 0) := by
  unfold sg
  cases b
  · simp
  · by_cases h : 0 < p
    · simp [h]
    · simp [h]
theorem sg_not (b : Bool) (p : Nat) : sg (!b) p = - sg b p := by
  unfold sg
  cases b <;> simp
theorem dc_pos (p : Nat) : ((0 : Int) < ((dc p).length : Int)) = (0 < p) := by
  apply propext
  constructor
  · intro h
    rcases Nat.eq_zero_or_pos p with rfl | h0
    · rw [dc_0] at h; simp at h
    · exact h0
  · intro h
    rw [dc_S (by omega)]
    simp
theorem c_Less {h : Hp} {r s : Value} {b1 b2 : Bool} {p1 q1 p2 q2 : Nat} (lr : RtV h r b1 p1 q1) (ls : RtV h s b2 p2 q2) (h1 : p1 < B9 ^ 40) (h2 : q1 < B9 ^ 40) (h3 : p2 < B9 ^ 40) (h4 : q2 < B9 ^ 40) :
    ACalls Try.prog 36 [r, s] h fun v h' => v = .bool (decide (sg b1 p1 * q2 < sg b2 p2 * q1)) ∧ Fm No h h' := by
  refine dioramaref02_Less_ok.snd hm rfl fun w => ?_
  rw [WF_eq, dioramaref02_Less]
  obtain ⟨_, _, rfl, ⟨a1, c1, rfl, l1⟩, ⟨a2, c2, rfl, l2⟩⟩ := lr
  obtain ⟨_, _, rfl, ⟨a3, c3, rfl, l3⟩, ⟨a4, c4, rfl, l4⟩⟩ := ls
  obtain ⟨hA, eA⟩ : ∃ g, h.new ⟨[.bool b1, .slice a1 (dc p1).length c1, .slice a2 (dc q1).length c2], .own⟩ = g := ⟨_, rfl⟩
  obtain ⟨hB, eB⟩ : ∃ g, hA.new ⟨[.bool b2, .slice a3 (dc p2).length c3, .slice a4 (dc q2).length c4], .own⟩ = g := ⟨_, rfl⟩
  have wA : Wf hA := eA ▸ w.new
  have wB : Wf hB := eB ▸ wA.new
  have fA : Fm No h hA := eA ▸ Fm.new Fm.refl
  have fB : Fm No hA hB := eB ▸ Fm.new Fm.refl
  have gA : hA.get h.size = some ⟨[.bool b1, .slice a1 (dc p1).length c1, .slice a2 (dc q1).length c2], .own⟩ := eA ▸ gnew
  have gB : hB.get hA.size = some ⟨[.bool b2, .slice a3 (dc p2).length c3, .slice a4 (dc q2).length c4], .own⟩ := eB ▸ gnew
  have gA := fB.keep wA gA (fun f => f)
  have f0 : Fm No h hB := fA.trans fB fun _ _ f => f
  have u : hB.rdN h.size 0 3 = some [.bool b1, .slice a1 (dc p1).length c1, .slice a2 (dc q1).length c2] := by rw [rdN_mk gA (Nat.le_refl 3)]; rfl
  have u1 : hB.rd hA.size 0 = some (.bool b2) := rd_mk gB
  have u2 : hB.rd hA.size 1 = some (.slice a3 (dc p2).length c3) := rd_mk gB
  have u3 : hB.rd hA.size 2 = some (.slice a4 (dc q2).length c4) := rd_mk gB
  simp +contextual (disch := omega) only [↓AM, ↓AV, AP, CQ, eA, eB]
  simp +contextual (disch := omega) only [↓AM, ↓AV, AP, CQ, eA, eB, u, u1, u2, u3]
  refine (c_Sum (h := hB) (b1 := b1) (b2 := !b2) (p1 := p1) (q1 := q1) (p2 := p2) (q2 := q2) ⟨_, _, rfl, ⟨a1, c1, rfl, l1.rd.keepW w f0 nNo, l1.le, l1.dl⟩, ⟨a2, c2, rfl, l2.rd.keepW w f0 nNo, l2.le, l2.dl⟩⟩ ⟨_, _, rfl, ⟨a3, c3, rfl, l3.rd.keepW w f0 nNo, l3.le, l3.dl⟩, ⟨a4, c4, rfl, l4.rd.keepW w f0 nNo, l4.le, l4.dl⟩⟩ h1 h2 h3 h4).use ?_
  rintro _ h5 w5 ⟨⟨b, p, ⟨_, _, rfl, ⟨a5, c5, rfl, l5⟩, ⟨a6, c6, rfl, l6⟩⟩, hs⟩, f5⟩
  have f05 := f0.trans f5 fun _ _ f => f
  rw [sg_not] at hs
  have key : decide (sg b1 p1 * q2 < sg b2 p2 * q1) = decide (sg b p < 0) := by
    rw [hs]
    apply decide_eq_decide.2
    rw [Int.neg_mul]
    omega
  rw [key, ← sg_neg]
  have r0 : ∀ cs : List Value, ((h5.new ⟨cs, .own⟩).put h5.size ⟨[.bool b, .slice a5 (dc p).length c5, .slice a6 (dc (q1 * q2)).length c6], .own⟩).rd h5.size 0 = some (.bool b) := fun cs => by rw [rd_mk gput]; rfl
  have r1 : ∀ cs : List Value, ((h5.new ⟨cs, .own⟩).put h5.size ⟨[.bool b, .slice a5 (dc p).length c5, .slice a6 (dc (q1 * q2)).length c6], .own⟩).rd h5.size 1 = some (.slice a5 (dc p).length c5) := fun cs => by rw [rd_mk gput]; rfl
  have fN : Fm No h ((h5.new ⟨[.bool false, .slice none 0 0, .slice none 0 0], .own⟩).put h5.size ⟨[.bool b, .slice a5 (dc p).length c5, .slice a6 (dc (q1 * q2)).length c6], .own⟩) := (Fm.new f05).put fun hlt => absurd hlt (by have := f05.size; omega)
  cases b
  · simp +contextual (disch := omega) only [↓AM, ↓AV, AP, CQ, r0, r1, new_put]
    first | exact ⟨rfl, fN⟩ | exact ⟨rfl, by simpa only [new_put] using fN⟩
  · simp +contextual (disch := omega) only [↓AM, ↓AV, AP, CQ, r0, r1, dc_pos, new_put]
    first | exact ⟨rfl, fN⟩ | exact ⟨rfl, by simpa only [new_put] using fN⟩
theorem c_Valid02 {h : Hp} {x : Tim} : ACalls Try.prog 34 [.agg #[.int .i64 x.1, .int .i64 x.2]] h fun v h' => v = .bool (decide (VT x)) ∧ Fm No h h' := by
  refine dioramaref02_Valid_ok.snd Af.hm rfl fun w => ?_
  rw [WF_eq, dioramaref02_Valid]
  obtain ⟨h0, e0⟩ : ∃ g, h.new ⟨[.int .i64 x.1, .int .i64 x.2], .own⟩ = g := ⟨_, rfl⟩
  have f0 : Fm No h h0 := e0 ▸ Fm.new Fm.refl
  have r0 : ∀ i, h0.rd h.size i = ([.int .i64 x.1, .int .i64 x.2] : List Value)[i]? := fun i => rd_mk (e0 ▸ gnew)
  by_cases h1 : 1 ≤ x.2
  · by_cases h2 : x.2 ≤ 1152921504606846976
    · by_cases h3 : -1152921504606846976 ≤ x.1
      · simp +contextual (disch := omega) only [↓AM, ↓AV, AP, CQ, e0, r0, h1, h2, h3]
        exact ⟨congrArg Value.bool (decide_eq_decide.2 (by unfold VT; omega)), f0⟩
      · simp +contextual (disch := omega) only [↓AM, ↓AV, AP, CQ, e0, r0, h1, h2, h3]
        exact ⟨by rw [decide_eq_false (show ¬ VT x from fun h => h3 h.2.2.1)], f0⟩
    · simp +contextual (disch := omega) only [↓AM, ↓AV, AP, CQ, e0, r0, h1, h2]
      exact ⟨by rw [decide_eq_false (show ¬ VT x from fun h => h2 h.2.1)], f0⟩
  · simp +contextual (disch := omega) only [↓AM, ↓AV, AP, CQ, e0, r0, h1]
    exact ⟨by rw [decide_eq_false (show ¬ VT x from fun h => h1 h.1)], f0⟩
theorem natlt40 {x : Nat} (h : x ≤ 9223372036854775807) : x < B9 ^ 40 := Nat.lt_of_le_of_lt h (by decide)
theorem sg_dec (p : Int) : sg (decide (p < 0)) p.natAbs = p := by
  unfold sg
  by_cases h : p < 0
  · rw [if_pos (by simpa using h)]; omega
  · rw [if_neg (by simpa using h)]; omega
theorem c_Cmp02 {h : Hp} {x y : Tim} : ACalls Try.prog 16 [.agg #[.int .i64 x.1, .int .i64 x.2], .agg #[.int .i64 y.1, .int .i64 y.2]] h fun v h' => v = .tuple #[.int .i64 (if VT x ∧ VT y then cmpZ (x.1 * y.2) (y.1 * x.2) else 0), .int .i64 (if VT x ∧ VT y then 0 else 4)] ∧ Fm No h h' := by
  refine dioramaref02_Cmp_ok.snd hm rfl fun w => ?_
  rw [WF_eq, dioramaref02_Cmp]
  obtain ⟨hA, eA⟩ : ∃ g, h.new ⟨[.int .i64 x.1, .int .i64 x.2], .own⟩ = g := ⟨_, rfl⟩
  obtain ⟨hB, eB⟩ : ∃ g, hA.new ⟨[.int .i64 y.1, .int .i64 y.2], .own⟩ = g := ⟨_, rfl⟩
  have wA : Wf hA := eA ▸ w.new
  have wB : Wf hB := eB ▸ wA.new
  have fA : Fm No h hA := eA ▸ Fm.new Fm.refl
  have fB : Fm No hA hB := eB ▸ Fm.new Fm.refl
  have gA : hA.get h.size = some ⟨[.int .i64 x.1, .int .i64 x.2], .own⟩ := eA ▸ gnew
  have gB : hB.get hA.size = some ⟨[.int .i64 y.1, .int .i64 y.2], .own⟩ := eB ▸ gnew
  have gA := fB.keep wA gA (fun f => f)
  have f0 : Fm No h hB := fA.trans fB fun _ _ f => f
  have rds : ∀ g, Fm No hB g → g.rdN h.size 0 2 = some [.int .i64 x.1, .int .i64 x.2] ∧ g.rdN hA.size 0 2 = some [.int .i64 y.1, .int .i64 y.2] := fun g fg =>
    ⟨by rw [rdN_mk (fg.keep wB gA (fun f => f)) (Nat.le_refl 2)]; rfl, by rw [rdN_mk (fg.keep wB gB (fun f => f)) (Nat.le_refl 2)]; rfl⟩
  have u := rds hB Fm.refl
  simp +contextual (disch := omega) only [↓AM, ↓AV, AP, CQ, eA, eB]
  simp +contextual (disch := omega) only [↓AM, ↓AV, AP, CQ, eA, eB, u]
  refine (c_Valid02 (x := x)).use ?_
  rintro _ h1 w1 ⟨rfl, f1⟩
  by_cases hx : VT x
  case neg =>
    have e1 : ¬ (VT x ∧ VT y) := fun q => hx q.1
    simp +contextual (disch := omega) only [↓AM, ↓AV, AP, CQ, eA, eB, hx]
    exact f0.trans f1 fun _ _ f => f
  have u := rds h1 f1
  simp +contextual (disch := omega) only [↓AM, ↓AV, AP, CQ, eA, eB, hx, u]
  refine (c_Valid02 (x := y)).use ?_
  rintro _ h2 w2 ⟨rfl, f2⟩
  have f12 := f1.trans f2 fun _ _ f => f
  by_cases hy : VT y
  case neg =>
    have e1 : ¬ (VT x ∧ VT y) := fun q => hy q.2
    simp +contextual (disch := omega) only [↓AM, ↓AV, AP, CQ, eA, eB, hy]
    exact f0.trans f12 fun _ _ f => f
  have u := rds h2 f12
  rw [if_pos ⟨hx, hy⟩, if_pos ⟨hx, hy⟩]
  obtain ⟨x2, hx2⟩ : ∃ n : Nat, x.2 = (n : Int) := ⟨x.2.toNat, by have := hx.1; omega⟩
  obtain ⟨y2, hy2⟩ : ∃ n : Nat, y.2 = (n : Int) := ⟨y.2.toNat, by have := hy.1; omega⟩
  have hvy := hy
  obtain ⟨hx0, hx1, hx3, hx4⟩ := hx
  obtain ⟨hy0, hy1, hy3, hy4⟩ := hy
  rw [hx2] at u eA ⊢
  rw [hy2] at u eB ⊢
  simp +contextual (disch := omega) only [↓AM, ↓AV, AP, CQ, eA, eB, hvy, u]
  refine (c_RatOfZ (p := x.1) (q := x2) (by omega) (by omega)).use ?_
  rintro _ h3 w3 ⟨lr, f3⟩
  have lr0 := lr
  obtain ⟨_, _, rfl, ⟨a1, c1, rfl, -⟩, ⟨a2, c2, rfl, -⟩⟩ := lr
  have f13 := f12.trans f3 fun _ _ f => f
  have u := rds h3 f13
  rw [hx2, hy2] at u
  simp +contextual (disch := omega) only [↓AM, ↓AV, AP, CQ, eA, eB, u]
  refine ⟨⟨_, rfl, rfl⟩, ?_⟩
  refine (c_RatOfZ (p := y.1) (q := y2) (by omega) (by omega)).use ?_
  rintro _ h4 w4 ⟨ls, f4⟩
  have ls0 := ls
  obtain ⟨_, _, rfl, ⟨a3, c3, rfl, -⟩, ⟨a4, c4, rfl, -⟩⟩ := ls
  have f14 := f13.trans f4 fun _ _ f => f
  have u := rds h4 f14
  rw [hx2, hy2] at u
  have hsz := f14.size
  obtain ⟨hC, eC⟩ : ∃ g, h4.new ⟨[.bool false, .slice none 0 0, .slice none 0 0], .own⟩ = g := ⟨_, rfl⟩
  obtain ⟨hD, eD⟩ : ∃ g, hC.new ⟨[.bool false, .slice none 0 0, .slice none 0 0], .own⟩ = g := ⟨_, rfl⟩
  have sC : hC.size = h4.size + 1 := by rw [← eC]; rfl
  have wC : Wf hC := eC ▸ w4.new
  have wD : Wf hD := eD ▸ wC.new
  have fC : Fm No h4 hC := eC ▸ Fm.new Fm.refl
  have fD : Fm No hC hD := eD ▸ Fm.new Fm.refl
  have gC : hC.get h4.size = some ⟨[.bool false, .slice none 0 0, .slice none 0 0], .own⟩ := eC ▸ gnew
  have gC := fD.keep wC gC (fun f => f)
  have gD : hD.get hC.size = some ⟨[.bool false, .slice none 0 0, .slice none 0 0], .own⟩ := eD ▸ gnew
  have f4D := fC.trans fD fun _ _ f => f
  obtain ⟨hE, eE⟩ : ∃ g, hD.put h4.size ⟨[.bool (decide (x.1 < 0)), .slice a1 (dc x.1.natAbs).length c1, .slice a2 (dc x2).length c2], .own⟩ = g := ⟨_, rfl⟩
  have gE1 : hE.get h4.size = some ⟨[.bool (decide (x.1 < 0)), .slice a1 (dc x.1.natAbs).length c1, .slice a2 (dc x2).length c2], .own⟩ := eE ▸ gput
  have gE2 : hE.get hC.size = some ⟨[.bool false, .slice none 0 0, .slice none 0 0], .own⟩ := by rw [← eE, get_put (by omega)]; exact gD
  have wE : Wf hE := eE ▸ wD.put (wD.lt gC)
  have f4E : Fm No h4 hE := eE ▸ f4D.put fun hlt => absurd hlt (by omega)
  obtain ⟨hG, eG⟩ : ∃ g, hE.put hC.size ⟨[.bool (decide (y.1 < 0)), .slice a3 (dc y.1.natAbs).length c3, .slice a4 (dc y2).length c4], .own⟩ = g := ⟨_, rfl⟩
  have gG1 : hG.get h4.size = some ⟨[.bool (decide (x.1 < 0)), .slice a1 (dc x.1.natAbs).length c1, .slice a2 (dc x2).length c2], .own⟩ := by rw [← eG, get_put (by omega)]; exact gE1
  have gG2 : hG.get hC.size = some ⟨[.bool (decide (y.1 < 0)), .slice a3 (dc y.1.natAbs).length c3, .slice a4 (dc y2).length c4], .own⟩ := eG ▸ gput
  have wG : Wf hG := eG ▸ wE.put (wE.lt gE2)
  have f4G : Fm No h4 hG := eG ▸ f4E.put fun hlt => absurd hlt (by omega)
  have f0G := (f0.trans f14 fun _ _ f => f).trans f4G fun _ _ f => f
  have rdG : ∀ g, Fm No hG g → g.rdN h4.size 0 3 = some [.bool (decide (x.1 < 0)), .slice a1 (dc x.1.natAbs).length c1, .slice a2 (dc x2).length c2] ∧ g.rdN hC.size 0 3 = some [.bool (decide (y.1 < 0)), .slice a3 (dc y.1.natAbs).length c3, .slice a4 (dc y2).length c4] := fun g fg =>
    ⟨by rw [rdN_mk (fg.keep wG gG1 (fun f => f)) (Nat.le_refl 3)]; rfl, by rw [rdN_mk (fg.keep wG gG2 (fun f => f)) (Nat.le_refl 3)]; rfl⟩
  have v := rdG hG Fm.refl
  simp +contextual (disch := omega) only [↓AM, ↓AV, AP, CQ, u, eC, eD, gC, eE, gE2, eG, v]
  have lr1 := (lr0.keep w3 f4).keep w4 f4G
  have ls1 := ls0.keep w4 f4G
  refine (c_Less lr1 ls1 (natlt40 (by omega)) (natlt40 (by omega)) (natlt40 (by omega)) (natlt40 (by omega))).use ?_
  rintro _ h7 w7 ⟨rfl, f7⟩
  rw [sg_dec, sg_dec]
  by_cases k1 : x.1 * (y2 : Int) < y.1 * (x2 : Int)
  · simp +contextual (disch := omega) only [↓AM, ↓AV, AP, CQ, k1]
    refine ⟨?_, f0G.trans f7 fun _ _ f => f⟩
    rw [cmpZ_01, if_pos k1]
  have v := rdG h7 f7
  simp +contextual (disch := omega) only [↓AM, ↓AV, AP, CQ, eC, k1, v]
  refine (c_Less (ls1.keep wG f7) (lr1.keep wG f7) (natlt40 (by omega)) (natlt40 (by omega)) (natlt40 (by omega)) (natlt40 (by omega))).use ?_
  rintro _ h8 w8 ⟨rfl, f8⟩
  rw [sg_dec, sg_dec]
  by_cases k2 : y.1 * (x2 : Int) < x.1 * (y2 : Int)
  · simp +contextual (disch := omega) only [↓AM, ↓AV, AP, CQ, k2]
    refine ⟨?_, (f0G.trans f7 fun _ _ f => f).trans f8 fun _ _ f => f⟩
    rw [cmpZ_01, if_neg k1, if_pos k2]
  · simp +contextual (disch := omega) only [↓AM, ↓AV, AP, CQ, k2]
    refine ⟨?_, (f0G.trans f7 fun _ _ f => f).trans f8 fun _ _ f => f⟩
    rw [cmpZ_01, if_neg k1, if_neg k2]
/-- A time is ahead of another one. -/
def bef (x y : Tim) : Prop := (VT x ∧ VT y) ∧ x.1 * y.2 < y.1 * x.2
instance (x y : Tim) : Decidable (bef x y) := by unfold bef; infer_instance
theorem c_before {h : Hp} {x y : Tim} : ACalls Try.prog 6 [.agg #[.int .i64 x.1, .int .i64 x.2], .agg #[.int .i64 y.1, .int .i64 y.2]] h fun v h' => v = .bool (decide (bef x y)) ∧ Fm No h h' := by
  refine dioramatop_before_ok.snd hm rfl fun w => ?_
  rw [WF_eq, dioramatop_before]
  obtain ⟨hA, eA⟩ : ∃ g, h.new ⟨[.int .i64 x.1, .int .i64 x.2], .own⟩ = g := ⟨_, rfl⟩
  obtain ⟨hB, eB⟩ : ∃ g, hA.new ⟨[.int .i64 y.1, .int .i64 y.2], .own⟩ = g := ⟨_, rfl⟩
  have wA : Wf hA := eA ▸ w.new
  have fA : Fm No h hA := eA ▸ Fm.new Fm.refl
  have fB : Fm No hA hB := eB ▸ Fm.new Fm.refl
  have gA : hA.get h.size = some ⟨[.int .i64 x.1, .int .i64 x.2], .own⟩ := eA ▸ gnew
  have gB : hB.get hA.size = some ⟨[.int .i64 y.1, .int .i64 y.2], .own⟩ := eB ▸ gnew
  have gA := fB.keep wA gA (fun f => f)
  have f0 : Fm No h hB := fA.trans fB fun _ _ f => f
  have u1 : hB.rdN h.size 0 2 = some [.int .i64 x.1, .int .i64 x.2] := by rw [rdN_mk gA (Nat.le_refl 2)]; rfl
  have u2 : hB.rdN hA.size 0 2 = some [.int .i64 y.1, .int .i64 y.2] := by rw [rdN_mk gB (Nat.le_refl 2)]; rfl
  simp +contextual (disch := omega) only [↓AM, ↓AV, AP, CQ, eA, eB]
  simp +contextual (disch := omega) only [↓AM, ↓AV, AP, CQ, eA, eB, u1, u2]
  refine (c_Cmp02 (x := x) (y := y)).use ?_
  rintro _ h1 w1 ⟨rfl, f1⟩
  have f01 := f0.trans f1 fun _ _ f => f
  by_cases hv : VT x ∧ VT y
  · rw [if_pos hv, if_pos hv]
    have e1 : (cmpZ (x.1 * y.2) (y.1 * x.2) < 0) = (x.1 * y.2 < y.1 * x.2) := by
      rw [cmpZ_01]
      split
      · simp [*]
      · split <;> simp [*]
    have e2 : EqI 0 0 = True := eq_true rfl
    by_cases hb : x.1 * y.2 < y.1 * x.2
    · simp +contextual (disch := omega) only [↓AM, ↓AV, AP, CQ, e1, e2, hb]
      exact ⟨by rw [decide_eq_true (show bef x y from ⟨hv, hb⟩)], f01⟩
    · simp +contextual (disch := omega) only [↓AM, ↓AV, AP, CQ, e1, e2, hb]
      exact ⟨by rw [decide_eq_false (show ¬ bef x y from fun q => hb q.2)], f01⟩
  · rw [if_neg hv, if_neg hv]
    have e2 : EqI 4 0 = False := eq_false (by unfold EqI; omega)
    simp +contextual (disch := omega) only [↓AM, ↓AV, AP, CQ, e2]
    exact ⟨by rw [decide_eq_false (show ¬ bef x y from fun q => hv q.1)], f01⟩
end Go.Proofs.Ytbfbgkhlngkifaa.St

/- What a client takes: there when it looks, and it is told whenever it missed one. Plain theorems.
   Conditions: none. -/
namespace Go.Proofs.Ytbfbgkhlngkifaa.St
open Go Go.RowKit Go.Proofs.Ytbfbgkhlngkifaa.Am Go.Proofs.Ytbfbgkhlngkifaa.Af Go.Proofs.Ytbfbgkhlngkifaa.Md Go.Proofs.Ytbfbgkhlngkifaa.Nu
set_option linter.unusedVariables false
set_option linter.unusedSimpArgs false
set_option linter.defProp false
set_option maxRecDepth 20000
set_option maxHeartbeats 1000000

theorem nin_step {L : List Int} {j : Nat} {x y : Int} (h : x ∉ L.take j) (hy : L[j]? = some y) (hn : ¬ y = x) : x ∉ L.take (j + 1) := by
  rw [List.take_add_one, hy]
  intro q
  rcases List.mem_append.1 q with q | q
  · exact h q
  · simp at q
    exact hn q.symm
theorem c_HasInt {h : Hp} {a : Option Addr} {c : Nat} {L : List Int} {x : Int} (ra : Rd h 1 a L.length (iV L)) (hn : L.length ≤ 1000000) :
    ACalls Try.prog 8 [.slice a L.length c, .int .i64 x] h fun v h' => (∃ m : Int, v = .int .i64 m ∧ (0 ≤ m ↔ x ∈ L)) ∧ h' = h := by
  refine dioramaref00_HasInt_ok.snd Af.hm rfl fun w => ?_
  rw [WF_eq, dioramaref00_HasInt]
  simp +contextual (disch := omega) only [↓AM, ↓AV, AP, CQ]
  refine WL.mk (fun k t h' => ∃ j : Nat, h' = h ∧ j ≤ L.length ∧ k = L.length - j ∧ x ∉ L.take j ∧ t = [(0, some (.slice a L.length c)), (1, some (.int .i64 x)), (5, some (.int .i64 (j : Int)))]) ⟨L.length, 0, rfl, by omega, rfl, by simp, rfl⟩ ?_
  rintro k t h1 ⟨j, e1, hj, rfl, hnin, rfl⟩
  subst h1
  by_cases hjn : j < L.length
  · obtain ⟨b1, o1, s1, rfl, f1, y, hy, r1⟩ := Rd.int ra hjn
    by_cases e : y = x
    · simp +contextual (disch := omega) only [↓AM, ↓AV, AP, CQ, EqI, f1, r1, hjn, e]
      exact ⟨_, rfl, ⟨fun _ => e ▸ List.mem_of_getElem? hy, fun _ => by omega⟩⟩
    · simp +contextual (disch := omega) only [↓AM, ↓AV, AP, CQ, EqI, f1, r1, hjn, e, i64]
      exact ⟨L.length - (j + 1), by omega, j + 1, by omega, rfl, nin_step hnin hy e, rfl⟩
  · simp +contextual (disch := omega) only [↓AM, ↓AV, AP, CQ, hjn]
    rw [List.take_of_length_le (by omega)] at hnin
    exact ⟨_, rfl, ⟨fun q => absurd q (by decide), fun q => absurd q hnin⟩⟩

theorem leT_trans {a b c : Tim} (hb : 0 < b.2) (ha : 0 < a.2) (hc : 0 < c.2) (h1 : leT a b) (h2 : leT b c) : leT a c := by
  unfold leT at *
  have e1 : a.1 * b.2 * c.2 ≤ b.1 * a.2 * c.2 := Int.mul_le_mul_of_nonneg_right h1 (by omega)
  have e2 : b.1 * c.2 * a.2 ≤ c.1 * b.2 * a.2 := Int.mul_le_mul_of_nonneg_right h2 (by omega)
  have e3 : (a.1 * c.2) * b.2 ≤ (c.1 * a.2) * b.2 := by
    have t1 : a.1 * c.2 * b.2 = a.1 * b.2 * c.2 := by rw [Int.mul_assoc, Int.mul_assoc, Int.mul_comm c.2]
    have t2 : c.1 * a.2 * b.2 = c.1 * b.2 * a.2 := by rw [Int.mul_assoc, Int.mul_assoc, Int.mul_comm a.2]
    have t3 : b.1 * a.2 * c.2 = b.1 * c.2 * a.2 := by rw [Int.mul_assoc, Int.mul_assoc, Int.mul_comm a.2]
    omega
  exact Int.le_of_mul_le_mul_right e3 hb
/-- Times that rise, over a distance. -/
theorem tok_le {ts : List Tim} (h : TOK ts) : ∀ (d i : Nat) (t u : Tim), ts[i]? = some t → ts[i + d]? = some u → leT t u
  | 0, i, t, u, h1, h2 => by
    rw [Nat.add_zero, h1] at h2
    cases h2
    exact Int.le_refl _
  | d + 1, i, t, u, h1, h2 => by
    have hl := (List.getElem?_eq_some_iff.1 h2).1
    have hy : ts[i + d]? = some (ts[i + d]'(by omega)) := List.getElem?_eq_getElem (by omega)
    have ih := tok_le h d i t _ h1 hy
    have v1 := (h i t h1).1
    have v2 := (h (i + d) _ hy).1
    obtain ⟨v3, v4⟩ := h (i + d + 1) u h2
    have := v4 _ (by omega) hy
    exact leT_trans (b := ts[i + d]'(by omega)) (by have := v2.1; omega) (by have := v1.1; omega) (by have := v3.1; omega) ih (Int.le_of_lt this)
/-- What was taken and lost after i times. -/
structure Tp (s : List Sg) (ts : List Tim) (i : Nat) (z : Tk) : Prop where
  last : z.2.2 = z.1.getLast?.getD 0
  tk : ∀ n ∈ z.1, ∃ x ∈ s, ∃ j t, j < i ∧ ts[j]? = some t ∧ x.1 = n ∧ leT x.2.2.1 t
  lo : ∀ q ∈ z.2.1, q < (z.1.length : Int)
  told : ∀ k a b, z.1[k]? = some a → z.1[k + 1]? = some b → ((((k + 1 : Nat) : Int) ∈ z.2.1) ↔ b ≠ a + 1)
theorem Tp.up {s : List Sg} {ts : List Tim} {i : Nat} {z : Tk} (p : Tp s ts i z) : Tp s ts (i + 1) z :=
  ⟨p.last, fun n hn => let ⟨x, hx, j, t, hj, r⟩ := p.tk n hn; ⟨x, hx, j, t, by omega, r⟩, p.lo, p.told⟩
theorem Tp.add {s : List Sg} {ts : List Tim} {i : Nat} {z : Tk} {t : Tim} (p : Tp s ts i z) (ht : ts[i]? = some t) {x : Sg} {L : List Int} (hx : x ∈ s) (hl : leT x.2.2.1 t)
    (hL : (z.1 ≠ [] → x.1 = z.2.2 + 1) ∧ L = z.2.1 ∨ (x.1 ≠ z.2.2 + 1 ∧ L = z.2.1 ++ [(z.1.length : Int)])) : Tp s ts (i + 1) (z.1 ++ [x.1], L, x.1) := by
  refine ⟨by simp, fun n hn => ?_, fun q hq => ?_, fun k a b ha hb => ?_⟩
  · rcases List.mem_append.1 hn with hn | hn
    · obtain ⟨y, hy, j, u, hj, r⟩ := p.tk n hn
      exact ⟨y, hy, j, u, by omega, r⟩
    · exact ⟨x, hx, i, t, by omega, ht, (List.mem_singleton.1 hn).symm, hl⟩
  · simp only [List.length_append, List.length_singleton]
    rcases hL with ⟨-, rfl⟩ | ⟨-, rfl⟩
    · have := p.lo q hq; omega
    · rcases List.mem_append.1 hq with hq | hq
      · have := p.lo q hq; omega
      · rw [List.mem_singleton.1 hq]; omega
  · simp only at ha hb ⊢
    have hb' := (List.getElem?_eq_some_iff.1 hb).1
    simp only [List.length_append, List.length_singleton] at hb'
    rcases Nat.lt_or_ge (k + 1) z.1.length with hk | hk
    · rw [List.getElem?_append_left hk] at hb
      rw [List.getElem?_append_left (by omega)] at ha
      rw [← p.told k a b ha hb]
      rcases hL with ⟨-, rfl⟩ | ⟨-, rfl⟩
      · exact Iff.rfl
      · constructor
        · intro hq
          rcases List.mem_append.1 hq with hq | hq
          · exact hq
          · have := List.mem_singleton.1 hq; omega
        · intro hq; exact List.mem_append_left _ hq
    · have hke : k + 1 = z.1.length := by omega
      rw [List.getElem?_append_right (by omega), hke, Nat.sub_self] at hb
      have hb : x.1 = b := by simpa using hb
      rw [List.getElem?_append_left (by omega)] at ha
      have hla : z.2.2 = a := by
        rw [p.last, List.getLast?_eq_getElem?, ← hke, Nat.add_sub_cancel, ha]; rfl
      have hne : z.1 ≠ [] := fun e => by rw [e] at hke; simp at hke
      subst hb
      rw [hke]
      rcases hL with ⟨h1, rfl⟩ | ⟨h1, rfl⟩
      · constructor
        · intro hq
          have := p.lo _ hq; omega
        · intro hq; exact absurd (hla ▸ h1 hne) hq
      · exact ⟨fun _ => hla ▸ h1, fun _ => List.mem_append_right _ (List.mem_singleton.2 rfl)⟩
theorem Tp.step {s : List Sg} {ts : List Tim} {i : Nat} {z : Tk} {t : Tim} {keep : Int} (p : Tp s ts i z) (ht : ts[i]? = some t) (hnum : ∀ x ∈ s, 1 ≤ x.1 ∧ x.1 ≤ 1000000) : Tp s ts (i + 1) (fstep s keep z t) := by
  have hz : z.2.2 = 0 → z.1 = [] := fun h0 => by
    cases hl : z.1.getLast? with
    | none => exact List.getLast?_eq_none_iff.1 hl
    | some n =>
      have h1 := p.last
      rw [hl, h0] at h1
      have h1 : (0 : Int) = n := h1
      obtain ⟨x, hx, _, _, _, _, h2, _⟩ := p.tk n (List.mem_of_getLast? hl)
      have := hnum x hx
      omega
  unfold fstep
  generalize hR : win s t keep = R
  have hm : ∀ x ∈ R, x ∈ s ∧ leT x.2.2.1 t := fun x hx => win_mem (hR ▸ hx)
  unfold nxt
  by_cases h1 : R = []
  · rw [if_pos h1]
    simp only [if_true]
    exact p.up
  rw [if_neg h1]
  by_cases h2 : z.2.2 = 0
  · rw [if_pos h2]
    have e1 : ¬ ((0 : Int) = 1) := by decide
    have e2 : ¬ ((0 : Int) = 2) := by decide
    simp only [e1, e2, if_false]
    have e3 : R.getLast? = some (R.getLast h1) := List.getLast?_eq_some_getLast h1
    rw [e3]
    exact p.add ht (hm _ (List.getLast_mem h1)).1 (hm _ (List.getLast_mem h1)).2 (.inl ⟨fun q => absurd (hz h2) q, rfl⟩)
  rw [if_neg h2]
  by_cases h3 : ∃ x ∈ R, x.1 - 1 = z.2.2
  · rw [if_pos h3]
    have e1 : ¬ ((0 : Int) = 1) := by decide
    have e2 : ¬ ((0 : Int) = 2) := by decide
    simp only [e1, e2, if_false]
    obtain ⟨x, hx, h4⟩ := h3
    have e : z.2.2 + 1 = x.1 := by omega
    rw [e]
    exact p.add ht (hm x hx).1 (hm x hx).2 (.inl ⟨fun _ => e.symm, rfl⟩)
  rw [if_neg h3]
  by_cases h4 : z.2.2 < wiN R - 1
  · rw [if_pos h4]
    have e1 : ¬ ((2 : Int) = 1) := by decide
    simp only [e1, if_false, if_true]
    cases R with
    | nil => exact absurd rfl h1
    | cons y R =>
      have h4 : z.2.2 < y.1 - 1 := h4
      exact p.add ht (hm y (by simp)).1 (hm y (by simp)).2 (.inr ⟨by omega, rfl⟩)
  · rw [if_neg h4]
    simp only [if_true]
    exact p.up
theorem tp_all {s : List Sg} {ts : List Tim} {keep : Int} (hnum : ∀ x ∈ s, 1 ≤ x.1 ∧ x.1 ≤ 1000000) : ∀ i, i ≤ ts.length → Tp s ts i (fol s keep (ts.take i))
  | 0, _ => ⟨rfl, fun n hn => (by cases hn), fun q hq => (by cases hq), fun k a b ha => (by cases ha)⟩
  | i + 1, hi => by
    have hx : ts[i]? = some (ts[i]'(by omega)) := List.getElem?_eq_getElem (by omega)
    rw [List.take_add_one, hx, Option.toList_some, fol_snoc]
    exact (tp_all hnum i (by omega)).step hx hnum
end Go.Proofs.Ytbfbgkhlngkifaa.St

/- The law TopWindows: a client of a live window takes no segment twice, in rising order, and is told what it missed. The walk over the abstract machine.
   Conditions: none. -/
namespace Go.Proofs.Ytbfbgkhlngkifaa.LTopWindows
open Go Go.RowKit Go.Proofs.Ytbfbgkhlngkifaa.Am Go.Proofs.Ytbfbgkhlngkifaa.Af Go.Proofs.Ytbfbgkhlngkifaa.Md Go.Proofs.Ytbfbgkhlngkifaa.Nu Go.Proofs.Ytbfbgkhlngkifaa.St
set_option linter.unusedVariables false
set_option linter.unusedSimpArgs false
set_option maxRecDepth 20000
set_option maxHeartbeats 2000000

theorem tim_open {h : Hp} (x : Int × Int) (cs : List Value) (a : (AKd.pair (AKd.int .i64) (AKd.int .i64)).A h x cs) : cs = timC x := by
  obtain ⟨c1, c2, rfl, a1, a2⟩ := a
  have a1 : c1 = [.int .i64 x.1] := a1
  have a2 : c2 = [.int .i64 x.2] := a2
  rw [a1, a2]; rfl
theorem walk {h : Hp} (x0 : (List (Int × ((Int × Int) × (Int × Int)) × (List Int) × Bool))) (u0 : Value) (x1 : (List (Int × Int))) (u1 : Value) (x2 : Int) (A0 : (AKd.slice (AKd.pair (AKd.int .i64) (AKd.pair (AKd.pair (AKd.pair (AKd.int .i64) (AKd.int .i64)) (AKd.pair (AKd.int .i64) (AKd.int .i64))) (AKd.pair (AKd.slice (AKd.int .u8)) AKd.bool)))).A h x0 [u0]) (w0 : x0.length * Try.prog.bytesOf 31 ≤ 140737488351232 ∧ ∀ x ∈ x0, ((Lit.int .i64 x.1).wf = true) ∧ ((((Lit.int .i64 x.2.1.1.1).wf = true) ∧ ((Lit.int .i64 x.2.1.1.2).wf = true)) ∧ (((Lit.int .i64 x.2.1.2.1).wf = true) ∧ ((Lit.int .i64 x.2.1.2.2).wf = true))) ∧ (x.2.2.1.length * Try.prog.bytesOf 5 ≤ 140737488351232 ∧ ∀ y ∈ x.2.2.1, (Lit.int .u8 y).wf = true) ∧ (True)) (A1 : (AKd.slice (AKd.pair (AKd.int .i64) (AKd.int .i64))).A h x1 [u1]) (w1 : x1.length * Try.prog.bytesOf 26 ≤ 140737488351232 ∧ ∀ x ∈ x1, ((Lit.int .i64 x.1).wf = true) ∧ ((Lit.int .i64 x.2).wf = true)) (w2 : (Lit.int .i64 x2).wf = true) : ACalls Try.prog 3 [u0, u1, .int .i64 x2] h fun v h' => v = .bool true := by
  obtain ⟨oa, c, r, e0, rd, row, hc⟩ := A0
  have e0 : u0 = .slice oa x0.length c := by injection e0
  subst e0
  obtain ⟨ta, d, r2, e1, rt, row2, hd⟩ := A1
  have e1 : u1 = .slice ta x1.length d := by injection e1
  subst e1
  obtain ⟨s, rfl, hs⟩ := segs_open row
  have er2 := row_flat tim_open row2
  subst er2
  clear w0 w1
  have rd : Rd h 7 oa x0.length (s.flatMap segC) := rd
  have rt : Rd h 2 ta x1.length (x1.flatMap timC) := rt
  rw [← hs] at rd ⊢
  generalize x1 = ts at *
  refine dioramatop_TopWindows_ok.snd hm rfl fun w => ?_
  rw [WF_eq, dioramatop_TopWindows]
  by_cases hn : (60 : Int) < (s.length : Int)
  · simp +contextual (disch := omega) only [↓AM, ↓AV, AP, CQ, hn]
    refine (Tw.c_follows _).use ?_
    rintro _ _ w8 ⟨rfl, rfl⟩
    simp +contextual (disch := omega) only [↓AM, ↓AV, AP, CQ]
  by_cases hm0 : (60 : Int) < (ts.length : Int)
  · simp +contextual (disch := omega) only [↓AM, ↓AV, AP, CQ, hn, hm0]
    refine (Tw.c_follows _).use ?_
    rintro _ _ w8 ⟨rfl, rfl⟩
    simp +contextual (disch := omega) only [↓AM, ↓AV, AP, CQ]
  simp +contextual (disch := omega) only [↓AM, ↓AV, AP, CQ, hn, hm0]
  refine WL.mk (fun k u h' => ∃ i : Nat, Wf h' ∧ Fm No h h' ∧ i ≤ s.length ∧ k = s.length - i ∧ (∀ (j : Nat) (x : Sg), j < i → s[j]? = some x → x.1 = (j : Int) + 1) ∧
      u = [(0, some (.slice oa s.length c)), (1, some (.slice ta ts.length d)), (2, some (.int .i64 x2)), (7, some (.int .i64 (i : Int)))]) ⟨s.length, 0, w, Fm.refl, by omega, rfl, fun j x hj => by omega, rfl⟩ ?_
  rintro k u h1 ⟨i, w1, f1, hi, rfl, hall, rfl⟩
  by_cases hin : i < s.length
  · obtain ⟨b1, o1, s1, rfl, g1, x, hx, r1⟩ : ∃ b1 o1 s1, oa = some ⟨b1, o1, s1⟩ ∧ flagOk s1 = true ∧ ∃ x, s[i]? = some x ∧ (h1.rd b1 (o1 + i * 7) = some (.int .i64 x.1) ∧ h1.rdN b1 (o1 + i * 7) 7 = some (segC x)) := by
      obtain ⟨b, o, sp, x, e, g, hx, r1, r2⟩ := num_at (rd.keepW w f1 nNo) hin
      exact ⟨b, o, sp, e, g, x, hx, r1, r2⟩
    by_cases hnum : x.1 = (i : Int) + 1
    case neg =>
      have e5 : EqI x.1 (((i + 1 : Nat)) : Int) = False := eq_false (by unfold EqI; omega)
      simp +contextual (disch := omega) only [↓AM, ↓AV, AP, CQ, hin, g1, r1, i64, e5]
      refine (Tw.c_follows _).use ?_
      rintro _ _ w8 ⟨rfl, rfl⟩
      simp +contextual (disch := omega) only [↓AM, ↓AV, AP, CQ]
    have e5 : EqI x.1 (((i + 1 : Nat)) : Int) = True := eq_true (by unfold EqI; omega)
    have nall : ∀ (j : Nat) (y : Sg), j < i + 1 → s[j]? = some y → y.1 = (j : Int) + 1 := fun j y hj hy => by
      rcases Nat.lt_or_ge j i with h | h
      · exact hall j y h hy
      · have : j = i := by omega
        subst this
        rw [hx] at hy
        cases hy
        exact hnum
    have q1 := rdN_sub (k := 3) (l := 2) r1.2 (by omega)
    have q1 : h1.rdN b1 (o1 + i * 7 + 3) 2 = some [.int .i64 x.2.2.1.1, .int .i64 x.2.2.1.2] := q1
    cases i with
    | zero =>
      have e6 : ((0 : Int) < ((0 : Nat) : Int)) = False := by simp
      have r1z := r1.1
      simp only [Nat.zero_mul, Nat.add_zero] at r1z
      simp +contextual (disch := omega) only [↓AM, ↓AV, AP, CQ, hin, g1, r1, r1z, i64, e5, e6]
      exact ⟨s.length - 1, by omega, 1, w1, f1, by omega, rfl, nall, rfl⟩
    | succ i =>
      have e6 : ((0 : Int) < ((i + 1 : Nat) : Int)) = True := eq_true (by omega)
      have hin2 : i < s.length := by omega
      obtain ⟨b2, o2, s2, y, ee, g2, hy, r2, r3⟩ := num_at (rd.keepW w f1 nNo) hin2
      cases ee
      have q2 := rdN_sub (k := 3) (l := 2) r3 (by omega)
      have q2 : h1.rdN b1 (o1 + i * 7 + 3) 2 = some [.int .i64 y.2.2.1.1, .int .i64 y.2.2.1.2] := q2
      simp +contextual (disch := omega) only [↓AM, ↓AV, AP, CQ, hin, hin2, g1, r1, q1, q2, i64, e5, e6]
      refine (c_before (x := x.2.2.1) (y := y.2.2.1)).use ?_
      rintro _ h2 w2 ⟨rfl, f2⟩
      have f12 := f1.trans f2 fun _ _ f => f
      by_cases hb : bef x.2.2.1 y.2.2.1
      · simp +contextual (disch := omega) only [↓AM, ↓AV, AP, CQ, hb]
        refine (Tw.c_follows _).use ?_
        rintro _ _ w8 ⟨rfl, rfl⟩
        simp +contextual (disch := omega) only [↓AM, ↓AV, AP, CQ]
      · simp +contextual (disch := omega) only [↓AM, ↓AV, AP, CQ, hb, i64]
        exact ⟨s.length - (i + 1 + 1), by omega, i + 1 + 1, w2, f12, by omega, rfl, nall, rfl⟩
  have hnums : Nums s := fun j x hx => hall j x (by have := (List.getElem?_eq_some_iff.1 hx).1; omega) hx
  have hn' : s.length ≤ 1000000 := by omega
  have hnum := hnums.bound hn'
  simp +contextual (disch := omega) only [↓AM, ↓AV, AP, CQ, hin]
  refine (c_Follow (keep := x2) (rd.keepW w f1 nNo) (rt.keepW w f1 nNo) hn' (by omega) hnum).use ?_
  rintro _ h2 w2 ⟨f2, o1, c1, o2, c2, L1, L2, e, rfl, q1, q2, fp⟩
  have f12 := f1.trans f2 fun _ _ f => f
  by_cases he : e = 0
  case neg =>
    have e5 : EqI e 0 = False := eq_false he
    simp +contextual (disch := omega) only [↓AM, ↓AV, AP, CQ, e5]
    refine (Tw.c_follows _).use ?_
    rintro _ _ w8 ⟨rfl, rfl⟩
    simp +contextual (disch := omega) only [↓AM, ↓AV, AP, CQ]
  subst he
  have e5 : EqI (0 : Int) 0 = True := eq_true rfl
  have htok : TOK ts := Classical.byContradiction fun q => by have := (fp.bad q).1; omega
  have her : er s (0, 1) x2 = 0 := Classical.byContradiction fun q => by have := (fp.err htok q).1; omega
  obtain ⟨-, hL1, hL2⟩ := fp.ok htok her
  have ok := fol_ok (keep := x2) hnum ts ts.length
  have tp := tp_all (keep := x2) (ts := ts) hnum ts.length (Nat.le_refl _)
  rw [List.take_of_length_le (Nat.le_refl _)] at ok tp
  have hup : L1.Pairwise fun x y => x < y := by rw [hL1]; exact ok.up
  have hlen : L1.length ≤ ts.length := by rw [hL1]; exact ok.l1
  have hlen2 : L2.length ≤ ts.length := by rw [hL2]; exact ok.l2
  have htk : ∀ n ∈ L1, ∃ x ∈ s, ∃ j t, j < ts.length ∧ ts[j]? = some t ∧ x.1 = n ∧ leT x.2.2.1 t := by rw [hL1]; exact tp.tk
  have htold : ∀ k a b, L1[k]? = some a → L1[k + 1]? = some b → ((((k + 1 : Nat) : Int) ∈ L2) ↔ b ≠ a + 1) := by rw [hL1, hL2]; exact tp.told
  clear hL1 hL2 ok tp fp
  simp +contextual (disch := omega) only [↓AM, ↓AV, AP, CQ, e5]
  refine WL.mk (fun k u h' => ∃ i : Nat, Wf h' ∧ Fm No h2 h' ∧ i ≤ L1.length ∧ k = L1.length - i ∧ u = [(0, some (.slice oa s.length c)), (1, some (.slice ta ts.length d)), (8, some (.slice o1 L1.length c1)), (9, some (.slice o2 L2.length c2)), (11, some (.int .i64 (i : Int)))]) ⟨L1.length, 0, w2, Fm.refl, by omega, rfl, rfl⟩ ?_
  rintro k u h3 ⟨i, w3, f3, hi, rfl, rfl⟩
  have f03 := f12.trans f3 fun _ _ f => f
  by_cases hin : i < L1.length
  case neg =>
    simp +contextual (disch := omega) only [↓AM, ↓AV, AP, CQ, hin, hlen]
    refine (Tw.c_follows _).use ?_
    rintro _ _ w8 ⟨rfl, rfl⟩
    simp +contextual (disch := omega) only [↓AM, ↓AV, AP, CQ]
  obtain ⟨b1, p1, s1, rfl, g1, n, hx, r1⟩ := Rd.int (q1.keepW w2 f3 nNo) hin
  obtain ⟨x, hxs, j, t, hj, htj, hxn, hle⟩ := htk n (List.mem_of_getElem? hx)
  obtain ⟨m, hm⟩ := List.getElem?_of_mem hxs
  have hml := (List.getElem?_eq_some_iff.1 hm).1
  have hxm := hnums m x hm
  have hnm : n = (m : Int) + 1 := by omega
  subst hnm
  obtain ⟨b3, p3, s3, y, ee3, g3, hy, r3, r4⟩ := num_at (rd.keepW w f03 nNo) hml
  rw [hm] at hy
  cases hy
  subst ee3
  have hts0 : 0 < ts.length := by omega
  have htl : ts[ts.length - 1]? = some (ts[ts.length - 1]'(by omega)) := List.getElem?_eq_getElem (by omega)
  obtain ⟨b4, p4, s4, tl, ee4, g4, htl2, r5, -⟩ := (rt.keepW w f03 nNo).elem timC_len rfl (show ts.length - 1 < ts.length by omega)
  subst ee4
  have hlast := tok_le htok (ts.length - 1 - j) j t tl htj (by rw [show j + (ts.length - 1 - j) = ts.length - 1 by omega]; exact htl2)
  have hnb : ¬ bef tl x.2.2.1 := fun q => by
    obtain ⟨⟨v1, v2⟩, q⟩ := q
    have v3 := (htok j t htj).1
    have := leT_trans (b := t) (by have := v3.1; omega) (by have := v2.1; omega) (by have := v1.1; omega) hle hlast
    unfold leT at this
    omega
  have k1 : ((((m + 1 : Nat) : Int)) < 1) = False := eq_false (by omega)
  have k2 : ((s.length : Int) < (((m + 1 : Nat) : Int))) = False := eq_false (by omega)
  have k2' : (s.length < m + 1) = False := eq_false (by omega)
  have k3 : EqI (ts.length : Int) 0 = False := eq_false (by unfold EqI; omega)
  have k4 : (0 < ts.length) = True := eq_true hts0
  obtain ⟨T, hT⟩ : ∃ T, ts.length = T + 1 := ⟨ts.length - 1, by omega⟩
  rw [hT, Nat.add_sub_cancel] at r5
  have kT : T < T + 1 := Nat.lt_succ_self _
  have q3 := rdN_sub (k := 3) (l := 2) r4 (by omega)
  have q3 : h3.rdN b3 (p3 + m * 7 + 3) 2 = some [.int .i64 x.2.2.1.1, .int .i64 x.2.2.1.2] := q3
  simp only [timC] at r5
  have k3' : EqI ((T + 1 : Nat) : Int) 0 = False := eq_false (by unfold EqI; omega)
  cases i with
  | zero =>
    have r1z := r1
    simp only [Nat.zero_mul, Nat.add_zero] at r1z
    have e6 : ((0 : Int) < ((0 : Nat) : Int)) = False := by simp
    simp +contextual (disch := omega) only [↓AM, ↓AV, AP, CQ, hin, g1, g3, g4, r1, r1z, r3, r5, q3, i64, k1, k2, k2', k3, k3', kT, hT, e6, hml]
    refine (c_before (x := tl) (y := x.2.2.1)).use ?_
    rintro _ h4 w4 ⟨rfl, f4⟩
    have f34 := f3.trans f4 fun _ _ f => f
    simp +contextual (disch := omega) only [↓AM, ↓AV, AP, CQ, hnb]
    refine (c_HasInt (x := ((0 : Nat) : Int)) (q2.keepW w2 f34 nNo) (by omega)).use ?_
    rintro _ _ w5 ⟨⟨mm, rfl, hmm⟩, rfl⟩
    simp +contextual (disch := omega) only [↓AM, ↓AV, AP, CQ, e6, i64]
    exact ⟨L1.length - 1, by omega, 1, w5, f34, by omega, rfl, by rw [hT]⟩
  | succ i =>
    have e6 : ((0 : Int) < ((i + 1 : Nat) : Int)) = True := eq_true (by omega)
    have hin2 : i < L1.length := by omega
    obtain ⟨b5, p5, s5, ee5, g5, n5, hx5, r6⟩ := Rd.int (q1.keepW w2 f3 nNo) hin2
    cases ee5
    have hlt : n5 < ((m + 1 : Nat) : Int) := by
      have := List.pairwise_iff_getElem.1 hup i (i + 1) hin2 hin (by omega)
      have h5 := (List.getElem?_eq_some_iff.1 hx5).2
      have h6 := (List.getElem?_eq_some_iff.1 hx).2
      omega
    have k5 : (((m + 1 : Nat) : Int) ≤ n5) = False := eq_false (by omega)
    have htd := htold i n5 _ hx5 hx
    simp +contextual (disch := omega) only [↓AM, ↓AV, AP, CQ, hin, hin2, g1, g3, g4, r1, r3, r5, r6, q3, i64, k1, k2, k2', k3, k3', k5, kT, hT, e6, hml]
    refine (c_before (x := tl) (y := x.2.2.1)).use ?_
    rintro _ h4 w4 ⟨rfl, f4⟩
    have f34 := f3.trans f4 fun _ _ f => f
    simp +contextual (disch := omega) only [↓AM, ↓AV, AP, CQ, hnb]
    refine (c_HasInt (x := ((i + 1 : Nat) : Int)) (q2.keepW w2 f34 nNo) (by omega)).use ?_
    rintro _ _ w5 ⟨⟨mm, rfl, hmm⟩, rfl⟩
    obtain ⟨b6, p6, s6, ee6, g6, n6, hx6, r7⟩ := Rd.int (q1.keepW w2 f34 nNo) hin2
    obtain ⟨b7, p7, s7, ee7, g7, n7, hx7, r8⟩ := Rd.int (q1.keepW w2 f34 nNo) hin
    cases ee6
    cases ee7
    rw [hx5] at hx6
    cases hx6
    rw [hx] at hx7
    cases hx7
    have hnb5 : -1000000000 ≤ n5 ∧ n5 ≤ 1000000000 := by
      obtain ⟨x5, hx5s, _, _, _, _, hx5n, _⟩ := htk n5 (List.mem_of_getElem? hx5)
      have := hnum x5 hx5s
      omega
    have e8 : ((m : Int) + 1) = (((m + 1 : Nat)) : Int) := rfl
    rw [e8] at *
    by_cases ht : (0 : Int) ≤ mm
    · have h9 : ¬ ((m + 1 : Nat) : Int) = n5 + 1 := htd.1 (hmm.1 ht)
      have e9 : EqI ((m + 1 : Nat) : Int) (n5 + 1) = False := eq_false h9
      simp +contextual (disch := omega) only [↓AM, ↓AV, AP, CQ, hin, hin2, g1, r7, r8, e6, i64, ht, e9]
      exact ⟨fun q => absurd q (by decide), fun _ => ⟨L1.length - (i + 1 + 1), by omega, i + 1 + 1, w5, f34, by omega, rfl, by rw [hT]⟩⟩
    · have h9 : ((m + 1 : Nat) : Int) = n5 + 1 := Classical.byContradiction fun q => ht (hmm.2 (htd.2 q))
      have e9 : EqI ((m + 1 : Nat) : Int) (n5 + 1) = True := eq_true h9
      simp +contextual (disch := omega) only [↓AM, ↓AV, AP, CQ, hin, hin2, g1, r7, r8, e6, i64, ht, e9]
      exact ⟨fun q => absurd q (by decide), fun _ => ⟨L1.length - (i + 1 + 1), by omega, i + 1 + 1, w5, f34, by omega, rfl, by rw [hT]⟩⟩
end Go.Proofs.Ytbfbgkhlngkifaa.LTopWindows
