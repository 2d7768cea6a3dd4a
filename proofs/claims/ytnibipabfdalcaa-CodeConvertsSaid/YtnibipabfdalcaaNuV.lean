/- The document's fractions. Plain theorems over the abstract machine.
   Conditions: none. -/
import Derived.Test.YtnibipabfdalcaaNuU
namespace Go.Proofs.Ytnibipabfdalcaa.Nu
open Go Go.RowKit Go.Proofs.Ytnibipabfdalcaa.Am Go.Proofs.Ytnibipabfdalcaa.Af Go.Proofs.Ytnibipabfdalcaa.Md
set_option linter.unusedVariables false
set_option linter.unusedSimpArgs false
set_option linter.defProp false
set_option maxRecDepth 20000
set_option maxHeartbeats 2000000

theorem c_Small {h : Hp} {oa : Option Addr} {c x most : Nat} (l : Dm h oa (dc x).length c (dc x)) (hx : x ≤ most) (hm0 : most ≤ 1099511627776) :
    ACalls Try.prog 74 [.slice oa (dc x).length c, .int .i64 (most : Int)] h fun r h' => r = .tuple #[.int .i64 (x : Int), .bool true] ∧ Fm No h h' := by
  refine dioramaref02_Small_ok.snd hm rfl fun w => ?_
  rw [WF_eq, dioramaref02_Small]
  have hxl : (dc x).length ≤ 2 := dc_len (Nat.lt_of_le_of_lt (show x ≤ 1099511627776 by omega) (by decide))
  have hml : (dc most).length ≤ 2 := dc_len (Nat.lt_of_le_of_lt hm0 (by decide))
  simp +contextual (disch := omega) only [↓AM, ↓AV, AP, CQ, i64]
  refine (c_Of (x := most) (by omega)).use ?_
  rintro _ h1 w1 ⟨⟨ma, mc, rfl, lm, -⟩, fm1⟩
  simp +contextual (disch := omega) only [↓AM, ↓AV, AP, CQ, i64]
  have l1 : Dm h1 oa (dc x).length c (dc x) := ⟨l.rd.keepW w fm1 nNo, l.le, l.dl⟩
  refine (c_Compare l1 lm (by omega) (by omega)).use ?_
  rintro _ h2 w2 ⟨rfl, rfl⟩
  have ec : ((0 : Int) < (if x < most then (-1 : Int) else if x = most then 0 else 1)) = False := eq_false (by have := (cmp_le (u := x) (s := most)).mpr hx; omega)
  simp +contextual (disch := omega) only [↓AM, ↓AV, AP, CQ, i64, ec]
  refine WL.mk (fun k t h' => h' = h2 ∧ k ≤ (dc x).length ∧ t = [(0, some (.slice oa (dc x).length c)), (6, some (.int .i64 ((vL B9 ((dc x).drop k) : Nat) : Int))), (7, some (.int .i64 ((k : Int) - 1)))])
    ⟨(dc x).length, rfl, Nat.le_refl _, by rw [List.drop_eq_nil_of_le (Nat.le_refl _)]; rfl⟩ ?_
  rintro k t hh ⟨rfl, hk, rfl⟩
  cases k with
  | zero =>
    have e2 : ((0 : Int) ≤ ((0 : Nat) : Int) - 1) = False := by simp
    simp +contextual (disch := omega) only [↓AM, ↓AV, AP, CQ, i64, e2, List.drop_zero, dc_val]
    exact fm1
  | succ k =>
    have hk1 : k < (dc x).length := by omega
    obtain ⟨b1, o1, s1, p, rfl, f1, hp, r2⟩ := l1.rd.dec hk1
    have hpl : p < 1000000000 := l.dl.at hp
    have hvl : vL B9 ((dc x).drop (k + 1)) < 1000000000 := by
      have h1 := vL_lt (B := B9) (l := (dc x).drop (k + 1)) fun d hd => dc_dl x d (List.mem_of_mem_drop hd)
      rw [List.length_drop] at h1
      have h2 : B9 ^ ((dc x).length - (k + 1)) ≤ B9 ^ 1 := Nat.pow_le_pow_right (by decide) (by omega)
      have : B9 ^ 1 = 1000000000 := by decide
      omega
    have ed : vL B9 ((dc x).drop k) = vL B9 ((dc x).drop (k + 1)) * 1000000000 + p := by
      rw [List.drop_eq_getElem_cons hk1]
      rw [List.getElem?_eq_getElem hk1] at hp
      rw [Option.some.inj hp, vL]
      show p + 1000000000 * _ = _
      omega
    generalize vL B9 ((dc x).drop (k + 1)) = v at *
    have e3 : (v : Int) * 1000000000 = ((v * 1000000000 : Nat) : Int) := rfl
    simp +contextual (disch := omega) only [↓AM, ↓AV, AP, CQ, CN, i64, f1, r2, hk1, e3]
    exact ⟨k, by omega, by omega, by rw [ed]⟩
/-- A fraction of the document. -/
def RatV (h : Hp) (r : Value) (p q : Nat) : Prop := ∃ u v, r = .agg #[.bool false, u, v] ∧ DmV h u p ∧ DmV h v q
theorem RatV.keep {h h' : Hp} {r : Value} {p q : Nat} (l : RatV h r p q) (w : Wf h) (fm : Fm No h h') : RatV h' r p q := by
  obtain ⟨u, v, e, l1, l2⟩ := l
  exact ⟨u, v, e, l1.keep w fm, l2.keep w fm⟩
theorem rd_nn {h : Hp} {o o' : Ob} {i : Nat} : ((h.new o).new o').rd h.size i = o.cs[i]? := by
  rw [rd_keep (get_new (Nat.lt_succ_self _)), rnew]
theorem DmW.put {S : Nat → Prop} {h : Hp} {v : Value} {x p : Nat} {o : Ob} (l : DmW S h v x) (w : Wf h) (hp : ¬ S p) : DmW S (h.put p o) v x := by
  obtain ⟨oa, c, e, l, hS⟩ := l
  exact ⟨oa, c, e, ⟨l.rd.keep (F := fun z => z = p) w (Fm.put Fm.refl fun _ => rfl) (fun z hz e => hp (e ▸ hS z hz)), l.le, l.dl⟩, hS⟩
theorem rd_n3 {h : Hp} {a b c : Value} {md : Md} : (h.new ⟨[a, b, c], md⟩).rdN h.size 0 3 = some [a, b, c] := rdN_new rfl
theorem rdp_n3 {h : Hp} {p : Nat} {a b c : Value} {md : Md} : (h.put p ⟨[a, b, c], md⟩).rdN p 0 3 = some [a, b, c] := by
  rw [rdN_mk gput (Nat.le_refl 3)]; rfl
theorem c_RatOf {h : Hp} {p q : Nat} (hp : (p : Int) ≤ 9223372036854775807) (hq : (q : Int) ≤ 9223372036854775807) :
    ACalls Try.prog 37 [.agg #[.int .i64 (p : Int), .int .i64 (q : Int)]] h fun r h' => RatV h' r p q ∧ Fm No h h' := by
  refine dioramaref02_RatOf_ok.snd hm rfl fun w => ?_
  rw [WF_eq, dioramaref02_RatOf]
  obtain ⟨p2, hp2⟩ : ∃ b, (h.new ⟨[.int .i64 (p : Int), .int .i64 (q : Int)], .own⟩).size = b := ⟨_, rfl⟩
  have h12 : h.size < p2 := by rw [← hp2]; exact Nat.lt_succ_self _
  have e0 : ((p : Int) < 0) = False := by simp
  have fm0 : Fm No h ((h.new ⟨[.int .i64 (p : Int), .int .i64 (q : Int)], .own⟩).new ⟨[.bool false, .slice none 0 0, .slice none 0 0], .own⟩) := Fm.new (Fm.new Fm.refl)
  have w0 : Wf ((h.new ⟨[.int .i64 (p : Int), .int .i64 (q : Int)], .own⟩).new ⟨[.bool false, .slice none 0 0, .slice none 0 0], .own⟩) := w.new.new
  have g1 : ((h.new ⟨[.int .i64 (p : Int), .int .i64 (q : Int)], .own⟩).new ⟨[.bool false, .slice none 0 0, .slice none 0 0], .own⟩).get h.size = some ⟨[.int .i64 (p : Int), .int .i64 (q : Int)], .own⟩ := (get_new (Nat.lt_succ_self _)).trans gnew
  have g2 : ((h.new ⟨[.int .i64 (p : Int), .int .i64 (q : Int)], .own⟩).new ⟨[.bool false, .slice none 0 0, .slice none 0 0], .own⟩).get p2 = some ⟨[.bool false, .slice none 0 0, .slice none 0 0], .own⟩ := by rw [← hp2]; exact gnew
  simp +contextual (disch := omega) only [↓AM, ↓AV, AP, CQ, rd_nn, i64, e0]
  refine (c_size hp).use ?_
  rintro _ h1 w1 ⟨lu, fm1⟩
  have lu0 := lu
  obtain ⟨ua, uc, rfl, -, -⟩ := lu
  have g1a := fm1.keep w0 g1 (fun f => f)
  have r0 := rd_mk g1a (i := 0)
  have r1 := rd_mk g1a (i := 1)
  simp only [List.getElem?_cons_zero, List.getElem?_cons_succ] at r0 r1
  simp +contextual (disch := omega) only [↓AM, ↓AV, AP, CQ, rd_nn, i64, r0, r1]
  refine (c_Of hq).use ?_
  rintro _ h3 w3 ⟨lv, fm3⟩
  have lv0 := lv
  obtain ⟨va, vc, rfl, -, -⟩ := lv
  have g1b := fm3.keep w1 g1a (fun f => f)
  have g2b := fm3.keep w1 (fm1.keep w0 g2 (fun f => f)) (fun f => f)
  have r0 := rd_mk g1b (i := 0)
  have r1 := rd_mk g1b (i := 1)
  simp only [List.getElem?_cons_zero, List.getElem?_cons_succ] at r0 r1
  simp +contextual (disch := omega) only [↓AM, ↓AV, AP, CQ, rd_nn, i64, r0, r1, hp2, g2b, rdp_n3]
  have ed : decide ((p : Int) < 0) = false := by simp
  rw [ed]
  have l2b := w3.lt g2b
  have n1 : ¬ ((h.new ⟨[.int .i64 (p : Int), .int .i64 (q : Int)], .own⟩).new ⟨[.bool false, .slice none 0 0, .slice none 0 0], .own⟩).size ≤ p2 := by rw [← hp2]; simp only [size_new]; omega
  have n2 : ¬ h1.size ≤ p2 := by have := w1.lt (fm1.keep w0 g2 (fun f => f)); omega
  exact ⟨⟨_, _, rfl, (((lu0.keep w1 fm3).put w3 n1).v), ((lv0.put w3 n2).v)⟩, ((fm0.trans fm1 fun _ _ f => f).trans fm3 fun _ _ f => f).put fun hlt => absurd hlt (by omega)⟩
theorem c_times {h : Hp} {r s : Value} {p1 q1 p2 q2 : Nat} (lr : RatV h r p1 q1) (ls : RatV h s p2 q2) (h1 : p1 < B9 ^ 40) (h2 : q1 < B9 ^ 40) (h3 : p2 < B9 ^ 40) (h4 : q2 < B9 ^ 40) :
    ACalls Try.prog 36 [r, s] h fun v h' => RatV h' v (p1 * p2) (q1 * q2) ∧ Fm No h h' := by
  refine dioramaref20_times_ok.snd hm rfl fun w => ?_
  rw [WF_eq, dioramaref20_times]
  obtain ⟨_, _, rfl, ⟨a1, c1, rfl, l1⟩, ⟨a2, c2, rfl, l2⟩⟩ := lr
  obtain ⟨_, _, rfl, ⟨a3, c3, rfl, l3⟩, ⟨a4, c4, rfl, l4⟩⟩ := ls
  have le : ∀ {x}, x < B9 ^ 40 → (dc x).length ≤ 400000 := fun h => Nat.le_trans (dc_len h) (by decide)
  obtain ⟨hA, hhA⟩ : ∃ g, h.new ⟨[.bool false, .slice a1 (dc p1).length c1, .slice a2 (dc q1).length c2], .own⟩ = g := ⟨_, rfl⟩
  obtain ⟨hB, hhB⟩ : ∃ g, hA.new ⟨[.bool false, .slice a3 (dc p2).length c3, .slice a4 (dc q2).length c4], .own⟩ = g := ⟨_, rfl⟩
  obtain ⟨hC, hhC⟩ : ∃ g, hB.new ⟨[.bool false, .slice none 0 0, .slice none 0 0], .own⟩ = g := ⟨_, rfl⟩
  have sA : hA.size = h.size + 1 := by rw [← hhA]; rfl
  have sB : hB.size = h.size + 2 := by rw [← hhB, size_new, sA]
  have sC : hC.size = h.size + 3 := by rw [← hhC, size_new, sB]
  have wA : Wf hA := hhA ▸ w.new
  have wB : Wf hB := hhB ▸ wA.new
  have wC : Wf hC := hhC ▸ wB.new
  have fmA : Fm No h hA := hhA ▸ Fm.new Fm.refl
  have fmB : Fm No hA hB := hhB ▸ Fm.new Fm.refl
  have fmC : Fm No hB hC := hhC ▸ Fm.new Fm.refl
  have gA : hA.get h.size = some ⟨[.bool false, .slice a1 (dc p1).length c1, .slice a2 (dc q1).length c2], .own⟩ := hhA ▸ gnew
  have gB : hB.get hA.size = some ⟨[.bool false, .slice a3 (dc p2).length c3, .slice a4 (dc q2).length c4], .own⟩ := hhB ▸ gnew
  have gC : hC.get hB.size = some ⟨[.bool false, .slice none 0 0, .slice none 0 0], .own⟩ := hhC ▸ gnew
  have gA := fmC.keep wB (fmB.keep wA gA (fun f => f)) (fun f => f)
  have gB := fmC.keep wB gB (fun f => f)
  have fm0 : Fm No h hC := (fmA.trans fmB fun _ _ f => f).trans fmC fun _ _ f => f
  have bne : (false != false) = false := rfl
  have u0 := rd_mk gA (i := 0)
  have u1 := rd_mk gA (i := 1)
  have u2 := rd_mk gA (i := 2)
  have v0 := rd_mk gB (i := 0)
  have v1 := rd_mk gB (i := 1)
  have v2 := rd_mk gB (i := 2)
  simp only [List.getElem?_cons_zero, List.getElem?_cons_succ] at u0 u1 u2 v0 v1 v2
  simp +contextual (disch := omega) only [↓AM, ↓AV, AP, CQ, i64, hhA, hhB, hhC]
  simp +contextual (disch := omega) only [↓AM, ↓AV, AP, CQ, i64, hhA, hhB, hhC, u0, u1, u2, v0, v1, v2, bne]
  refine (c_Times ⟨l1.rd.keepW w fm0 nNo, l1.le, l1.dl⟩ ⟨l3.rd.keepW w fm0 nNo, l3.le, l3.dl⟩ (le h1) (le h3)).use ?_
  rintro _ hD wD ⟨lu, fmD⟩
  have lu0 := lu
  obtain ⟨ua, uc, rfl, -, -⟩ := lu
  have gA := fmD.keep wC gA (fun f => f)
  have gB := fmD.keep wC gB (fun f => f)
  have gC := fmD.keep wC gC (fun f => f)
  have u0 := rd_mk gA (i := 0)
  have u1 := rd_mk gA (i := 1)
  have u2 := rd_mk gA (i := 2)
  have v0 := rd_mk gB (i := 0)
  have v1 := rd_mk gB (i := 1)
  have v2 := rd_mk gB (i := 2)
  simp only [List.getElem?_cons_zero, List.getElem?_cons_succ] at u0 u1 u2 v0 v1 v2
  simp +contextual (disch := omega) only [↓AM, ↓AV, AP, CQ, i64, hhA, hhB, hhC, u0, u1, u2, v0, v1, v2, bne]
  have fm0D := fm0.trans fmD fun _ _ f => f
  refine (c_Times ⟨l2.rd.keepW w fm0D nNo, l2.le, l2.dl⟩ ⟨l4.rd.keepW w fm0D nNo, l4.le, l4.dl⟩ (le h2) (le h4)).use ?_
  rintro _ hE wE ⟨lv, fmE⟩
  have lv0 := lv
  obtain ⟨va, vc, rfl, -, -⟩ := lv
  have gA := fmE.keep wD gA (fun f => f)
  have gB := fmE.keep wD gB (fun f => f)
  have gC := fmE.keep wD gC (fun f => f)
  have u0 := rd_mk gA (i := 0)
  have u1 := rd_mk gA (i := 1)
  have u2 := rd_mk gA (i := 2)
  have v0 := rd_mk gB (i := 0)
  have v1 := rd_mk gB (i := 1)
  have v2 := rd_mk gB (i := 2)
  simp only [List.getElem?_cons_zero, List.getElem?_cons_succ] at u0 u1 u2 v0 v1 v2
  simp +contextual (disch := omega) only [↓AM, ↓AV, AP, CQ, i64, hhA, hhB, hhC, u0, u1, u2, v0, v1, v2, gC, bne, rdp_n3]
  have lD := fmD.size
  refine ⟨⟨_, _, rfl, ((lu0.keep wD fmE).put wE (by omega)).v, (lv0.put wE (by omega)).v⟩, (fm0D.trans fmE fun _ _ f => f).put fun hlt => absurd hlt (by omega)⟩
theorem c_floor {h : Hp} {r : Value} {p q : Nat} {day : Nat} (lr : RatV h r p q) (hp : p < B9 ^ 50) (hq : q < B9 ^ 50) (hq0 : 0 < q) (hd : 0 < day) (hd2 : day ≤ 1099511627776) :
    ACalls Try.prog 39 [r, .int .i64 (day : Int)] h fun v h' => v = .int .i64 ((p / q % day : Nat) : Int) ∧ Fm No h h' := by
  refine dioramaref20_floor_ok.snd hm rfl fun w => ?_
  rw [WF_eq, dioramaref20_floor]
  obtain ⟨_, _, rfl, ⟨a1, c1, rfl, l1⟩, ⟨a2, c2, rfl, l2⟩⟩ := lr
  obtain ⟨hA, hhA⟩ : ∃ g, h.new ⟨[.bool false, .slice a1 (dc p).length c1, .slice a2 (dc q).length c2], .own⟩ = g := ⟨_, rfl⟩
  have wA : Wf hA := hhA ▸ w.new
  have fmA : Fm No h hA := hhA ▸ Fm.new Fm.refl
  have gA : hA.get h.size = some ⟨[.bool false, .slice a1 (dc p).length c1, .slice a2 (dc q).length c2], .own⟩ := hhA ▸ gnew
  have u1 := rd_mk gA (i := 1)
  have u2 := rd_mk gA (i := 2)
  simp only [List.getElem?_cons_zero, List.getElem?_cons_succ] at u1 u2
  simp +contextual (disch := omega) only [↓AM, ↓AV, AP, CQ, i64, hhA]
  try simp +contextual (disch := omega) only [↓AM, ↓AV, AP, CQ, i64, hhA, u1, u2]
  have hpl : (dc p).length ≤ 100 := Nat.le_trans (dc_len hp) (by decide)
  refine (c_Over ⟨l1.rd.keepW w fmA nNo, l1.le, l1.dl⟩ ⟨l2.rd.keepW w fmA nNo, l2.le, l2.dl⟩ hpl (Nat.lt_trans hq (Nat.pow_lt_pow_right (by decide) (by decide))) hq0).use ?_
  rintro _ h1 w1 ⟨_, _, rfl, ⟨qa, qc, rfl, lq⟩, -, fm1⟩
  simp +contextual (disch := omega) only [↓AM, ↓AV, AP, CQ, i64]
  refine (c_Of (x := day) (by omega)).use ?_
  rintro _ h2 w2 ⟨⟨da, dcc, rfl, ld, -⟩, fm2⟩
  simp +contextual (disch := omega) only [↓AM, ↓AV, AP, CQ, i64]
  have hql : (dc (p / q)).length ≤ 100 := Nat.le_trans (dc_len (Nat.lt_of_le_of_lt (Nat.div_le_self p q) hp)) (by decide)
  refine (c_Over ⟨lq.rd.keepW w1 fm2 nNo, lq.le, lq.dl⟩ ld hql (Nat.lt_of_le_of_lt hd2 (Nat.lt_of_lt_of_le (show 1099511627776 < B9 ^ 2 by decide) (Nat.pow_le_pow_right (by decide) (by decide)))) hd).use ?_
  rintro _ h3 w3 ⟨_, _, rfl, -, ⟨ra, rc, rfl, lr⟩, fm3⟩
  simp +contextual (disch := omega) only [↓AM, ↓AV, AP, CQ, i64]
  refine (c_Small lr (Nat.le_of_lt (Nat.mod_lt _ hd)) hd2).use ?_
  rintro _ h4 w4 ⟨rfl, fm4⟩
  simp +contextual (disch := omega) only [↓AM, ↓AV, AP, CQ, i64]
  exact (((fmA.trans fm1 fun _ _ f => f).trans fm2 fun _ _ f => f).trans fm3 fun _ _ f => f).trans fm4 fun _ _ f => f
theorem c_speed {h : Hp} {F : Nat} {D : Bool} (hF : 1 ≤ F ∧ F ≤ 60) :
    ACalls Try.prog 35 [rateV (F : Int) D] h fun v h' => RatV h' v (upN F D) (dnN D) ∧ Fm No h h' := by
  refine dioramaref20_speed_ok.snd hm rfl fun w => ?_
  rw [WF_eq, dioramaref20_speed, rateV]
  obtain ⟨hA, hhA⟩ : ∃ g, h.new ⟨[.int .i64 (F : Int), .bool D], .own⟩ = g := ⟨_, rfl⟩
  obtain ⟨hB, hhB⟩ : ∃ g, hA.new ⟨[.bool false, .slice none 0 0, .slice none 0 0], .own⟩ = g := ⟨_, rfl⟩
  have sA : hA.size = h.size + 1 := by rw [← hhA]; rfl
  have sB : hB.size = h.size + 2 := by rw [← hhB, size_new, sA]
  have wA : Wf hA := hhA ▸ w.new
  have wB : Wf hB := hhB ▸ wA.new
  have fmA : Fm No h hA := hhA ▸ Fm.new Fm.refl
  have fmB : Fm No hA hB := hhB ▸ Fm.new Fm.refl
  have gA : hA.get h.size = some ⟨[.int .i64 (F : Int), .bool D], .own⟩ := hhA ▸ gnew
  have gB : hB.get hA.size = some ⟨[.bool false, .slice none 0 0, .slice none 0 0], .own⟩ := hhB ▸ gnew
  have gA := fmB.keep wA gA (fun f => f)
  have u0 := rd_mk gA (i := 0)
  have u1 := rd_mk gA (i := 1)
  simp only [List.getElem?_cons_zero, List.getElem?_cons_succ] at u0 u1
  have fm0 := fmA.trans fmB fun _ _ f => f
  have fin : ∀ (x y : Nat), (x : Int) ≤ 9223372036854775807 → (y : Int) ≤ 9223372036854775807 → True := fun _ _ _ _ => trivial
  cases D
  · simp +contextual (disch := omega) only [↓AM, ↓AV, AP, CQ, i64, hhA, hhB]
    try simp +contextual (disch := omega) only [↓AM, ↓AV, AP, CQ, i64, hhA, hhB, u0, u1]
    refine (c_Of (x := F) (by omega)).use ?_
    rintro _ h1 w1 ⟨lu, fm1⟩
    have lu0 := lu
    obtain ⟨ua, uc, rfl, -, -⟩ := lu
    simp +contextual (disch := omega) only [↓AM, ↓AV, AP, CQ, i64]
    refine (c_Of (x := 1) (by decide)).use ?_
    rintro _ h2 w2 ⟨lv, fm2⟩
    have lv0 := lv
    obtain ⟨va, vc, rfl, -, -⟩ := lv
    have gB := fm2.keep w1 (fm1.keep wB gB (fun f => f)) (fun f => f)
    simp +contextual (disch := omega) only [↓AM, ↓AV, AP, CQ, i64, hhA, hhB, gB, rdp_n3]
    have l1 := fm1.size
    exact ⟨⟨_, _, rfl, ((lu0.keep w1 fm2).put w2 (by omega)).v, (lv0.put w2 (by omega)).v⟩, ((fm0.trans fm1 fun _ _ f => f).trans fm2 fun _ _ f => f).put fun hlt => absurd hlt (by omega)⟩
  · have e : 1000 * (F : Int) = ((F * 1000 : Nat) : Int) := by omega
    simp +contextual (disch := omega) only [↓AM, ↓AV, AP, CQ, i64, hhA, hhB]
    try simp +contextual (disch := omega) only [↓AM, ↓AV, AP, CQ, i64, hhA, hhB, u0, u1, e]
    refine (c_Of (x := F * 1000) (by omega)).use ?_
    rintro _ h1 w1 ⟨lu, fm1⟩
    have lu0 := lu
    obtain ⟨ua, uc, rfl, -, -⟩ := lu
    simp +contextual (disch := omega) only [↓AM, ↓AV, AP, CQ, i64]
    refine (c_Of (x := 1001) (by decide)).use ?_
    rintro _ h2 w2 ⟨lv, fm2⟩
    have lv0 := lv
    obtain ⟨va, vc, rfl, -, -⟩ := lv
    have gB := fm2.keep w1 (fm1.keep wB gB (fun f => f)) (fun f => f)
    simp +contextual (disch := omega) only [↓AM, ↓AV, AP, CQ, i64, hhA, hhB, gB, rdp_n3]
    have l1 := fm1.size
    exact ⟨⟨_, _, rfl, ((lu0.keep w1 fm2).put w2 (by omega)).v, (lv0.put w2 (by omega)).v⟩, ((fm0.trans fm1 fun _ _ f => f).trans fm2 fun _ _ f => f).put fun hlt => absurd hlt (by omega)⟩
end Go.Proofs.Ytnibipabfdalcaa.Nu
