/- Fractions in memory. Plain theorems over the abstract machine.
   Conditions: none. -/
import Derived.Test.YtnibipabfdalcaaNuF
namespace Go.Proofs.Ytnibipabfdalcaa.Nu
open Go Go.RowKit Go.Proofs.Ytnibipabfdalcaa.Am Go.Proofs.Ytnibipabfdalcaa.Af Go.Proofs.Ytnibipabfdalcaa.Md
set_option linter.unusedVariables false
set_option linter.unusedSimpArgs false
set_option linter.defProp false
set_option maxRecDepth 20000
set_option maxHeartbeats 1000000

theorem dg_len {x k : Nat} (h : x < B32 ^ k) : (dg x).length ≤ k := by
  rcases Nat.lt_or_ge k (dg x).length with hk | hk
  · exfalso
    have h1 := vL_ge b32 (dig_nz (hB := b32) x) (by intro e; rw [show dg x = [] from e] at hk; simp at hk)
    rw [show vL B32 (dig B32 b32 x) = x from dg_val x] at h1
    have h2 : B32 ^ k ≤ B32 ^ ((dig B32 b32 x).length - 1) := Nat.pow_le_pow_right (by decide) (by show k ≤ (dg x).length - 1; omega)
    omega
  · exact hk
theorem dg_len4 {x : Nat} (h : x < B32 ^ 4) : (dg x).length ≤ 400000 := Nat.le_trans (dg_len h) (by decide)
theorem dg_pos {x : Nat} : 0 < (dg x).length ↔ 0 < x := by
  constructor
  · intro h
    rcases Nat.eq_zero_or_pos x with rfl | h0
    · rw [dg_0] at h; simp at h
    · exact h0
  · intro h
    rcases Nat.eq_zero_or_pos (dg x).length with h0 | h0
    · have : dig B32 b32 x = [] := List.length_eq_zero_iff.1 h0
      rw [dig_nil] at this
      omega
    · exact h0
/-- A fraction at a place. -/
def RatAt (h : Hp) (b p q : Nat) : Prop := NatAt h b 0 p ∧ NatAt h b 2 q
theorem XAt.le {h : Hp} {b o o' : Nat} (x : XAt h b o) (ho : o' ≤ o) : XAt h b o' := by
  obtain ⟨cs, h1, h2, h3⟩ := x
  exact ⟨cs, h1, h2, by omega⟩
theorem NatAt.same {h h' : Hp} {b o x : Nat} (n : NatAt h b o x) (w : Wf h) (wr : Wr (fun y => y = b) h h') (e0 : h'.rd b o = h.rd b o) (e1 : h'.rd b (o + 1) = h.rd b (o + 1)) : NatAt h' b o x := by
  have sf := n.x.sf
  obtain ⟨cs, oa, c, h1, h2, h3, h4, h5⟩ := n
  obtain ⟨cs', g1, g2, g3⟩ := wr.ln b cs rfl h1
  rw [rd_mk g1, rd_mk h1] at e0 e1
  exact ⟨cs', oa, c, g1, g3 h2, e0.trans h3, e1.trans h4, h5.wr w wr sf⟩
theorem c_SetFrac {h : Hp} {bx ba oa bb ob p q : Nat} (xa : XAt h bx 2) (na : NatAt h ba oa p) (nb : NatAt h bb ob q) (hp : p < B32 ^ 4) (hq0 : 0 < q) (hq : q < 4294967296) :
    ACalls Try.prog 57 [.pointer (some ⟨bx, 0, none⟩), .pointer (some ⟨ba, oa, none⟩), .pointer (some ⟨bb, ob, none⟩)] h fun r h' => r = .pointer (some ⟨bx, 0, none⟩) ∧ Wr (fun y => y = bx) h h' ∧ RatAt h' bx (p / Nat.gcd p q) (q / Nat.gcd p q) := by
  refine num_Rat__SetFrac_ok.snd hm rfl fun w => ?_
  rw [WF_eq, num_Rat__SetFrac]
  obtain ⟨ca, a, c, ga, sa, a0, a1, la⟩ := na
  obtain ⟨cb, b, d, gb, sb, b0, b1, lb⟩ := nb
  have r0 := (rd_mk ga (i := oa)).trans a0
  have r1 := (rd_mk ga (i := oa + 1)).trans a1
  have q0 := (rd_mk gb (i := ob)).trans b0
  have q1 := (rd_mk gb (i := ob + 1)).trans b1
  have hpl := dg_len4 hp
  have hqB : q < B32 ^ 4 := Nat.lt_trans hq (by decide)
  have hql := dg_len4 hqB
  have hg0 : 0 < Nat.gcd p q := Nat.gcd_pos_of_pos_right _ hq0
  have hg : Nat.gcd p q < 4294967296 := Nat.lt_of_le_of_lt (Nat.gcd_le_right _ hq0) hq
  have bne : (false != false) = false := rfl
  simp +contextual (disch := omega) only [↓AM, ↓AV, AP, CQ, r0, r1, q0, q1, bne]
  refine (c_clone la (by omega)).use ?_
  rintro _ h1 w1 ⟨l, fm⟩
  have r1 := (rd_mk (fm.keep w ga (fun f => f)) (i := oa + 1)).trans a1
  have q1 := (rd_mk (fm.keep w gb (fun f => f)) (i := ob + 1)).trans b1
  simp +contextual (disch := omega) only [↓AM, ↓AV, AP, CQ, r1, q1]
  refine WL.mk (fun k t h' => Wf h' ∧ Fm No h h' ∧ ∃ x u v, k < 4294967296 ∧ x < B32 ^ 4 ∧ Nat.gcd x k = Nat.gcd p q ∧ LmV h' u x ∧ LmV h' v k ∧
      t = [(0, some (.pointer (some ⟨bx, 0, none⟩))), (1, some (.pointer (some ⟨ba, oa, none⟩))), (2, some (.pointer (some ⟨bb, ob, none⟩))), (7, some u), (8, some v)])
    ⟨q, w1, fm, p, _, _, hq, hp, rfl, l, ⟨b, d, rfl, lb.rd.keepW w fm nNo, lb.le, lb.dl⟩, rfl⟩ ?_
  rintro k t h2 ⟨w2, fm2, x, u, v, hk, hx, hgc, ⟨au, cu, rfl, lu⟩, ⟨av, cv, rfl, lv⟩, rfl⟩
  rcases Nat.eq_zero_or_pos k with rfl | hk0
  · have e0 : ((0 : Int) < ((dg 0).length : Int)) = False := by rw [dg_0]; simp
    simp +contextual (disch := omega) only [↓AM, ↓AV, AP, CQ, e0]
    rw [Nat.gcd_zero_right] at hgc
    have r1 := (rd_mk (fm2.keep w ga (fun f => f)) (i := oa + 1)).trans a1
    have la2 := la.rd.keepW w fm2 nNo
    have lb2 := lb.rd.keepW w fm2 nNo
    simp +contextual (disch := omega) only [↓AM, ↓AV, AP, CQ, r1]
    rw [hgc] at lu ⊢
    refine (c_div ⟨la2, la.le, la.dl⟩ lu hpl hg0 hg).use ?_
    rintro _ h3 w3 ⟨up, _, rfl, lup, -, fm3⟩
    have fm3h := fm2.trans fm3 fun _ _ f => f
    have q1 := (rd_mk (fm3h.keep w gb (fun f => f)) (i := ob + 1)).trans b1
    simp +contextual (disch := omega) only [↓AM, ↓AV, AP, CQ, q1]
    refine (c_div ⟨lb2.keepW w2 fm3 nNo, lb.le, lb.dl⟩ ⟨lu.rd.keepW w2 fm3 nNo, lu.le, lu.dl⟩ hql hg0 hg).use ?_
    rintro _ h4 w4 ⟨dn, _, rfl, ldn, -, fm4⟩
    have fm4h := fm3h.trans fm4 fun _ _ f => f
    have r0 := (rd_mk (fm4h.keep w ga (fun f => f)) (i := oa)).trans a0
    have q0 := (rd_mk (fm4h.keep w gb (fun f => f)) (i := ob)).trans b0
    simp +contextual (disch := omega) only [↓AM, ↓AV, AP, CQ, r0, q0, bne]
    have xa4 := xa.keep w fm4h
    refine (c_set (xa4.le (o' := 0) (by omega)) (lup.keep w3 fm4)).use ?_
    rintro _ h5 w5 ⟨rfl, wr5, n5, -⟩
    simp +contextual (disch := omega) only [↓AM, ↓AV, AP, CQ]
    have xa5 := xa4.wr w4 wr5
    refine (c_set xa5 (ldn.wr w4 wr5 xa4.sf)).use ?_
    rintro _ h6 w6 ⟨rfl, wr6, n6, sm⟩
    simp +contextual (disch := omega) only [↓AM, ↓AV, AP, CQ]
    refine ⟨((Wr.of (F := fun y => y = bx) w fm4h).trans w w4 wr5 fun _ _ f => f).trans w w5 wr6 fun _ _ f => f, n5.same w5 wr6 (sm 0 (by omega) (by omega)) (sm 1 (by omega) (by omega)), n6⟩
  · have e0 : ((0 : Int) < ((dg k).length : Int)) = True := eq_true (by have := dg_pos.2 hk0; omega)
    simp +contextual (disch := omega) only [↓AM, ↓AV, AP, CQ, e0]
    refine (c_div lu lv (dg_len4 hx) hk0 hk).use ?_
    rintro _ h3 w3 ⟨qu, rm, rfl, -, lrm, fm3⟩
    simp +contextual (disch := omega) only [↓AM, ↓AV, AP, CQ]
    refine ⟨x % k, Nat.mod_lt _ hk0, w3, fm2.trans fm3 fun _ _ f => f, k, _, _, Nat.lt_trans (Nat.mod_lt _ hk0) hk, Nat.lt_trans hk (by decide), ?_, ⟨av, cv, rfl, lv.rd.keepW w2 fm3 nNo, lv.le, lv.dl⟩, lrm, rfl⟩
    rw [← hgc, Nat.gcd_comm x k, Nat.gcd_rec k x, Nat.gcd_comm]
theorem x_new4 {h : Hp} : XAt (h.new ⟨[.bool false, .slice none 0 0, .bool false, .slice none 0 0], .own⟩) h.size 2 := ⟨_, gnew, st4, by decide⟩
theorem c_NewRat {h : Hp} {p q : Nat} (hp : (p : Int) ≤ 9223372036854775807) (hq0 : 0 < q) (hq : q < 4294967296) :
    ACalls Try.prog 60 [.int .i64 (p : Int), .int .i64 (q : Int)] h fun r h' => ∃ b, r = .pointer (some ⟨b, 0, none⟩) ∧ h.size ≤ b ∧ RatAt h' b (p / Nat.gcd p q) (q / Nat.gcd p q) ∧ Fm No h h' := by
  refine num_NewRat_ok.snd hm rfl fun w => ?_
  rw [WF_eq, num_NewRat]
  simp +contextual (disch := omega) only [↓AM, ↓AV, AP, CQ]
  refine (c_newI hp).use ?_
  rintro _ h1 w1 ⟨b1, rfl, hb1, n1, fm1⟩
  simp +contextual (disch := omega) only [↓AM, ↓AV, AP, CQ]
  refine (c_newI (v := q) (by omega)).use ?_
  rintro _ h2 w2 ⟨b2, rfl, hb2, n2, fm2⟩
  simp +contextual (disch := omega) only [↓AM, ↓AV, AP, CQ]
  have fm12 := fm1.trans fm2 fun _ _ f => f
  refine (c_SetFrac (x_new4.keep w.new fm12) (n1.keep w1 fm2) n2 (Nat.lt_trans (show p < 18446744073709551616 by omega) (by decide)) hq0 hq).use ?_
  rintro _ h3 w3 ⟨rfl, wr, rt⟩
  simp +contextual (disch := omega) only [↓AM, ↓AV, AP, CQ]
  exact ⟨_, rfl, Nat.le_refl _, rt, ((Fm.new Fm.refl).trans fm12 fun _ _ f => f).trans wr.fm fun x hx f => by subst f; omega⟩
theorem c_down {h : Hp} {b p q : Nat} (r : RatAt h b p q) (hq : 0 < q) :
    ACalls Try.prog 59 [.pointer (some ⟨b, 0, none⟩)] h fun r h' => r = .pointer (some ⟨b, 2, none⟩) ∧ h' = h := by
  refine num_Rat__down_ok.snd hm rfl fun w => ?_
  rw [WF_eq, num_Rat__down]
  obtain ⟨cb, a, d, gb, sb, b0, b1, lb⟩ := r.2
  have q1 := (rd_mk gb (i := 3)).trans b1
  have e0 : EqI ((dg q).length : Int) 0 = False := eq_false (by have := dg_pos.2 hq; unfold EqI; omega)
  simp +contextual (disch := omega) only [↓AM, ↓AV, AP, CQ, q1, e0]
theorem c_Num {h : Hp} {b : Nat} : ACalls Try.prog 66 [.pointer (some ⟨b, 0, none⟩)] h fun r h' => r = .pointer (some ⟨b, 0, none⟩) ∧ h' = h := by
  refine num_Rat__Num_ok.snd hm rfl fun w => ?_
  rw [WF_eq, num_Rat__Num]
  simp +contextual (disch := omega) only [↓AM, ↓AV, AP, CQ]
theorem c_Denom {h : Hp} {b p q : Nat} (r : RatAt h b p q) (hq : 0 < q) :
    ACalls Try.prog 67 [.pointer (some ⟨b, 0, none⟩)] h fun r h' => r = .pointer (some ⟨b, 2, none⟩) ∧ h' = h := by
  refine num_Rat__Denom_ok.snd hm rfl fun w => ?_
  rw [WF_eq, num_Rat__Denom]
  simp +contextual (disch := omega) only [↓AM, ↓AV, AP, CQ]
  refine (c_down r hq).use ?_
  rintro _ _ w1 ⟨rfl, rfl⟩
  simp +contextual (disch := omega) only [↓AM, ↓AV, AP, CQ]
end Go.Proofs.Ytnibipabfdalcaa.Nu
