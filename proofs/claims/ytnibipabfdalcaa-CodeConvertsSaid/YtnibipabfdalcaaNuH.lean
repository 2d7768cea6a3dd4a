/- Fractions multiplied and divided; whole numbers divided. Plain theorems over the abstract machine.
   Conditions: none. -/
import Derived.Test.YtnibipabfdalcaaNuG
namespace Go.Proofs.Ytnibipabfdalcaa.Nu
open Go Go.RowKit Go.Proofs.Ytnibipabfdalcaa.Am Go.Proofs.Ytnibipabfdalcaa.Af Go.Proofs.Ytnibipabfdalcaa.Md
set_option linter.unusedVariables false
set_option linter.unusedSimpArgs false
set_option linter.defProp false
set_option maxRecDepth 20000
set_option maxHeartbeats 1000000

theorem RatAt.keep {h h' : Hp} {b p q : Nat} (r : RatAt h b p q) (w : Wf h) (fm : Fm No h h') : RatAt h' b p q := ⟨r.1.keep w fm, r.2.keep w fm⟩
theorem c_QuoR {h : Hp} {bx by' bz p1 q1 p2 q2 : Nat} (xa : XAt h bx 2) (y : RatAt h by' p1 q1) (z : RatAt h bz p2 q2) (h1 : p1 < B32 ^ 2) (h2 : q1 < B32 ^ 2) (h3 : p2 < B32 ^ 2) (h4 : q2 < B32 ^ 2) (hq1 : 0 < q1) (hq2 : 0 < q2) (hp2 : 0 < p2) (hB : q1 * p2 < 4294967296) :
    ACalls Try.prog 26 [.pointer (some ⟨bx, 0, none⟩), .pointer (some ⟨by', 0, none⟩), .pointer (some ⟨bz, 0, none⟩)] h fun r h' => r = .pointer (some ⟨bx, 0, none⟩) ∧ Wr (fun y => y = bx) h h' ∧ RatAt h' bx (p1 * q2 / Nat.gcd (p1 * q2) (q1 * p2)) (q1 * p2 / Nat.gcd (p1 * q2) (q1 * p2)) := by
  refine num_Rat__Quo_ok.snd hm rfl fun w => ?_
  rw [WF_eq, num_Rat__Quo]
  have le4 : ∀ {x}, x < B32 ^ 2 → (dg x).length ≤ 400000 := fun h => dg_len4 (Nat.lt_trans h (by decide))
  have hP : p1 * q2 < B32 ^ 4 := by
    have : p1 * q2 < B32 ^ 2 * B32 ^ 2 := Nat.mul_lt_mul'' h1 h4
    rwa [← Nat.pow_add] at this
  simp +contextual (disch := omega) only [↓AM, ↓AV, AP, CQ]
  refine (c_down z hq2).use ?_
  rintro _ hA w1 ⟨rfl, rfl⟩
  simp +contextual (disch := omega) only [↓AM, ↓AV, AP, CQ]
  refine (c_prod y.1 z.2 (le4 h1) (le4 h4)).use ?_
  rintro _ hB1 w2 ⟨b1, rfl, hb1, n1, fm1⟩
  simp +contextual (disch := omega) only [↓AM, ↓AV, AP, CQ]
  refine (c_down (y.keep w1 fm1) hq1).use ?_
  rintro _ hC w3 ⟨rfl, rfl⟩
  simp +contextual (disch := omega) only [↓AM, ↓AV, AP, CQ]
  refine (c_prod (y.keep w1 fm1).2 (z.keep w1 fm1).1 (le4 h2) (le4 h3)).use ?_
  rintro _ hD w4 ⟨b2, rfl, hb2, n2, fm2⟩
  simp +contextual (disch := omega) only [↓AM, ↓AV, AP, CQ]
  have fm12 := fm1.trans fm2 fun _ _ f => f
  refine (c_SetFrac (xa.keep w1 fm12) (n1.keep w3 fm2) n2 hP (Nat.mul_pos hq1 hp2) hB).use ?_
  rintro _ hE w5 ⟨rfl, wr, rt⟩
  simp +contextual (disch := omega) only [↓AM, ↓AV, AP, CQ]
  exact ⟨(Wr.of (F := fun y => y = bx) w1 fm12).trans w1 w4 wr fun _ _ f => f, rt⟩
theorem c_MulR {h : Hp} {bx by' bz p1 q1 p2 q2 : Nat} (xa : XAt h bx 2) (y : RatAt h by' p1 q1) (z : RatAt h bz p2 q2) (h1 : p1 < B32 ^ 2) (h2 : q1 < B32 ^ 2) (h3 : p2 < B32 ^ 2) (h4 : q2 < B32 ^ 2) (hq1 : 0 < q1) (hq2 : 0 < q2) (hB : q1 * q2 < 4294967296) :
    ACalls Try.prog 32 [.pointer (some ⟨bx, 0, none⟩), .pointer (some ⟨by', 0, none⟩), .pointer (some ⟨bz, 0, none⟩)] h fun r h' => r = .pointer (some ⟨bx, 0, none⟩) ∧ Wr (fun y => y = bx) h h' ∧ RatAt h' bx (p1 * p2 / Nat.gcd (p1 * p2) (q1 * q2)) (q1 * q2 / Nat.gcd (p1 * p2) (q1 * q2)) := by
  refine num_Rat__Mul_ok.snd hm rfl fun w => ?_
  rw [WF_eq, num_Rat__Mul]
  have le4 : ∀ {x}, x < B32 ^ 2 → (dg x).length ≤ 400000 := fun h => dg_len4 (Nat.lt_trans h (by decide))
  have hP : p1 * p2 < B32 ^ 4 := by
    have : p1 * p2 < B32 ^ 2 * B32 ^ 2 := Nat.mul_lt_mul'' h1 h3
    rwa [← Nat.pow_add] at this
  simp +contextual (disch := omega) only [↓AM, ↓AV, AP, CQ]
  refine (c_prod y.1 z.1 (le4 h1) (le4 h3)).use ?_
  rintro _ hB1 w2 ⟨b1, rfl, hb1, n1, fm1⟩
  simp +contextual (disch := omega) only [↓AM, ↓AV, AP, CQ]
  refine (c_down (y.keep w fm1) hq1).use ?_
  rintro _ hC w3 ⟨rfl, rfl⟩
  simp +contextual (disch := omega) only [↓AM, ↓AV, AP, CQ]
  refine (c_down (z.keep w fm1) hq2).use ?_
  rintro _ hC' w3' ⟨rfl, rfl⟩
  simp +contextual (disch := omega) only [↓AM, ↓AV, AP, CQ]
  refine (c_prod (y.keep w fm1).2 (z.keep w fm1).2 (le4 h2) (le4 h4)).use ?_
  rintro _ hD w4 ⟨b2, rfl, hb2, n2, fm2⟩
  simp +contextual (disch := omega) only [↓AM, ↓AV, AP, CQ]
  have fm12 := fm1.trans fm2 fun _ _ f => f
  refine (c_SetFrac (xa.keep w fm12) (n1.keep w3' fm2) n2 hP (Nat.mul_pos hq1 hq2) hB).use ?_
  rintro _ hE w5 ⟨rfl, wr, rt⟩
  simp +contextual (disch := omega) only [↓AM, ↓AV, AP, CQ]
  exact ⟨(Wr.of (F := fun y => y = bx) w fm12).trans w w4 wr fun _ _ f => f, rt⟩
theorem NatAt.r0 {h : Hp} {b o x : Nat} (n : NatAt h b o x) : h.rd b o = some (.bool false) := by
  obtain ⟨cs, oa, c, h1, h2, h3, h4, h5⟩ := n
  exact (rd_mk h1).trans h3
theorem NatAt.r1 {h : Hp} {b o x : Nat} (n : NatAt h b o x) : ∃ oa c, h.rd b (o + 1) = some (.slice oa (dg x).length c) ∧ Lm h oa (dg x).length c (dg x) := by
  obtain ⟨cs, oa, c, h1, h2, h3, h4, h5⟩ := n
  exact ⟨oa, c, (rd_mk h1).trans h4, h5⟩
theorem c_Div {h : Hp} {bx ox ba oa bb ob x y : Nat} (xa : XAt h bx ox) (na : NatAt h ba oa x) (nb : NatAt h bb ob y) (hx : x < B32 ^ 4) (hy0 : 0 < y) (hy : y < 4294967296) :
    ACalls Try.prog 65 [.pointer (some ⟨bx, ox, none⟩), .pointer (some ⟨ba, oa, none⟩), .pointer (some ⟨bb, ob, none⟩)] h fun r h' => r = .pointer (some ⟨bx, ox, none⟩) ∧ Wr (fun y => y = bx) h h' ∧ NatAt h' bx ox (x / y) := by
  refine num_Int__Div_ok.snd hm rfl fun w => ?_
  rw [WF_eq, num_Int__Div]
  simp +contextual (disch := omega) only [↓AM, ↓AV, AP, CQ]
  refine (c_newI (v := 1) (by decide)).use ?_
  rintro _ h1 w1 ⟨b1, rfl, hb1, n1, fm1⟩
  have nb1 := nb.keep w fm1
  have na1 := na.keep w fm1
  have xa1 := xa.keep w fm1
  have r0 := nb1.r0
  simp +contextual (disch := omega) only [↓AM, ↓AV, AP, CQ, r0]
  have fm2 : Fm No h1 (h1.new ⟨[.bool false, .slice none 0 0], .own⟩) := Fm.new Fm.refl
  have hlt := xa1.lt w1
  refine (c_QuoRem (xa1.keep w1 fm2) (x_new (o := 0) (by decide)) (by omega) (na1.keep w1 fm2) (nb1.keep w1 fm2) (dg_len4 hx) hy0 hy).use ?_
  rintro _ h3 w3 ⟨rfl, wr, n3, n4⟩
  have r0 := n4.r0
  simp +contextual (disch := omega) only [↓AM, ↓AV, AP, CQ, r0]
  exact ⟨(Wr.of (F := fun y => y = bx) w (fm1.trans fm2 fun _ _ f => f)).trans w w1.new wr fun z hz f => f.elim id fun e => by have := fm1.size; omega, n3⟩
theorem c_Mod {h : Hp} {bx ox ba oa bb ob x y : Nat} (xa : XAt h bx ox) (na : NatAt h ba oa x) (nb : NatAt h bb ob y) (hx : x < B32 ^ 4) (hy0 : 0 < y) (hy : y < 4294967296) :
    ACalls Try.prog 62 [.pointer (some ⟨bx, ox, none⟩), .pointer (some ⟨ba, oa, none⟩), .pointer (some ⟨bb, ob, none⟩)] h fun r h' => r = .pointer (some ⟨bx, ox, none⟩) ∧ Wr (fun y => y = bx) h h' ∧ NatAt h' bx ox (x % y) := by
  refine num_Int__Mod_ok.snd hm rfl fun w => ?_
  rw [WF_eq, num_Int__Mod]
  obtain ⟨a, c, r1, lb⟩ := nb.r1
  simp +contextual (disch := omega) only [↓AM, ↓AV, AP, CQ, r1]
  have fm3 : Fm No h (((h.new ⟨[.bool false, .slice a (dg y).length c], .own⟩).new ⟨[.bool false, .slice none 0 0], .own⟩).new ⟨[.bool false, .slice none 0 0], .own⟩) := Fm.new (Fm.new (Fm.new Fm.refl))
  refine (c_QuoRem ((x_new (o := 0) (by decide)).keep w.new.new (Fm.new Fm.refl)) (x_new (o := 0) (by decide)) (by simp only [size_new]; omega) (na.keep w fm3) (nb.keep w fm3) (dg_len4 hx) hy0 hy).use ?_
  rintro _ h3 w3 ⟨rfl, wr, n3, n4⟩
  have r0 := n4.r0
  have fmT : Fm No h h3 := fm3.trans wr.fm fun z hz f => by
    simp only [size_new] at f
    omega
  simp +contextual (disch := omega) only [↓AM, ↓AV, AP, CQ, r0]
  refine (c_Set (xa.keep w fmT) n4 (dg_len4 (Nat.lt_trans (Nat.mod_lt _ hy0) (Nat.lt_trans hy (by decide))))).use ?_
  rintro _ h4 w4 ⟨rfl, wr4, n5⟩
  simp +contextual (disch := omega) only [↓AM, ↓AV, AP, CQ]
  exact ⟨(Wr.of (F := fun y => y = bx) w fmT).trans w w3 wr4 fun _ _ f => f, n5⟩

/-! ### the program's words -/
theorem c_ratio {h : Hp} {p q : Nat} (hp : (p : Int) ≤ 9223372036854775807) (hq0 : 0 < q) (hq : q < 4294967296) :
    ACalls Try.prog 27 [.int .i64 (p : Int), .int .i64 (q : Int)] h fun r h' => ∃ b, r = .pointer (some ⟨b, 0, none⟩) ∧ h.size ≤ b ∧ RatAt h' b (p / Nat.gcd p q) (q / Nat.gcd p q) ∧ Fm No h h' := by
  refine code_ratio_ok.snd hm rfl fun w => ?_
  rw [WF_eq, code_ratio]
  simp +contextual (disch := omega) only [↓AM, ↓AV, AP, CQ]
  refine (c_NewRat hp hq0 hq).use ?_
  rintro _ h1 w1 ⟨b, rfl, h2, h3, h4⟩
  simp +contextual (disch := omega) only [↓AM, ↓AV, AP, CQ]
  exact ⟨_, rfl, h2, h3, h4⟩
def upN (F : Nat) (D : Bool) : Nat := if D then F * 1000 else F
def dnN (D : Bool) : Nat := if D then 1001 else 1
def rtG (F : Nat) (D : Bool) : Nat := Nat.gcd (upN F D) (dnN D)
theorem c_rate {h : Hp} {F : Nat} {D : Bool} (hF : 1 ≤ F ∧ F ≤ 60) :
    ACalls Try.prog 28 [rateV (F : Int) D] h fun r h' => ∃ b, r = .pointer (some ⟨b, 0, none⟩) ∧ h.size ≤ b ∧ RatAt h' b (upN F D / rtG F D) (dnN D / rtG F D) ∧ Fm No h h' := by
  refine code_steps__rate_ok.snd hm rfl fun w => ?_
  rw [WF_eq, code_steps__rate, rateV]
  have fm : Fm No h (h.new ⟨[.int .i64 (F : Int), .bool D], .own⟩) := Fm.new Fm.refl
  cases D
  · simp +contextual (disch := omega) only [↓AM, ↓AV, AP, CQ, i64]
    refine (c_ratio (p := F) (q := 1) (by omega) (by decide) (by decide)).use ?_
    rintro _ h1 w1 ⟨b, rfl, h2, h3, h4⟩
    simp +contextual (disch := omega) only [↓AM, ↓AV, AP, CQ]
    exact ⟨_, rfl, Nat.le_trans fm.size h2, h3, fm.trans h4 fun _ _ f => f⟩
  · have e : (F : Int) * 1000 = ((F * 1000 : Nat) : Int) := rfl
    simp +contextual (disch := omega) only [↓AM, ↓AV, AP, CQ, i64, e]
    refine (c_ratio (p := F * 1000) (q := 1001) (by omega) (by decide) (by decide)).use ?_
    rintro _ h1 w1 ⟨b, rfl, h2, h3, h4⟩
    simp +contextual (disch := omega) only [↓AM, ↓AV, AP, CQ]
    exact ⟨_, rfl, Nat.le_trans fm.size h2, h3, fm.trans h4 fun _ _ f => f⟩
theorem c_cdown {h : Hp} {b p q : Nat} (r : RatAt h b p q) (hp : p < B32 ^ 4) (hq0 : 0 < q) (hq : q < 4294967296) :
    ACalls Try.prog 31 [.pointer (some ⟨b, 0, none⟩)] h fun v h' => ∃ b', v = .pointer (some ⟨b', 0, none⟩) ∧ h.size ≤ b' ∧ NatAt h' b' 0 (p / q) ∧ Fm No h h' := by
  refine code_down_ok.snd hm rfl fun w => ?_
  rw [WF_eq, code_down]
  simp +contextual (disch := omega) only [↓AM, ↓AV, AP, CQ]
  have fm : Fm No h (h.new ⟨[.bool false, .slice none 0 0], .own⟩) := Fm.new Fm.refl
  have rk := r.keep w fm
  have x0 : XAt (h.new ⟨[.bool false, .slice none 0 0], .own⟩) h.size 0 := x_new (by decide)
  generalize hh : h.new ⟨[.bool false, .slice none 0 0], .own⟩ = h0 at *
  refine c_Num.use ?_
  rintro _ _ w1 ⟨rfl, rfl⟩
  simp +contextual (disch := omega) only [↓AM, ↓AV, AP, CQ]
  refine (c_Denom rk hq0).use ?_
  rintro _ _ w1 ⟨rfl, rfl⟩
  simp +contextual (disch := omega) only [↓AM, ↓AV, AP, CQ]
  refine (c_Div x0 rk.1 rk.2 hp hq0 hq).use ?_
  rintro _ h4 w4 ⟨rfl, wr4, n5⟩
  simp +contextual (disch := omega) only [↓AM, ↓AV, AP, CQ]
  exact ⟨_, rfl, Nat.le_refl _, n5, fm.trans wr4.fm fun x hx f => by subst f; omega⟩
theorem c_modulo {h : Hp} {F : Nat} {D : Bool} {b x : Nat} (hF : 1 ≤ F ∧ F ≤ 60) (n : NatAt h b 0 x) (hx : x < B32 ^ 4) :
    ACalls Try.prog 30 [rateV (F : Int) D, .pointer (some ⟨b, 0, none⟩)] h fun v h' => v = .int .i64 ((x : Int) % (144 * (600 * (F : Int) - 9 * missN F D))) ∧ Fm No h h' := by
  refine code_steps__modulo_ok.snd hm rfl fun w => ?_
  rw [WF_eq, code_steps__modulo, rateV]
  have g : ((h.new ⟨[.int .i64 (F : Int), .bool D], .own⟩).new ⟨[.bool false, .slice none 0 0], .own⟩).rdN h.size 0 2 = some [.int .i64 (F : Int), .bool D] := by
    rw [rdN_keep (get_new (Nat.lt_succ_self _))]; exact rdN_new rfl
  simp +contextual (disch := omega) only [↓AM, ↓AV, AP, CQ, i64, g]
  have hd := miss_b D (F := (F : Int)) (by omega)
  obtain ⟨dn, hdn⟩ : ∃ dn : Nat, 144 * (600 * (F : Int) - 9 * missN F D) = (dn : Int) := ⟨_, (Int.toNat_of_nonneg (by omega)).symm⟩
  have fm0 : Fm No h ((h.new ⟨[.int .i64 (F : Int), .bool D], .own⟩).new ⟨[.bool false, .slice none 0 0], .own⟩) := Fm.new (Fm.new Fm.refl)
  have x0 : XAt ((h.new ⟨[.int .i64 (F : Int), .bool D], .own⟩).new ⟨[.bool false, .slice none 0 0], .own⟩) (h.new ⟨[.int .i64 (F : Int), .bool D], .own⟩).size 0 := x_new (by decide)
  refine (c_day (F := (F : Int)) (by omega)).use ?_
  rintro _ h1 w1 ⟨rfl, fm1⟩
  rw [hdn]
  simp +contextual (disch := omega) only [↓AM, ↓AV, AP, CQ, i64]
  refine (c_newI (v := dn) (by omega)).use ?_
  rintro _ h2 w2 ⟨b2, rfl, hb2, n2, fm2⟩
  simp +contextual (disch := omega) only [↓AM, ↓AV, AP, CQ, i64]
  have fm12 := fm1.trans fm2 fun _ _ f => f
  have fmh := fm0.trans fm12 fun _ _ f => f
  refine (c_Mod (x0.keep w.new.new fm12) (n.keep w fmh) n2 hx (by omega) (by omega)).use ?_
  rintro _ h3 w3 ⟨rfl, wr3, n3⟩
  simp +contextual (disch := omega) only [↓AM, ↓AV, AP, CQ, i64]
  have hlt : x % dn < dn := Nat.mod_lt _ (by omega)
  have hbd : x % dn ≤ 9223372036854775807 := by omega
  refine (c_Int64 n3 hbd).use ?_
  rintro _ _ w4 ⟨rfl, rfl⟩
  generalize hm : x % dn = m at *
  simp +contextual (disch := omega) only [↓AM, ↓AV, AP, CQ, i64]
  refine ⟨by rw [← hm]; rfl, fmh.trans wr3.fm fun z hz f => ?_⟩
  simp only [size_new] at f
  omega
end Go.Proofs.Ytnibipabfdalcaa.Nu
