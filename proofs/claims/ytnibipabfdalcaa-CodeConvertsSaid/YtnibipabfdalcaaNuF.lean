/- Whole numbers in memory. Plain theorems over the abstract machine.
   Conditions: none. -/
import Derived.Test.YtnibipabfdalcaaNuE
namespace Go.Proofs.Ytnibipabfdalcaa.Nu
open Go Go.RowKit Go.Proofs.Ytnibipabfdalcaa.Am Go.Proofs.Ytnibipabfdalcaa.Af Go.Proofs.Ytnibipabfdalcaa.Md
set_option linter.unusedVariables false
set_option linter.unusedSimpArgs false
set_option linter.defProp false
set_option maxRecDepth 20000
set_option maxHeartbeats 1000000

/-- Cells without whole numbers. -/
def St (cs : List Value) : Prop := ∀ (i : Nat) (k : IntKind) (a : Int), cs[i]? ≠ some (Value.int k a)
structure Wr (F : Nat → Prop) (h h' : Hp) : Prop where
  fm : Fm F h h'
  ln : ∀ b cs, F b → h.get b = some ⟨cs, .own⟩ → ∃ cs', h'.get b = some ⟨cs', .own⟩ ∧ cs'.length = cs.length ∧ (St cs → St cs')
def SF (h : Hp) (F : Nat → Prop) : Prop := ∀ b, F b → b < h.size → ∃ cs, h.get b = some ⟨cs, .own⟩ ∧ St cs
theorem Wr.of {F : Nat → Prop} {h h' : Hp} (w : Wf h) (fm : Fm No h h') : Wr F h h' :=
  ⟨fm.mono fun x _ f => f.elim, fun b cs _ hg => ⟨cs, fm.keep w hg (fun f => f), rfl, id⟩⟩
theorem Wr.trans {F G : Nat → Prop} {h h1 h2 : Hp} (w : Wf h) (w1 : Wf h1) (a : Wr F h h1) (b : Wr G h1 h2) (hg : ∀ x, x < h.size → G x → F x) : Wr F h h2 := by
  refine ⟨a.fm.trans b.fm hg, fun x cs hf hx => ?_⟩
  obtain ⟨cs1, h1, h2, h3⟩ := a.ln x cs hf hx
  rcases Classical.em (G x) with g | g
  · obtain ⟨cs2, h4, h5, h6⟩ := b.ln x cs1 g h1
    exact ⟨cs2, h4, by omega, fun s => h6 (h3 s)⟩
  · exact ⟨cs1, b.fm.keep w1 h1 g, h2, h3⟩
theorem SF.wr {F G : Nat → Prop} {h h' : Hp} (s : SF h F) (w : Wf h) (r : Wr G h h') (hlt : ∀ x, F x → x < h.size) : SF h' F := fun b hb _ => by
  obtain ⟨cs, h1, h2⟩ := s b hb (hlt b hb)
  rcases Classical.em (G b) with g | g
  · obtain ⟨cs', h3, _, h4⟩ := r.ln b cs g h1
    exact ⟨cs', h3, h4 h2⟩
  · exact ⟨cs, r.fm.keep w h1 g, h2⟩
theorem Lm.wr {F : Nat → Prop} {h h' : Hp} {oa : Option Addr} {n c : Nat} {M : List Nat} (l : Lm h oa n c M) (w : Wf h) (r : Wr F h h') (s : SF h F) : Lm h' oa n c M := by
  refine ⟨⟨l.rd.len, l.rd.nil, fun a ha => ?_⟩, l.le, l.dl⟩
  rcases l.rd.at_ a ha with ⟨h1, h2⟩ | h3
  · refine .inl ⟨h1, ?_⟩
    rcases Classical.em (F a.block) with f | f
    · obtain ⟨cs, hg, hs⟩ := s _ f (rdN_wf w h2)
      obtain ⟨ob, g1, g2, g3⟩ := rdN_of h2
      rw [hg] at g1
      cases g1
      obtain ⟨cs', hg', hl, _⟩ := r.ln _ cs f hg
      have hM : M = [] := by
        cases M with
        | nil => rfl
        | cons d M =>
          exfalso
          have hn : (d :: M).length = n := l.len
          have g2 : a.off + n * 1 ≤ cs.length := g2
          have hlen : 0 < n := by rw [← hn]; simp
          have := congrArg (·[0]?) g3
          have e : (u3 (d :: M))[0]? = some (.int .u32 (d : Int)) := rfl
          simp only [e, List.getElem?_take, List.getElem?_drop, Nat.mul_one, hlen, if_true, Nat.add_zero] at this
          exact hs _ _ _ this.symm
      have hn : n = 0 := by have := l.len; rw [hM] at this; simpa using this.symm
      subst hM hn
      have g2 : a.off + 0 * 1 ≤ cs.length := g2
      rw [rdN_mk hg' (by show a.off + 0 * 1 ≤ cs'.length; omega)]
      simp [u3]
    · rw [rdN_keep (r.fm.get _ (rdN_wf w h2) f)]; exact h2
  · exact .inr h3
/-- A place for a whole number. -/
def XAt (h : Hp) (b o : Nat) : Prop := ∃ cs, h.get b = some ⟨cs, .own⟩ ∧ St cs ∧ o + 1 < cs.length
/-- A natural number at a place. -/
def NatAt (h : Hp) (b o x : Nat) : Prop := ∃ cs oa c, h.get b = some ⟨cs, .own⟩ ∧ St cs ∧ cs[o]? = some (.bool false) ∧ cs[o + 1]? = some (.slice oa (dg x).length c) ∧ Lm h oa (dg x).length c (dg x)
theorem NatAt.x {h : Hp} {b o x : Nat} (n : NatAt h b o x) : XAt h b o := by
  obtain ⟨cs, oa, c, h1, h2, h3, h4, h5⟩ := n
  exact ⟨cs, h1, h2, (List.getElem?_eq_some_iff.1 h4).1⟩
theorem XAt.lt {h : Hp} {b o : Nat} (w : Wf h) (x : XAt h b o) : b < h.size := by obtain ⟨cs, h1, _⟩ := x; exact w.lt h1
theorem XAt.sf {h : Hp} {b o : Nat} (x : XAt h b o) : SF h (fun y => y = b) := by
  rintro y rfl _
  obtain ⟨cs, h1, h2, _⟩ := x
  exact ⟨cs, h1, h2⟩
theorem XAt.wr {F : Nat → Prop} {h h' : Hp} {b o : Nat} (w : Wf h) (x : XAt h b o) (r : Wr F h h') : XAt h' b o := by
  obtain ⟨cs, h1, h2, h3⟩ := x
  rcases Classical.em (F b) with f | f
  · obtain ⟨cs', g1, g2, g3⟩ := r.ln b cs f h1
    exact ⟨cs', g1, g3 h2, by omega⟩
  · exact ⟨cs, r.fm.keep w h1 f, h2, h3⟩
theorem NatAt.wr {F : Nat → Prop} {h h' : Hp} {b o x : Nat} (n : NatAt h b o x) (w : Wf h) (r : Wr F h h') (s : SF h F) (hb : ¬ F b) : NatAt h' b o x := by
  obtain ⟨cs, oa, c, h1, h2, h3, h4, h5⟩ := n
  exact ⟨cs, oa, c, r.fm.keep w h1 hb, h2, h3, h4, h5.wr w r s⟩
theorem NatAt.keep {h h' : Hp} {b o x : Nat} (n : NatAt h b o x) (w : Wf h) (fm : Fm No h h') : NatAt h' b o x :=
  n.wr w (Wr.of (F := No) w fm) (fun _ f => f.elim) (fun f => f)
theorem XAt.keep {h h' : Hp} {b o : Nat} (x : XAt h b o) (w : Wf h) (fm : Fm No h h') : XAt h' b o := x.wr w (Wr.of (F := No) w fm)
theorem LmV.wr {F : Nat → Prop} {h h' : Hp} {v : Value} {x : Nat} (l : LmV h v x) (w : Wf h) (r : Wr F h h') (s : SF h F) : LmV h' v x := by
  obtain ⟨oa, c, e, l⟩ := l
  exact ⟨oa, c, e, l.wr w r s⟩
theorem st_set {cs : List Value} {o : Nat} {v : Value} (s : St cs) (hv : ∀ k a, v ≠ .int k a) : St (cs.set o v) := by
  intro i k a
  rw [List.getElem?_set]
  split
  · split
    · intro h; cases h; exact hv k a rfl
    · simp
  · exact s i k a
theorem st2 {b : Bool} {oa : Option Addr} {n c : Nat} : St [.bool b, .slice oa n c] := by
  intro i k a
  rcases i with _ | _ | i <;> simp
theorem st4 {b b' : Bool} {oa oa' : Option Addr} {n c n' c' : Nat} : St [.bool b, .slice oa n c, .bool b', .slice oa' n' c'] := by
  intro i k a
  rcases i with _ | _ | _ | _ | i <;> simp
theorem c_set {h : Hp} {b o x : Nat} {v : Value} (xa : XAt h b o) (l : LmV h v x) :
    ACalls Try.prog 96 [.pointer (some ⟨b, o, none⟩), .bool false, v] h fun r h' => r = .pointer (some ⟨b, o, none⟩) ∧ Wr (fun y => y = b) h h' ∧ NatAt h' b o x ∧ (∀ i, i ≠ o → i ≠ o + 1 → h'.rd b i = h.rd b i) := by
  refine num_Int__set_ok.snd hm rfl fun w => ?_
  rw [WF_eq, num_Int__set]
  have hs := xa.sf
  obtain ⟨cs, hg, hst, hlen⟩ := xa
  obtain ⟨oa, c, rfl, l⟩ := l
  have l1 : leIs (o + 1) cs = true := by rw [← leIs_p]; omega
  have l2 : leIs (o + 1 + 1) (cs.set o (.bool false)) = true := by rw [← leIs_p, List.length_set]; omega
  have s1 : spl cs o [.bool false] = cs.set o (.bool false) := spl_one _ _ _ (by omega)
  have s2 : ∀ u, spl (cs.set o (.bool false)) (o + 1) [u] = (cs.set o (.bool false)).set (o + 1) u := fun u => spl_one _ _ _ (by rw [List.length_set]; omega)
  simp +contextual (disch := omega) only [↓AM, ↓AV, AP, CQ, hg, l1, l2, s1, s2, put_put]
  have wr : Wr (fun y => y = b) h (h.put b ⟨(cs.set o (.bool false)).set (o + 1) (.slice oa (dg x).length c), .own⟩) := by
    refine ⟨Fm.put Fm.refl fun _ => rfl, ?_⟩
    rintro _ cs' rfl hg'
    rw [hg] at hg'
    cases hg'
    exact ⟨_, gput, by simp, fun s => st_set (st_set s (by simp)) (by simp)⟩
  refine ⟨wr, ⟨_, oa, c, gput, st_set (st_set hst (by simp)) (by simp), ?_, ?_, l.wr w wr hs⟩, ?_⟩
  · rw [List.getElem?_set_ne (by omega), List.getElem?_set_self (by omega)]
  · rw [List.getElem?_set_self (by simp; omega)]
  · intro i h1 h2
    rw [rd_mk hg, List.getElem?_set_ne (by omega), List.getElem?_set_ne (by omega)]
theorem c_setI {h : Hp} {b o v : Nat} (xa : XAt h b o) (hv : (v : Int) ≤ 9223372036854775807) :
    ACalls Try.prog 98 [.pointer (some ⟨b, o, none⟩), .int .i64 (v : Int)] h fun r h' => r = .pointer (some ⟨b, o, none⟩) ∧ Wr (fun y => y = b) h h' ∧ NatAt h' b o v := by
  refine num_Int__SetInt64_ok.snd hm rfl fun w => ?_
  rw [WF_eq, num_Int__SetInt64]
  have e0 : ((v : Int) < 0) = False := by simp
  simp +contextual (disch := omega) only [↓AM, ↓AV, AP, CQ, u64, e0]
  refine (c_magOf (v := v) (by omega)).use ?_
  rintro _ h1 w1 ⟨l, fm⟩
  simp +contextual (disch := omega) only [↓AM, ↓AV, AP, CQ]
  refine (c_set (xa.keep w fm) l).use ?_
  rintro _ h2 w2 ⟨rfl, wr, n, -⟩
  simp +contextual (disch := omega) only [↓AM, ↓AV, AP, CQ]
  exact ⟨(Wr.of (F := fun y => y = b) w fm).trans w w1 wr fun _ _ f => f, n⟩
theorem wr_new {h h' : Hp} {o : Ob} (w : Wf h) (wr : Wr (fun y => y = h.size) (h.new o) h') : Fm No h h' :=
  (Fm.new Fm.refl).trans wr.fm fun x hx f => by subst f; omega
theorem x_new {h : Hp} {o : Nat} (ho : o + 1 < 2) : XAt (h.new ⟨[.bool false, .slice none 0 0], .own⟩) h.size o := ⟨_, gnew, st2, ho⟩
theorem c_newI {h : Hp} {v : Nat} (hv : (v : Int) ≤ 9223372036854775807) :
    ACalls Try.prog 63 [.int .i64 (v : Int)] h fun r h' => ∃ b, r = .pointer (some ⟨b, 0, none⟩) ∧ h.size ≤ b ∧ NatAt h' b 0 v ∧ Fm No h h' := by
  refine num_NewInt_ok.snd hm rfl fun w => ?_
  rw [WF_eq, num_NewInt]
  simp +contextual (disch := omega) only [↓AM, ↓AV, AP, CQ]
  refine (c_setI (x_new (by decide)) hv).use ?_
  rintro _ h2 w2 ⟨rfl, wr, n⟩
  simp +contextual (disch := omega) only [↓AM, ↓AV, AP, CQ]
  exact ⟨_, rfl, Nat.le_refl _, n, wr_new w wr⟩
theorem c_MulI {h : Hp} {bx ox ba oa bb ob x y : Nat} (xa : XAt h bx ox) (na : NatAt h ba oa x) (nb : NatAt h bb ob y) (hx : (dg x).length ≤ 400000) (hy : (dg y).length ≤ 400000) :
    ACalls Try.prog 97 [.pointer (some ⟨bx, ox, none⟩), .pointer (some ⟨ba, oa, none⟩), .pointer (some ⟨bb, ob, none⟩)] h fun r h' => r = .pointer (some ⟨bx, ox, none⟩) ∧ Wr (fun y => y = bx) h h' ∧ NatAt h' bx ox (x * y) := by
  refine num_Int__Mul_ok.snd hm rfl fun w => ?_
  rw [WF_eq, num_Int__Mul]
  obtain ⟨ca, a, c, ga, sa, a0, a1, la⟩ := na
  obtain ⟨cb, b, d, gb, sb, b0, b1, lb⟩ := nb
  have r0 := (rd_mk ga (i := oa)).trans a0
  have r1 := (rd_mk ga (i := oa + 1)).trans a1
  have q0 := (rd_mk gb (i := ob)).trans b0
  have q1 := (rd_mk gb (i := ob + 1)).trans b1
  simp +contextual (disch := omega) only [↓AM, ↓AV, AP, CQ, r0, r1, q0, q1]
  refine (c_mul la lb hx hy).use ?_
  rintro _ h1 w1 ⟨l, fm⟩
  have r0 := (rd_mk (fm.keep w ga (fun f => f)) (i := oa)).trans a0
  have r1 := (rd_mk (fm.keep w ga (fun f => f)) (i := oa + 1)).trans a1
  have q0 := (rd_mk (fm.keep w gb (fun f => f)) (i := ob)).trans b0
  have q1 := (rd_mk (fm.keep w gb (fun f => f)) (i := ob + 1)).trans b1
  have bne : (false != false) = false := rfl
  simp +contextual (disch := omega) only [↓AM, ↓AV, AP, CQ, r0, r1, q0, q1, bne]
  refine (c_set (xa.keep w fm) l).use ?_
  rintro _ h2 w2 ⟨rfl, wr, n, -⟩
  simp +contextual (disch := omega) only [↓AM, ↓AV, AP, CQ]
  exact ⟨(Wr.of (F := fun y => y = bx) w fm).trans w w1 wr fun _ _ f => f, n⟩
theorem c_prod {h : Hp} {ba oa bb ob x y : Nat} (na : NatAt h ba oa x) (nb : NatAt h bb ob y) (hx : (dg x).length ≤ 400000) (hy : (dg y).length ≤ 400000) :
    ACalls Try.prog 58 [.pointer (some ⟨ba, oa, none⟩), .pointer (some ⟨bb, ob, none⟩)] h fun r h' => ∃ b, r = .pointer (some ⟨b, 0, none⟩) ∧ h.size ≤ b ∧ NatAt h' b 0 (x * y) ∧ Fm No h h' := by
  refine num_product_ok.snd hm rfl fun w => ?_
  rw [WF_eq, num_product]
  simp +contextual (disch := omega) only [↓AM, ↓AV, AP, CQ]
  have fm : Fm No h (h.new ⟨[.bool false, .slice none 0 0], .own⟩) := Fm.new Fm.refl
  refine (c_MulI (x_new (by decide)) (na.keep w fm) (nb.keep w fm) hx hy).use ?_
  rintro _ h2 w2 ⟨rfl, wr, n⟩
  simp +contextual (disch := omega) only [↓AM, ↓AV, AP, CQ]
  exact ⟨_, rfl, Nat.le_refl _, n, wr_new w wr⟩
theorem c_QuoRem {h : Hp} {bx ox ba oa bb ob br or' x y : Nat} (xa : XAt h bx ox) (ra : XAt h br or') (hne : bx ≠ br) (na : NatAt h ba oa x) (nb : NatAt h bb ob y) (hx : (dg x).length ≤ 400000) (hy0 : 0 < y) (hy : y < 4294967296) :
    ACalls Try.prog 99 [.pointer (some ⟨bx, ox, none⟩), .pointer (some ⟨ba, oa, none⟩), .pointer (some ⟨bb, ob, none⟩), .pointer (some ⟨br, or', none⟩)] h fun r h' =>
      r = .tuple #[.pointer (some ⟨bx, ox, none⟩), .pointer (some ⟨br, or', none⟩)] ∧ Wr (fun y => y = bx ∨ y = br) h h' ∧ NatAt h' bx ox (x / y) ∧ NatAt h' br or' (x % y) := by
  refine num_Int__QuoRem_ok.snd hm rfl fun w => ?_
  rw [WF_eq, num_Int__QuoRem]
  obtain ⟨ca, a, c, ga, sa, a0, a1, la⟩ := na
  obtain ⟨cb, b, d, gb, sb, b0, b1, lb⟩ := nb
  have r0 := (rd_mk ga (i := oa)).trans a0
  have r1 := (rd_mk ga (i := oa + 1)).trans a1
  have q0 := (rd_mk gb (i := ob)).trans b0
  have q1 := (rd_mk gb (i := ob + 1)).trans b1
  have bne : (false != false) = false := rfl
  simp +contextual (disch := omega) only [↓AM, ↓AV, AP, CQ, r0, r1, q0, q1, bne]
  refine (c_div la lb hx hy0 hy).use ?_
  rintro _ h1 w1 ⟨u, v, rfl, lu, lv, fm⟩
  have r1 := (rd_mk (fm.keep w ga (fun f => f)) (i := oa + 1)).trans a1
  have q1 := (rd_mk (fm.keep w gb (fun f => f)) (i := ob + 1)).trans b1
  simp +contextual (disch := omega) only [↓AM, ↓AV, AP, CQ, r1, q1]
  have ra1 := ra.keep w fm
  have xa1 := xa.keep w fm
  refine (c_set ra1 lv).use ?_
  rintro _ h2 w2 ⟨rfl, wr, n, -⟩
  simp +contextual (disch := omega) only [↓AM, ↓AV, AP, CQ]
  have xa2 := xa1.wr w1 wr
  refine (c_set xa2 (lu.wr w1 wr ra1.sf)).use ?_
  rintro _ h3 w3 ⟨rfl, wr3, n3, -⟩
  simp +contextual (disch := omega) only [↓AM, ↓AV, AP, CQ]
  refine ⟨((Wr.of (F := fun y => y = bx ∨ y = br) w fm).trans w w1 wr fun _ _ f => .inr f).trans w w2 wr3 fun _ _ f => .inl f, n3, n.wr w2 wr3 xa2.sf (fun e => hne e.symm)⟩
theorem c_low {h : Hp} {b o x : Nat} (n : NatAt h b o x) (hx : x < 18446744073709551616) :
    ACalls Try.prog 102 [.pointer (some ⟨b, o, none⟩)] h fun r h' => r = .int .u64 (x : Int) ∧ h' = h := by
  refine num_Int__low_ok.snd hm rfl fun w => ?_
  rw [WF_eq, num_Int__low]
  obtain ⟨ca, a, c, ga, sa, a0, a1, la⟩ := n
  have r1 := (rd_mk ga (i := o + 1)).trans a1
  have hlen : (dg x).length ≤ 2 := by
    rcases Nat.lt_or_ge 2 (dg x).length with h | h
    · exfalso
      have h1 := vL_ge b32 (dig_nz (hB := b32) x) (by intro e; rw [show dg x = [] from e] at h; simp at h)
      rw [show vL B32 (dig B32 b32 x) = x from dg_val x] at h1
      have h2 : B32 ^ 2 ≤ B32 ^ ((dig B32 b32 x).length - 1) := Nat.pow_le_pow_right (by decide) (by show 2 ≤ (dg x).length - 1; omega)
      have : B32 ^ 2 = 18446744073709551616 := by decide
      omega
    · exact h
  have emn : intMin [.int .i64 2, .int .i64 ((dg x).length : Int)] = some (.int .i64 ((dg x).length : Int)) := by
    have : (dg x).length = 0 ∨ (dg x).length = 1 ∨ (dg x).length = 2 := by omega
    rcases this with e | e | e <;> rw [e] <;> rfl
  simp +contextual (disch := omega) only [↓AM, ↓AV, AP, CQ, i64, r1, emn]
  refine WL.mk (fun k t h' => h' = h ∧ k ≤ (dg x).length ∧ t = [(0, some (.pointer (some ⟨b, o, none⟩))), (3, some (.int .u64 ((vL B32 ((dg x).drop k) : Nat) : Int))), (4, some (.int .i64 ((k : Int) - 1)))]) ⟨(dg x).length, rfl, Nat.le_refl _, by rw [List.drop_eq_nil_of_le (Nat.le_refl _)]; rfl⟩ ?_
  rintro k t hh ⟨rfl, hk, rfl⟩
  cases k with
  | zero =>
    have e2 : ((0 : Int) ≤ ((0 : Nat) : Int) - 1) = False := by simp
    simp +contextual (disch := omega) only [↓AM, ↓AV, AP, CQ, i64, e2, List.drop_zero]
    rw [dg_val]
  | succ k =>
    have hk1 : k < (dg x).length := by omega
    obtain ⟨b1, o1, s1, p, rfl, f1, hp, r2⟩ := la.rd.nat hk1
    have hpl : p < 4294967296 := la.dl.at hp
    have hvl : vL B32 ((dg x).drop (k + 1)) < 4294967296 := by
      have h1 := vL_lt (B := B32) (l := (dg x).drop (k + 1)) fun d hd => dg_dl x d (List.mem_of_mem_drop hd)
      rw [List.length_drop] at h1
      have h2 : B32 ^ ((dg x).length - (k + 1)) ≤ B32 ^ 1 := Nat.pow_le_pow_right (by decide) (by omega)
      have : B32 ^ 1 = 4294967296 := by decide
      omega
    have ed : vL B32 ((dg x).drop k) = vL B32 ((dg x).drop (k + 1)) * 4294967296 + p := by
      rw [List.drop_eq_getElem_cons hk1]
      rw [List.getElem?_eq_getElem hk1] at hp
      rw [Option.some.inj hp, vL]
      show p + 4294967296 * _ = _
      omega
    generalize vL B32 ((dg x).drop (k + 1)) = v at *
    have eor := or_32 hvl hpl
    simp +contextual (disch := omega) only [↓AM, ↓AV, AP, CQ, CN, i64, u64, f1, r1, r2, hk1, eor]
    exact ⟨k, by omega, by omega, by rw [ed]⟩
theorem c_Int64 {h : Hp} {b o x : Nat} (n : NatAt h b o x) (hx : x ≤ 9223372036854775807) :
    ACalls Try.prog 64 [.pointer (some ⟨b, o, none⟩)] h fun r h' => r = .int .i64 (x : Int) ∧ h' = h := by
  refine num_Int__Int64_ok.snd hm rfl fun w => ?_
  rw [WF_eq, num_Int__Int64]
  have n0 := n
  obtain ⟨ca, a, c, ga, sa, a0, a1, la⟩ := n
  have r0 := (rd_mk ga (i := o)).trans a0
  simp +contextual (disch := omega) only [↓AM, ↓AV, AP, CQ, r0]
  refine (c_low n0 (by omega)).use ?_
  rintro _ _ w2 ⟨rfl, rfl⟩
  simp +contextual (disch := omega) only [↓AM, ↓AV, AP, CQ, i64]
theorem c_Set {h : Hp} {bx ox ba oa x : Nat} (xa : XAt h bx ox) (na : NatAt h ba oa x) (hx : (dg x).length ≤ 400000) :
    ACalls Try.prog 101 [.pointer (some ⟨bx, ox, none⟩), .pointer (some ⟨ba, oa, none⟩)] h fun r h' => r = .pointer (some ⟨bx, ox, none⟩) ∧ Wr (fun y => y = bx) h h' ∧ NatAt h' bx ox x := by
  refine num_Int__Set_ok.snd hm rfl fun w => ?_
  rw [WF_eq, num_Int__Set]
  obtain ⟨ca, a, c, ga, sa, a0, a1, la⟩ := na
  have r0 := (rd_mk ga (i := oa)).trans a0
  have r1 := (rd_mk ga (i := oa + 1)).trans a1
  simp +contextual (disch := omega) only [↓AM, ↓AV, AP, CQ, r0, r1]
  refine (c_clone la (by omega)).use ?_
  rintro _ h1 w1 ⟨l, fm⟩
  have r0 := (rd_mk (fm.keep w ga (fun f => f)) (i := oa)).trans a0
  have r1 := (rd_mk (fm.keep w ga (fun f => f)) (i := oa + 1)).trans a1
  simp +contextual (disch := omega) only [↓AM, ↓AV, AP, CQ, r0, r1]
  refine (c_set (xa.keep w fm) l).use ?_
  rintro _ h2 w2 ⟨rfl, wr, n, -⟩
  simp +contextual (disch := omega) only [↓AM, ↓AV, AP, CQ]
  exact ⟨(Wr.of (F := fun y => y = bx) w fm).trans w w1 wr fun _ _ f => f, n⟩
end Go.Proofs.Ytnibipabfdalcaa.Nu
