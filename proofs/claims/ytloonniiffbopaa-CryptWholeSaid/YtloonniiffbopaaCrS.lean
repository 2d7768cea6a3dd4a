/- Plans, and the lock of a sample. Plain theorems over the abstract machine.
   Conditions: none. -/
import Derived.Test.YtloonniiffbopaaCrI
namespace Go.Proofs.Ytloonniiffbopaa.Cr
open Go Go.RowKit Go.Proofs.Ytloonniiffbopaa.Am Go.Proofs.Ytloonniiffbopaa.Af
set_option linter.unusedVariables false
set_option linter.unusedSimpArgs false
set_option maxRecDepth 20000

structure Pl where
  keys : List Int
  every : Int
  base : Int
  crypt : Int
  skip : Int
  lead : Int
def planV (p : Pl) (oa : Option Addr) (c : Nat) : Value := .agg #[.slice oa p.keys.length c, .int .i64 p.every, .int .i64 p.base, .int .i64 p.crypt, .int .i64 p.skip, .int .i64 p.lead]
def badK (k : Int) : Bool := !decide (0 ≤ k ∧ k ≤ 4)
def planB (p : Pl) : Bool := decide (1 ≤ (p.keys.length : Int) ∧ (p.keys.length : Int) ≤ 20) && !p.keys.any badK && decide (1 ≤ p.every ∧ p.every ≤ 1000) && decide (0 ≤ p.base ∧ p.base ≤ 549755813888) && patB p.crypt p.skip && decide (0 ≤ p.lead ∧ p.lead ≤ 65536)
theorem c_planned1 {h : Hp} {k : Int} : ACalls Try.prog 58 [.int .i64 k] h fun v h' => v = .bool (badK k) ∧ Fm No h h' := by
  refine crypt_planned_1_ok.snd hm rfl fun w => ?_
  rw [WF_eq, crypt_planned_1]
  simp +contextual only [↓AM, ↓AV, AP]
  refine c_within.use ?_
  rintro _ _ w1 ⟨rfl, rfl⟩
  simp +contextual only [↓AM, ↓AV, AP]
  exact ⟨by rw [badK, decide_not], Fm.refl⟩
theorem c_planned {h : Hp} {p : Pl} {oa : Option Addr} {c : Nat} (r : Rd h 1 oa p.keys.length (p.keys.map (Value.int .i64))) (hn : p.keys.length ≤ 140737488351232) :
    ACalls Try.prog 41 [planV p oa c] h fun v h' => v = .bool (planB p) ∧ Fm No h h' := by
  refine crypt_planned_ok.snd hm rfl fun w => ?_
  rw [WF_eq, crypt_planned, planV]
  simp +contextual only [↓AM, ↓AV, AP]
  have fm0 : Fm No h (h.new ⟨[.slice oa p.keys.length c, .int .i64 p.every, .int .i64 p.base, .int .i64 p.crypt, .int .i64 p.skip, .int .i64 p.lead], .own⟩) := Fm.new Fm.refl
  have hg0 : (h.new ⟨[.slice oa p.keys.length c, .int .i64 p.every, .int .i64 p.base, .int .i64 p.crypt, .int .i64 p.skip, .int .i64 p.lead], .own⟩).get h.size = some _ := gnew
  have r0 := r.keep w fm0 (fun _ _ => id)
  have w0 : Wf (h.new ⟨[.slice oa p.keys.length c, .int .i64 p.every, .int .i64 p.base, .int .i64 p.crypt, .int .i64 p.skip, .int .i64 p.lead], .own⟩) := w.new
  generalize h.new ⟨[.slice oa p.keys.length c, .int .i64 p.every, .int .i64 p.base, .int .i64 p.crypt, .int .i64 p.skip, .int .i64 p.lead], .own⟩ = h0 at *
  refine c_within.use ?_
  rintro _ h0 w1 ⟨rfl, rfl⟩
  by_cases h1 : 1 ≤ (p.keys.length : Int) ∧ (p.keys.length : Int) ≤ 20
  case neg =>
    simp +contextual only [↓AM, ↓AV, AP, h1]
    exact ⟨by simp only [planB, decide_eq_false h1, Bool.false_and], fm0⟩
  simp +contextual only [↓AM, ↓AV, AP, h1, rd_mk hg0]
  refine (c_ContainsFunc r0 hn (by kernel_rfl) (us := #[]) (vs := #[]) (p := badK) (fun x _ h1 _ => c_planned1)).use ?_
  rintro _ h2 w2 ⟨rfl, fm⟩
  have hg2 := fm.keep w0 hg0 id
  have fm' := fm0.trans fm (fun _ _ x => x)
  cases hb : p.keys.any badK
  case true =>
    simp +contextual only [↓AM, ↓AV, AP]
    exact ⟨by simp [planB, hb], fm'⟩
  simp +contextual only [↓AM, ↓AV, AP, rd_mk hg2]
  refine c_within.use ?_
  rintro _ h2 w2 ⟨rfl, rfl⟩
  by_cases h3 : 1 ≤ p.every ∧ p.every ≤ 1000
  case neg =>
    simp +contextual only [↓AM, ↓AV, AP, h3]
    exact ⟨by simp only [planB, decide_eq_false h3, Bool.false_and, Bool.and_false], fm'⟩
  simp +contextual only [↓AM, ↓AV, AP, h3, rd_mk hg2]
  refine c_within.use ?_
  rintro _ h2 w2 ⟨rfl, rfl⟩
  by_cases h4 : 0 ≤ p.base ∧ p.base ≤ 549755813888
  case neg =>
    simp +contextual only [↓AM, ↓AV, AP, h4]
    exact ⟨by simp only [planB, decide_eq_false h4, Bool.false_and, Bool.and_false], fm'⟩
  simp +contextual only [↓AM, ↓AV, AP, h4, rd_mk hg2]
  refine c_pattern.use ?_
  rintro _ h2 w2 ⟨rfl, rfl⟩
  cases h5 : patB p.crypt p.skip
  · simp +contextual only [↓AM, ↓AV, AP]
    exact ⟨by simp only [planB, h5, Bool.false_and, Bool.and_false], fm'⟩
  simp +contextual only [↓AM, ↓AV, AP, rd_mk hg2]
  refine c_within.use ?_
  rintro _ h2 w2 ⟨rfl, rfl⟩
  simp +contextual only [↓AM, ↓AV, AP]
  exact ⟨by simp only [planB, decide_eq_true h1, decide_eq_true h3, decide_eq_true h4, h5, hb, Bool.not_false, Bool.true_and], fm'⟩
/-- The lock of a sample by a plan: whether there is one, the error, and the lock. -/
def ofE (p : Pl) (i n : Int) : Int := if planB p = true ∧ (0 ≤ i ∧ i ≤ 400) ∧ (0 ≤ n ∧ n ≤ 65536) then 0 else 1
def ofKey (p : Pl) (i : Int) : Int := p.keys.getD (i / p.every % p.keys.length).toNat 0
def ofB (p : Pl) (i n : Int) : Bool := decide (ofE p i n = 0) && !decide (ofKey p i = 0)
def ofL (p : Pl) (i n : Int) : Lk := if ofB p i n then ⟨ofKey p i, p.base + i, p.crypt, p.skip, if 0 < p.lead then [(if n < p.lead then n else p.lead, n - (if n < p.lead then n else p.lead))] else []⟩ else ⟨0, 0, 0, 0, []⟩
def OfPost (p : Pl) (i n : Int) (h : Hp) (v : Value) (h' : Hp) : Prop :=
  ∃ a c, v = .tuple #[lockV (ofL p i n) a c, .bool (ofB p i n), .int .i64 (ofE p i n)] ∧ Rd h' 2 a (ofL p i n).parts.length ((ofL p i n).parts.flatMap partC) ∧ Nw h a ∧ Fm No h h'
theorem planB_all {p : Pl} (h : planB p = true) : (1 ≤ p.keys.length ∧ p.keys.length ≤ 20) ∧ (∀ k ∈ p.keys, 0 ≤ k ∧ k ≤ 4) ∧ (1 ≤ p.every ∧ p.every ≤ 1000) ∧ (0 ≤ p.base ∧ p.base ≤ 549755813888) ∧ patB p.crypt p.skip = true ∧ (0 ≤ p.lead ∧ p.lead ≤ 65536) := by
  simp only [planB, Bool.and_eq_true, decide_eq_true_eq, Bool.not_eq_true'] at h
  obtain ⟨⟨⟨⟨⟨h1, h2⟩, h3⟩, h4⟩, h5⟩, h6⟩ := h
  refine ⟨by omega, fun k hk => ?_, h3, h4, h5, h6⟩
  have := List.any_eq_false.1 h2 k hk
  simpa only [badK, Bool.not_eq_true, Bool.not_eq_false', decide_eq_true_eq] using this
theorem c_Of {h : Hp} {p : Pl} {oa : Option Addr} {c : Nat} {i n : Int} (r : Rd h 1 oa p.keys.length (p.keys.map (Value.int .i64))) (hn : p.keys.length ≤ 140737488351232) :
    ACalls Try.prog 19 [planV p oa c, .int .i64 i, .int .i64 n] h (OfPost p i n h) := by
  refine crypt_Of_ok.snd hm rfl fun w => ?_
  rw [WF_eq, crypt_Of, planV]
  have hsz : ∀ o : Ob, (h.new o).size = h.size + 1 := fun _ => rfl
  have e1 : ∀ o o2 : Ob, ((h.new o).new o2).get h.size = some o := fun o o2 => (get_new (Nat.lt_succ_self _)).trans gnew
  have e2 : ∀ o o2 : Ob, ((h.new o).new o2).get (h.new o).size = some o2 := fun o o2 => gnew
  have hrd : ((h.new ⟨[.slice oa p.keys.length c, .int .i64 p.every, .int .i64 p.base, .int .i64 p.crypt, .int .i64 p.skip, .int .i64 p.lead], .own⟩).new ⟨[.int .i64 0, .int .i64 0, .int .i64 0, .int .i64 0, .slice none 0 0], .own⟩).rdN h.size 0 6 = some [.slice oa p.keys.length c, .int .i64 p.every, .int .i64 p.base, .int .i64 p.crypt, .int .i64 p.skip, .int .i64 p.lead] := by
    rw [rdN_mk (e1 _ _) (by simp)]; rfl
  simp +contextual only [↓AM, ↓AV, AP, hrd]
  have fm0 : Fm No h ((h.new ⟨[.slice oa p.keys.length c, .int .i64 p.every, .int .i64 p.base, .int .i64 p.crypt, .int .i64 p.skip, .int .i64 p.lead], .own⟩).new ⟨[.int .i64 0, .int .i64 0, .int .i64 0, .int .i64 0, .slice none 0 0], .own⟩) := Fm.new (Fm.new Fm.refl)
  have hg0 := e1 ⟨[.slice oa p.keys.length c, .int .i64 p.every, .int .i64 p.base, .int .i64 p.crypt, .int .i64 p.skip, .int .i64 p.lead], .own⟩ ⟨[.int .i64 0, .int .i64 0, .int .i64 0, .int .i64 0, .slice none 0 0], .own⟩
  have hr0 := e2 ⟨[.slice oa p.keys.length c, .int .i64 p.every, .int .i64 p.base, .int .i64 p.crypt, .int .i64 p.skip, .int .i64 p.lead], .own⟩ ⟨[.int .i64 0, .int .i64 0, .int .i64 0, .int .i64 0, .slice none 0 0], .own⟩
  have r0 := r.keep w fm0 (fun _ _ => id)
  have w0 : Wf ((h.new ⟨[.slice oa p.keys.length c, .int .i64 p.every, .int .i64 p.base, .int .i64 p.crypt, .int .i64 p.skip, .int .i64 p.lead], .own⟩).new ⟨[.int .i64 0, .int .i64 0, .int .i64 0, .int .i64 0, .slice none 0 0], .own⟩) := w.new.new
  generalize (h.new ⟨[.slice oa p.keys.length c, .int .i64 p.every, .int .i64 p.base, .int .i64 p.crypt, .int .i64 p.skip, .int .i64 p.lead], .own⟩).new ⟨[.int .i64 0, .int .i64 0, .int .i64 0, .int .i64 0, .slice none 0 0], .own⟩ = h0 at *
  have hs1 : (h.new ⟨[.slice oa p.keys.length c, .int .i64 p.every, .int .i64 p.base, .int .i64 p.crypt, .int .i64 p.skip, .int .i64 p.lead], .own⟩).size = h.size + 1 := rfl
  obtain ⟨rb, hrb⟩ : ∃ rb, (h.new ⟨[.slice oa p.keys.length c, .int .i64 p.every, .int .i64 p.base, .int .i64 p.crypt, .int .i64 p.skip, .int .i64 p.lead], .own⟩).size = rb := ⟨_, rfl⟩
  rw [hrb] at hr0 hs1
  refine (c_planned r0 hn).use ?_
  rintro _ h1 w1 ⟨rfl, fm1⟩
  have hg1 := fm1.keep w0 hg0 id
  have hr1 := fm1.keep w0 hr0 id
  have r1 := r0.keep w0 fm1 (fun _ _ => id)
  have fm01 := fm0.trans fm1 (fun _ _ x => x)
  have z5 : ∀ a b c d e : Value, spl [Value.int .i64 0, .int .i64 0, .int .i64 0, .int .i64 0, .slice none 0 0] 0 [a, b, c, d, e] = [a, b, c, d, e] := fun _ _ _ _ _ => rfl
  have fail : ∀ e : Int, ofE p i n = e → ofB p i n = false → OfPost p i n h (.tuple #[.agg #[.int .i64 0, .int .i64 0, .int .i64 0, .int .i64 0, .slice none 0 0], .bool false, .int .i64 e]) (h1.put rb ⟨[.int .i64 0, .int .i64 0, .int .i64 0, .int .i64 0, .slice none 0 0], .own⟩) := by
    intro e he hb
    have hL : ofL p i n = ⟨0, 0, 0, 0, []⟩ := by rw [ofL, hb]; rfl
    refine ⟨none, 0, ?_, ?_, Nw.none, fm01.put fun hx => by omega⟩
    · rw [hL, he, hb]; rfl
    · rw [hL]; exact Rd.mk0
  have rdr : ∀ cs : List Value, cs.length = 5 → (h1.put rb ⟨cs, .own⟩).rdN rb 0 5 = some cs := fun cs hc => by
    rw [rdN_mk gput (by simp [hc]), List.drop_zero, List.take_of_length_le (by simp [hc])]
  have rdz := rdr [.int .i64 0, .int .i64 0, .int .i64 0, .int .i64 0, .slice none 0 0] rfl
  cases hpl : planB p
  · simp +contextual only [↓AM, ↓AV, AP, hr1, z5, rdz, hrb]
    have he : ofE p i n = 1 := by rw [ofE, if_neg (by simp [hpl])]
    exact fail 1 he (by rw [ofB, he]; rfl)
  obtain ⟨p1, p2, p3, p4, p5, p6⟩ := planB_all hpl
  simp +contextual only [↓AM, ↓AV, AP]
  refine c_within.use ?_
  rintro _ h1 w1 ⟨rfl, rfl⟩
  by_cases hi : 0 ≤ i ∧ i ≤ 400
  case neg =>
    simp +contextual only [↓AM, ↓AV, AP, hi, hr1, z5, rdz, hrb]
    have he : ofE p i n = 1 := by rw [ofE, if_neg (fun h => hi h.2.1)]
    exact fail 1 he (by rw [ofB, he]; rfl)
  simp +contextual only [↓AM, ↓AV, AP, hi]
  refine c_within.use ?_
  rintro _ h1 w1 ⟨rfl, rfl⟩
  by_cases hnn : 0 ≤ n ∧ n ≤ 65536
  case neg =>
    simp +contextual only [↓AM, ↓AV, AP, hnn, hr1, z5, rdz, hrb]
    have he : ofE p i n = 1 := by rw [ofE, if_neg (fun h => hnn h.2.2)]
    exact fail 1 he (by rw [ofB, he]; rfl)
  have he : ofE p i n = 0 := by rw [ofE, if_pos ⟨hpl, hi, hnn⟩]
  obtain ⟨ei, rfl⟩ : ∃ m : Nat, i = m := ⟨i.toNat, by omega⟩
  obtain ⟨ev, hev⟩ : ∃ m : Nat, p.every = m := ⟨p.every.toNat, by omega⟩
  have hmod : ei / ev % p.keys.length < p.keys.length := Nat.mod_lt _ (by omega)
  obtain ⟨b1, o1, s1, rfl, f1, kk, hkk, rk⟩ := r1.int hmod
  have hkey : ofKey p ei = kk := by
    have : ((ei : Int) / p.every % (p.keys.length : Int)).toNat = ei / ev % p.keys.length := by rw [hev]; rfl
    rw [ofKey, this, List.getD_eq_getElem?_getD, hkk]; rfl
  have q1 : EqI (ev : Int) 0 = False := eq_false (by unfold EqI; omega)
  have q2 : EqI (p.keys.length : Int) 0 = False := eq_false (by unfold EqI; omega)
  have n1 : ((ev : Int) = 0) = False := eq_false (by omega)
  have n2 : ((p.keys.length : Int) = 0) = False := eq_false (by omega)
  have dv : ((ei / ev : Nat) : Int) ≤ 400 := by
    have : ei / ev ≤ ei := Nat.div_le_self _ _
    omega
  rw [hev] at hg1
  have v1 : IntKind.i64.wrap ((ei : Int).tdiv (ev : Int)) = ((ei / ev : Nat) : Int) := by
    rw [Int.tdiv_eq_ediv_of_nonneg (by omega)]
    have h0 : (0 : Int) ≤ ((ei / ev : Nat) : Int) := Int.natCast_nonneg _
    have : (ei : Int) / (ev : Int) = ((ei / ev : Nat) : Int) := rfl
    rw [this]
    generalize ((ei / ev : Nat) : Int) = z at dv h0 ⊢
    exact i64 (by omega)
  have v2 : (((ei / ev : Nat) : Int)).tmod (p.keys.length : Int) = ((ei / ev % p.keys.length : Nat) : Int) := by
    rw [Int.tmod_eq_emod_of_nonneg (Int.natCast_nonneg _)]; rfl
  simp +contextual (disch := omega) only [↓AM, ↓AV, AP, CQ, hnn, rd_mk hg1, q1, q2, n1, n2, v1, v2, f1, hmod, rk, ldOk]
  by_cases hk0 : kk = 0
  · subst hk0
    have k0 : EqI (0 : Int) 0 = True := eq_true rfl
    simp +contextual only [↓AM, ↓AV, AP, k0, hr1, z5, rdz, hrb]
    exact fail 0 he (by rw [ofB, hkey]; simp)
  have k0 : EqI kk 0 = False := eq_false hk0
  have hB : ofB p ei n = true := by rw [ofB, he, hkey]; simp [hk0]
  have hL : ofL p ei n = ⟨kk, p.base + ei, p.crypt, p.skip, if 0 < p.lead then [(if n < p.lead then n else p.lead, n - (if n < p.lead then n else p.lead))] else []⟩ := by
    rw [ofL, hB, hkey]; rfl
  obtain ⟨bs, hbs⟩ : ∃ m : Nat, p.base = m := ⟨p.base.toNat, by omega⟩
  have hgn : ∀ o, (h1.new o).get h.size = _ := fun o => (get_new (w1.lt hg1)).trans hg1
  have hrn : ∀ o, (h1.new o).get rb = _ := fun o => (get_new (w1.lt hr1)).trans hr1
  have wb : IntKind.i64.wrap (p.base + (ei : Int)) = p.base + ei := i64 (by omega)
  have hgn2 : ∀ o o2, ((h1.new o).new o2).get h1.size = some o := fun o o2 => (get_new (Nat.lt_succ_self _)).trans gnew
  have hrn2 : ∀ o o2 o3, (((h1.new o).new o2).put h1.size o3).get rb = _ := fun o o2 o3 => (get_put (fun e => by have := w1.lt hr1; omega)).trans ((get_new (Nat.lt_succ_of_lt (w1.lt hr1))).trans (hrn o))
  have rdf : ∀ (h9 : Hp) (a b c d e : Value), (h9.put rb ⟨[a, b, c, d, e], .own⟩).rdN rb 0 5 = some [a, b, c, d, e] := fun h9 a b c d e => by
    rw [rdN_mk gput (by simp)]; rfl
  have rd5 : ∀ (h9 : Hp) (a b c d e : Value), (h9.put h1.size ⟨[a, b, c, d, e], .own⟩).rdN h1.size 0 5 = some [a, b, c, d, e] := fun h9 a b c d e => by
    rw [rdN_mk gput (by simp)]; rfl
  have spl4 : ∀ a b c d e v : Value, spl [a, b, c, d, e] 4 [v] = [a, b, c, d, v] := fun _ _ _ _ _ _ => rfl
  have l5 : ∀ a b c d e : Value, leIs 5 [a, b, c, d, e] = true := fun _ _ _ _ _ => rfl
  by_cases hld : 0 < p.lead
  · have wm : IntKind.i64.wrap (n - (if n < p.lead then n else p.lead)) = n - (if n < p.lead then n else p.lead) := by
      split <;> exact i64 (by omega)
    have hL' : ofL p ei n = ⟨kk, p.base + ei, p.crypt, p.skip, [(if n < p.lead then n else p.lead, n - (if n < p.lead then n else p.lead))]⟩ := by rw [hL, if_pos hld]
    have imin : intMin [.int .i64 p.lead, .int .i64 n] = some (.int .i64 (if n < p.lead then n else p.lead)) := rfl
    generalize (if n < p.lead then n else p.lead) = mm at *
    simp +contextual (disch := omega) only [↓AM, ↓AV, AP, CQ, k0, rd_mk hg1, rd_mk (hgn _), wb, z5, hrb, hld, imin, wm, hgn2, hrn2, l5, spl4, rd5, rdf]
    have rp : Rd ((((h1.new ⟨[.int .i64 kk, .int .i64 (p.base + ei), .int .i64 p.crypt, .int .i64 p.skip, .slice none 0 0], .own⟩).new ⟨[.int .i64 mm, .int .i64 (n - mm)], .own⟩).put h1.size ⟨[.int .i64 kk, .int .i64 (p.base + ei), .int .i64 p.crypt, .int .i64 p.skip, .slice (some ⟨(h1.new ⟨[.int .i64 kk, .int .i64 (p.base + ei), .int .i64 p.crypt, .int .i64 p.skip, .slice none 0 0], .own⟩).size, 0, none⟩) 1 1], .own⟩).put rb ⟨[.int .i64 kk, .int .i64 (p.base + ei), .int .i64 p.crypt, .int .i64 p.skip, .slice (some ⟨(h1.new ⟨[.int .i64 kk, .int .i64 (p.base + ei), .int .i64 p.crypt, .int .i64 p.skip, .slice none 0 0], .own⟩).size, 0, none⟩) 1 1], .own⟩)
        2 (some ⟨(h1.new ⟨[.int .i64 kk, .int .i64 (p.base + ei), .int .i64 p.crypt, .int .i64 p.skip, .slice none 0 0], .own⟩).size, 0, none⟩) 1 ([(mm, n - mm)].flatMap partC) := by
      refine Rd.of rfl ?_
      have hlt := w1.lt hr1
      unfold Hp.rdN
      rw [get_put, get_put, gnew]
      rotate_left
      · show h1.size + 1 ≠ h1.size; omega
      · show h1.size + 1 ≠ rb; omega
      rfl
    refine ⟨some ⟨(h1.new ⟨[.int .i64 kk, .int .i64 (p.base + ei), .int .i64 p.crypt, .int .i64 p.skip, .slice none 0 0], .own⟩).size, 0, none⟩, 1, ?_, ?_, ?_, ?_⟩
    rotate_left 1
    · rw [hL']; exact rp
    · intro x hx
      have := At.some.1 hx
      subst this
      show h.size ≤ h1.size + 1
      have := fm01.size
      omega
    · exact ((Fm.new (Fm.new fm01)).put fun hx => by have := fm01.size; omega).put fun hx => by omega
    · rw [hL', he, hB]; rfl
  · have hL' : ofL p ei n = ⟨kk, p.base + ei, p.crypt, p.skip, []⟩ := by rw [hL, if_neg hld]
    simp +contextual (disch := omega) only [↓AM, ↓AV, AP, CQ, k0, rd_mk hg1, rd_mk (hgn _), wb, z5, hrb, hld, rdN_n5, hrn, rdf]
    refine ⟨none, 0, ?_, ?_, Nw.none, ?_⟩
    · rw [hL', he, hB]; rfl
    · rw [hL']; exact Rd.mk0
    · exact (Fm.new fm01).put fun hx => by omega
theorem c_theirs {h : Hp} {p : Pl} {oa : Option Addr} {c : Nat} (r : Rd h 1 oa p.keys.length (p.keys.map (Value.int .i64))) (hn : 8 * p.keys.length ≤ 140737488351232) :
    ACalls Try.prog 20 [planV p oa c] h fun v h' => ∃ oa' c', v = planV p oa' c' ∧ Rd h' 1 oa' p.keys.length (p.keys.map (Value.int .i64)) ∧ Fm No h h' := by
  refine dioramalaw21_theirs_ok.snd hm rfl fun w => ?_
  rw [WF_eq, dioramalaw21_theirs, planV]
  have e1 : ∀ o o2 : Ob, ((h.new o).new o2).get h.size = some o := fun o o2 => (get_new (Nat.lt_succ_self _)).trans gnew
  have e2 : ∀ o o2 : Ob, ((h.new o).new o2).get (h.new o).size = some o2 := fun o o2 => gnew
  simp +contextual only [↓AM, ↓AV, AP, rd_mk (e1 _ _)]
  have fm0 : Fm No h ((h.new ⟨[.slice oa p.keys.length c, .int .i64 p.every, .int .i64 p.base, .int .i64 p.crypt, .int .i64 p.skip, .int .i64 p.lead], .own⟩).new ⟨[.slice none 0 0, .int .i64 0, .int .i64 0, .int .i64 0, .int .i64 0, .int .i64 0], .own⟩) := Fm.new (Fm.new Fm.refl)
  have hg0 := e1 ⟨[.slice oa p.keys.length c, .int .i64 p.every, .int .i64 p.base, .int .i64 p.crypt, .int .i64 p.skip, .int .i64 p.lead], .own⟩ ⟨[.slice none 0 0, .int .i64 0, .int .i64 0, .int .i64 0, .int .i64 0, .int .i64 0], .own⟩
  have hr0 := e2 ⟨[.slice oa p.keys.length c, .int .i64 p.every, .int .i64 p.base, .int .i64 p.crypt, .int .i64 p.skip, .int .i64 p.lead], .own⟩ ⟨[.slice none 0 0, .int .i64 0, .int .i64 0, .int .i64 0, .int .i64 0, .int .i64 0], .own⟩
  have r0 := r.keep w fm0 (fun _ _ => id)
  have w0 : Wf ((h.new ⟨[.slice oa p.keys.length c, .int .i64 p.every, .int .i64 p.base, .int .i64 p.crypt, .int .i64 p.skip, .int .i64 p.lead], .own⟩).new ⟨[.slice none 0 0, .int .i64 0, .int .i64 0, .int .i64 0, .int .i64 0, .int .i64 0], .own⟩) := w.new.new
  generalize (h.new ⟨[.slice oa p.keys.length c, .int .i64 p.every, .int .i64 p.base, .int .i64 p.crypt, .int .i64 p.skip, .int .i64 p.lead], .own⟩).new ⟨[.slice none 0 0, .int .i64 0, .int .i64 0, .int .i64 0, .int .i64 0, .int .i64 0], .own⟩ = h0 at *
  have hs1 : (h.new ⟨[.slice oa p.keys.length c, .int .i64 p.every, .int .i64 p.base, .int .i64 p.crypt, .int .i64 p.skip, .int .i64 p.lead], .own⟩).size = h.size + 1 := rfl
  obtain ⟨rb, hrb⟩ : ∃ rb, (h.new ⟨[.slice oa p.keys.length c, .int .i64 p.every, .int .i64 p.base, .int .i64 p.crypt, .int .i64 p.skip, .int .i64 p.lead], .own⟩).size = rb := ⟨_, rfl⟩
  rw [hrb] at hr0 hs1
  refine (c_CopyInts r0 hn).use ?_
  rintro _ h1 w1 ⟨o, co, rfl, ow, nw, fm1⟩
  have hg1 := fm1.keep w0 hg0 id
  have hr1 := fm1.keep w0 hr0 id
  have z6 : ∀ a b c d e f : Value, spl [Value.slice none 0 0, .int .i64 0, .int .i64 0, .int .i64 0, .int .i64 0, .int .i64 0] 0 [a, b, c, d, e, f] = [a, b, c, d, e, f] := fun _ _ _ _ _ _ => rfl
  have rdf : ∀ (h9 : Hp) (a b c d e f : Value), (h9.put rb ⟨[a, b, c, d, e, f], .own⟩).rdN rb 0 6 = some [a, b, c, d, e, f] := fun h9 a b c d e f => by
    rw [rdN_mk gput (by simp)]; rfl
  simp +contextual only [↓AM, ↓AV, AP, rd_mk hg1, ldOk, hrb, hr1, z6, rdf]
  have fmp : Fm (fun x => x = rb) h1 (h1.put rb ⟨[.slice o p.keys.length co, .int .i64 p.every, .int .i64 p.base, .int .i64 p.crypt, .int .i64 p.skip, .int .i64 p.lead], .own⟩) := Fm.put Fm.refl fun _ => rfl
  have hlt := w0.lt hr0
  exact ⟨o, co, rfl, ow.rd.keep w1 fmp (fun x hx e => by have := nw x hx; omega), (fm0.trans fm1 fun _ _ x => x).trans fmp fun x hx e => by omega⟩
end Go.Proofs.Ytloonniiffbopaa.Cr
