/- The encoder's calls: a bit, the bytes. Plain theorems over the abstract machine.
   Conditions: none. -/
import Derived.Test.YtholkooikmbamaaArB
namespace Go.Proofs.Ytholkooikmbamaa.Ar
open Go Go.RowKit Go.Proofs.Ytholkooikmbamaa.Am Go.Proofs.Ytholkooikmbamaa.Af
set_option linter.unusedVariables false
set_option linter.unusedSimpArgs false
set_option maxRecDepth 20000

/-- An encoder that is not too long. -/
structure Fit (e : En) : Prop extends Gd e where
  num : e.n ≤ 100000000
theorem Fit.short {e : En} (g : Fit e) : e.out.length ≤ 100000000 := by have := g.len; have := g.num; omega
theorem c_usable {h : Hp} {b : Nat} {oa : Option Addr} {e : En} (he : EncAt .u64 h b oa e) (g : Gd e) :
    ACalls Try.prog 44 [.pointer (some ⟨b, 0, none⟩)] h fun v h' => v = .bool true ∧ h' = h := by
  refine arith_Encoder__usable_ok.snd hm rfl fun w => ?_
  rw [WF_eq, arith_Encoder__usable]
  obtain ⟨ln, cap, hg, ow, hna⟩ := he
  have hs := g.span
  have h0 : EqI e.span 0 = False := by simp [EqI]; omega
  simp +contextual only [↓AM, ↓AV, AP, rd_mk hg, hg, h0, isNilV, Option.isNone]
theorem c_usable0 {h : Hp} : ACalls Try.prog 44 [.pointer none] h fun v h' => v = .bool false ∧ h' = h := by
  refine arith_Encoder__usable_ok.snd hm rfl fun w => ?_
  rw [WF_eq, arith_Encoder__usable]
  simp +contextual only [↓AM, ↓AV, AP, isNilV, Option.isNone]
theorem c_ready1 {h : Hp} {p : Int} : ACalls Try.prog 68 [.int .i64 p] h fun v h' => v = .bool (!decide (St p)) ∧ h' = h := by
  refine arith_Encoder__ready_1_ok.snd hm rfl fun w => ?_
  rw [WF_eq, arith_Encoder__ready_1]
  simp +contextual only [↓AM, ↓AV, AP]
  refine c_isState.use ?_
  rintro _ _ w1 ⟨rfl, rfl⟩
  simp +contextual only [↓AM, ↓AV, AP]
/-- What may be written: the first error. -/
def readyI (e : En) (l : List Int) (ok : Bool) : Int := if l.any (fun p => !decide (St p)) then 130 else if ok then (if 1048576 < e.n then 2 else 0) else 1
theorem c_ready {h : Hp} {b n c : Nat} {oa a : Option Addr} {e : En} {l : List Int} {ok : Bool} (he : EncAt .u64 h b oa e) (hl : Rd h 1 a n (l.map (Value.int .i64))) (hn : n ≤ 140737488351232) :
    ACalls Try.prog 45 [.pointer (some ⟨b, 0, none⟩), .slice a n c, .bool ok] h fun v h' => v = .int .i64 (readyI e l ok) ∧ h' = h := by
  refine arith_Encoder__ready_ok.snd hm rfl fun w => ?_
  rw [WF_eq, arith_Encoder__ready]
  obtain ⟨ln, cap, hg, ow, hna⟩ := he
  simp +contextual only [↓AM, ↓AV, AP]
  refine (c_ContainsFunc hl hn (by kernel_rfl) (p := fun p => !decide (St p)) (fun x _ => c_ready1)).use ?_
  rintro _ _ w1 ⟨rfl, rfl⟩
  simp +contextual only [↓AM, ↓AV, AP, rd_mk hg, readyI]
  cases ok <;> simp +contextual only [↓AM, ↓AV, AP, readyI] <;> cases (l.any fun p => decide ¬St p) <;> simp
/-- A bit's answer, and the encoder behind it. -/
def bitI (e : En) (p b : Int) : Int × Int := if St p then if b = 0 ∨ b = 1 then if 1048576 < e.n then (0, 2) else (stepI p b, 0) else (0, 1) else (0, 130)
def bitE (e : En) (p b : Int) : En := if St p ∧ (b = 0 ∨ b = 1) ∧ ¬ 1048576 < e.n then put e p b else e
theorem bitE_gd {e : En} (g : Gd e) (p b : Int) : Gd (bitE e p b) := by
  unfold bitE
  split
  · rename_i h; exact put_gd g h.1
  · exact g
theorem bitE_len (e : En) (p b : Int) : (bitE e p b).out.length ≤ e.out.length + 1 := by
  unfold bitE
  split
  · exact put_len e p b
  · omega
theorem bitE_n (e : En) (p b : Int) : (bitE e p b).n ≤ e.n + 1 ∧ e.n ≤ (bitE e p b).n := by
  unfold bitE
  split
  · exact ⟨Int.le_refl _, by show e.n ≤ e.n + 1; omega⟩
  · omega
theorem c_Bit {h : Hp} {b : Nat} {oa : Option Addr} {e : En} {p bt : Int} (he : EncAt .u64 h b oa e) (g : Fit e) :
    ACalls Try.prog 11 [.pointer (some ⟨b, 0, none⟩), .int .i64 p, .int .i64 bt] h fun v h' => v = pairV (bitI e p bt) ∧ ∃ oa', EncAt .u64 h' b oa' (bitE e p bt) ∧ Fm (Ft b oa) h h' ∧ ∀ x, At oa' x → At oa x ∨ h.size ≤ x := by
  refine arith_Encoder__Bit_ok.snd hm rfl fun w => ?_
  rw [WF_eq, arith_Encoder__Bit]
  simp +contextual only [↓AM, ↓AV, AP]
  refine (c_usable he g.toGd).use ?_
  rintro _ h w1 ⟨rfl, rfl⟩
  have hret : ∀ ok : Bool, readyI e [p] ok = (if St p then if ok then (if 1048576 < e.n then 2 else 0) else 1 else 130) := by
    intro ok
    simp only [readyI, List.any_cons, List.any_nil, Bool.or_false]
    by_cases hp : St p <;> simp [hp]
  have fm0 : ∀ o : Ob, Fm No h (h.new o) := fun o => Fm.new Fm.refl
  have hk := fun o => he.keep (F := No) w1 (fm0 o) (fun _ _ => id)
  have hrd : Rd (h.new ⟨[Value.int .i64 p], .own⟩) 1 (some ⟨h.size, 0, none⟩) 1 ([p].map (Value.int .i64)) := (Ow.new (n := 1) (m := 1) rfl (by omega)).rd
  have go : bt = 0 ∨ bt = 1 → St p → ¬ 1048576 < e.n → ∀ h1 : Hp, h1 = h.new ⟨[Value.int .i64 p], .own⟩ → Wf h1 → ACalls Try.prog 46 [.pointer (some ⟨b, 0, none⟩), .int .i64 p, .int .i64 bt] h1 fun v h' => ∃ oa', EncAt .u64 h' b oa' (bitE e p bt) ∧ Fm (Ft b oa) h h' ∧ ∀ x, At oa' x → At oa x ∨ h.size ≤ x := by
    intro hb hp hn h1 e1 w1
    subst e1
    refine (c_put (hk _) g.toGd hp hb g.short g.num).mono ?_
    rintro v h' ⟨oa', h1, h2, h3⟩
    refine ⟨oa', ?_, ((fm0 _).mono fun _ _ x => x.elim).trans h2 fun _ _ x => x, fun x hx => (h3 x hx).imp id fun hs => by have : h.size + 1 ≤ x := hs; omega⟩
    rw [bitE, if_pos ⟨hp, hb, hn⟩]
    exact h1
  have stay : ¬ (St p ∧ (bt = 0 ∨ bt = 1) ∧ ¬ 1048576 < e.n) → ∃ oa', EncAt .u64 (h.new ⟨[Value.int .i64 p], .own⟩) b oa' (bitE e p bt) ∧ Fm (Ft b oa) h (h.new ⟨[Value.int .i64 p], .own⟩) ∧ ∀ x, At oa' x → At oa x ∨ h.size ≤ x := by
    intro hno
    rw [bitE, if_neg hno]
    exact ⟨oa, hk _, Fm.new Fm.refl, fun x hx => .inl hx⟩
  rcases (show bt = 0 ∨ bt = 1 ∨ (bt ≠ 0 ∧ bt ≠ 1) by omega) with hb | hb | hb
  case' inr.inr =>
    have h0 : EqI bt 0 = False := by simp [EqI, hb.1]
    have h1 : EqI bt 1 = False := by simp [EqI, hb.2]
  case' inr.inl => subst hb
  case' inl => subst hb
  all_goals simp +contextual only [↓AM, ↓AV, AP, *]
  all_goals refine (c_ready (hk _) hrd (by omega)).use ?_
  all_goals rintro _ h1' w2 ⟨rfl, rfl⟩
  all_goals rw [hret]
  all_goals by_cases hp : St p
  all_goals by_cases hn : 1048576 < e.n
  all_goals simp +contextual only [↓AM, ↓AV, AP, hp, hn]
  all_goals first
    | (refine ⟨?_, stay ?_⟩ <;> clear go stay hk hrd hret fm0 <;> simp_all [bitI, pairV])
    | (refine (go (by simp) hp hn _ rfl w2).use ?_
       rintro _ h3 w3 ⟨oa', q⟩
       simp +contextual only [↓AM, ↓AV, AP]
       refine (c_step hp).use ?_
       rintro _ h3 w4 ⟨rfl, rfl⟩
       simp +contextual only [↓AM, ↓AV, AP]
       exact ⟨by simp [bitI, hp, hn, pairV], oa', q⟩)
end Go.Proofs.Ytholkooikmbamaa.Ar
