/- The abstract steps that only compute, sound in the world. Plain theorems.
   Conditions: none. -/
import Derived.Test.YtbfbgkhlngkifaaAmE
namespace Go.Proofs.Ytbfbgkhlngkifaa.Am
open Go Go.RowKit
set_option linter.unusedVariables false
set_option linter.unusedSimpArgs false

section
variable {P : Program} {n base : Nat} {w0 : World} {γ : Gam} {h : Hp} {w : World} {t : Tm} {a : Act} {K : Option Value → Hp → Prop} {o : Oper}

theorem int_of {x : Operand} {k : IntKind} {i : Int} (rv : VRel γ (.int k i) (a.eval x)) : a.eval x = .int k i := by
  generalize a.eval x = v at rv ⊢
  cases rv; rfl
theorem bool_of {x : Operand} {b : Bool} (rv : VRel γ (.bool b) (a.eval x)) : a.eval x = .bool b := by
  generalize a.eval x = v at rv ⊢
  cases rv; rfl
theorem string_of {x : Operand} {s : ByteArray} (rv : VRel γ (.string s) (a.eval x)) : a.eval x = .string s := by
  generalize a.eval x = v at rv ⊢
  cases rv; rfl
theorem agg_of {x : Operand} {cs : Array Value} (rv : VRel γ (.agg cs) (a.eval x)) : ∃ ds, a.eval x = .agg ds ∧ LRel γ cs.toList ds.toList := by
  generalize a.eval x = v at rv ⊢
  cases rv with
  | agg hs h => exact ⟨_, rfl, LRel.arr hs h⟩
theorem tuple_of {x : Operand} {cs : Array Value} (rv : VRel γ (.tuple cs) (a.eval x)) : ∃ ds, a.eval x = .tuple ds ∧ LRel γ cs.toList ds.toList := by
  generalize a.eval x = v at rv ⊢
  cases rv with
  | tuple hs h => exact ⟨_, rfl, LRel.arr hs h⟩
/-- A slice's place in the world. -/
theorem slice_of {x : Operand} {b off ln cap : Nat} {sp : Option Nat} (rv : VRel γ (.slice (some ⟨b, off, sp⟩) ln cap) (a.eval x)) (hf : flagOk sp = true) :
    ∃ c σ E, γ b = some (c, σ, E) ∧ a.eval x = .slice (some ⟨c, off + σ, none⟩) ln (cap + if sp.isSome then E else 0) := by
  generalize a.eval x = v at rv ⊢
  cases rv with
  | slice hg => exact ⟨_, _, _, hg, rfl⟩
  | sliceh hg =>
    rename_i k c σ E
    have : k = 0 := by
      cases k with
      | zero => rfl
      | succ n => simp [flagOk] at hf
    subst this
    exact ⟨_, _, _, hg, by simp⟩

theorem s_pick (r : TRel γ n t a) {m : Nat} {c x y : Operand} (ho : o.op = .pick c x y) (hc : okO m c = true) (hx : okO m x = true) (hy : okO m y = true) (hs : (AK.pick c x y).step t h K) :
    PG P γ o a h K := by
  simp only [AK.step] at hs
  split at hs
  · rename_i b hv
    have hb := bool_of (r.ev hc hv)
    refine ⟨(if b then a.eval x else a.eval y), fun w => ?_, _, hs, fun v hv => ?_⟩
    · simp [execOp, ho, hb, asBool]
    · cases b
      · exact r.ev hy (by simpa using hv)
      · exact r.ev hx (by simpa using hv)
  · exact hs.elim

theorem s_nil (r : TRel γ n t a) {m : Nat} {x : Operand} (ho : o.op = .nilCheck x) (hx : okO m x = true) (hs : (AK.nil x).step t h K) : PG P γ o a h K := by
  simp only [AK.step] at hs
  split at hs
  · rename_i ad hv
    have rv := r.ev hx hv
    obtain ⟨b, i, sp⟩ := ad
    generalize hax : a.eval x = v at rv
    cases rv with
    | ptr hg => exact PG.of hs (fun w => by simp [execOp, ho, hax]) (.ptr hg)
  · rename_i f u v hv
    have rv := r.ev hx hv
    generalize hax : a.eval x = vv at rv
    cases rv with
    | func h1 h2 h3 h4 => exact PG.of hs (fun w => by simp [execOp, ho, hax]) (.func h1 h2 h3 h4)
  · rename_i ty v hv
    have rv := r.ev hx hv
    generalize hax : a.eval x = vv at rv
    cases rv with
    | iface h1 => exact PG.of hs (fun w => by simp [execOp, ho, hax]) (.iface h1)
  · exact hs.elim

theorem binK_sound {op : BinOp} {ty : TypeId} {x y : Operand} {u v u' v' : Value} {Q : Value → Prop} (hu : VRel γ u u') (hv : VRel γ v v') (hs : binK op u v Q) :
    ∃ z, Q z ∧ VRel γ z z ∧ (∀ w, (binOp op ty u' v').run P w = .ok z w) ∧ (eqGuard op ty x y u' v') = Pure.pure () := by
  unfold binK at hs
  split at hs
  · rename_i k i k' j
    cases hu; cases hv
    have hg := eqGuard_at_int op ty x y (.int k' j) k i
    cases op <;> simp only [intBin] at hs
    case shl =>
      obtain ⟨h0, hq⟩ := hs
      exact ⟨_, hq, .int _ _, fun w => by simp [binOp, Op.shift, Int.not_lt.2 h0], hg⟩
    case shr =>
      obtain ⟨h0, hq⟩ := hs
      exact ⟨_, hq, .int _ _, fun w => by simp [binOp, Op.shift, Int.not_lt.2 h0], hg⟩
    case quo =>
      obtain ⟨rfl, h0, hq⟩ := hs
      exact ⟨_, hq, .int _ _, fun w => by simp [binOp, Op.intDiv, h0], hg⟩
    case rem =>
      obtain ⟨rfl, h0, hq⟩ := hs
      exact ⟨_, hq, .int _ _, fun w => by simp [binOp, Op.intDiv, h0], hg⟩
    all_goals
      obtain ⟨rfl, hq⟩ := hs
      first
        | exact ⟨_, hq, .int _ _, fun w => by simp [binOp, Op.intArith, Op.intBits], hg⟩
        | exact ⟨_, hq, .bool _, fun w => by simp [binOp, Op.intCmp], hg⟩
  · rename_i p q
    cases hu; cases hv
    have hg := eqGuard_at_string op ty x y (.string q) p
    cases op <;> simp only [strBin] at hs <;> try exact hs.elim
    case add =>
      obtain ⟨hz, hq⟩ := hs
      refine ⟨_, hq, .string _, fun w => ?_, hg⟩
      have hmax : ¬ ((p.size + q.size : Nat) : Int) > IntKind.i64.max := by rw [IntKind.max_i64]; omega
      simp only [binOp, Op.stringOp]
      rw [if_neg hmax]
      rfl
    all_goals exact ⟨_, hs, .bool _, fun w => by simp [binOp, Op.stringOp], hg⟩
  · exact hs.elim

theorem s_bin (r : TRel γ n t a) {m : Nat} {op : BinOp} {ty ty' : TypeId} {x y : Operand} (ho : o.op = .binOp op ty x y ty') (hx : okO m x = true) (hy : okO m y = true)
    (hs : (AK.bin op x y).step t h K) : PG P γ o a h K := by
  simp only [AK.step] at hs
  split at hs
  · rename_i u v hu hv
    obtain ⟨z, hq, hz, hrun, hg⟩ := binK_sound (P := P) (ty := ty) (x := x) (y := y) (r.ev hx hu) (r.ev hy hv) hs
    exact PG.of hq (fun w => by simp [execOp, ho, hg, hrun]) hz
  · exact hs.elim

theorem run_equalIn_bool (d : Nat) {ty : TypeId} (hb : P.underlying ty = some .bool) {p q : Bool} : (Op.equalIn (d + 1) ty (.bool p) (.bool q)).run P w = .ok (p == q) w := by
  simp [Op.equalIn, run_underlying hb]
theorem s_beq (r : TRel γ n t a) {m : Nat} {neg : Bool} {ty ty' : TypeId} {x y : Operand} (ho : o.op = .binOp (if neg then .neq else .eql) ty x y ty') (hb : P.underlying ty = some .bool) (hx : okO m x = true) (hy : okO m y = true)
    (hs : (AK.beq neg x y).step t h K) : PG P γ o a h K := by
  simp only [AK.step] at hs
  split at hs
  · rename_i p q hu hv
    have e1 := bool_of (r.ev hx hu)
    have e2 := bool_of (r.ev hy hv)
    have he : ∀ w, (Op.equal ty (.bool p) (.bool q)).run P w = .ok (p == q) w := fun w => run_equalIn_bool 9999 hb
    cases neg
    · exact PG.of hs (fun w => by simp [execOp, ho, e1, e2, eqGuard_at_bool, binOp, he]) (.bool _)
    · exact PG.of hs (fun w => by simp [execOp, ho, e1, e2, eqGuard_at_bool, binOp, he, bne]) (.bool _)
  · exact hs.elim

theorem s_shlc (r : TRel γ n t a) {m c : Nat} {k' : IntKind} {ty ty' : TypeId} {x : Operand} (ho : o.op = .binOp .shl ty x (.const (.int k' c)) ty') (hx : okO m x = true)
    (hs : (AK.shlc x c).step t h K) : PG P γ o a h K := by
  simp only [AK.step] at hs
  split at hs
  · rename_i k i hv
    have e1 := int_of (r.ev hx hv)
    refine PG.of hs (fun w => ?_) (.int _ _)
    have e2 : a.eval (.const (.int k' c)) = .int k' c := rfl
    simp [execOp, ho, e1, e2, eqGuard_at_int, binOp, Op.shift, Int.not_lt.2 (Int.natCast_nonneg c)]
  · exact hs.elim

theorem s_shrc (r : TRel γ n t a) {m c : Nat} {k' : IntKind} {ty ty' : TypeId} {x : Operand} (ho : o.op = .binOp .shr ty x (.const (.int k' c)) ty') (hx : okO m x = true)
    (hs : (AK.shrc x c).step t h K) : PG P γ o a h K := by
  simp only [AK.step] at hs
  split at hs
  · rename_i k i hv
    have e1 := int_of (r.ev hx hv)
    refine PG.of hs (fun w => ?_) (.int _ _)
    have e2 : a.eval (.const (.int k' c)) = .int k' c := rfl
    simp [execOp, ho, e1, e2, eqGuard_at_int, binOp, Op.shift, Int.not_lt.2 (Int.natCast_nonneg c)]
  · exact hs.elim

theorem s_un (r : TRel γ n t a) {m : Nat} {op : UnOp} {ty : TypeId} {x : Operand} (ho : o.op = .unOp op ty x) (hx : okO m x = true)
    (hs : (AK.un op x).step t h K) : PG P γ o a h K := by
  simp only [AK.step] at hs
  split at hs
  · rename_i k i hv
    have e1 := int_of (r.ev hx hv)
    exact PG.of hs (fun w => by simp [execOp, ho, e1, Op.unary, Op.intArith]) (.int _ _)
  · rename_i b hv
    have e1 := bool_of (r.ev hx hv)
    exact PG.of hs (fun w => by simp [execOp, ho, e1, Op.unary]) (.bool _)
  · rename_i k i hv
    have e1 := int_of (r.ev hx hv)
    exact PG.of hs (fun w => by simp [execOp, ho, e1, Op.unary, Op.intBits]) (.int _ _)
  · exact hs.elim

theorem s_cvi (r : TRel γ n t a) {m : Nat} {k : IntKind} {src dst : TypeId} {d : TypeDesc} {x : Operand} (ho : o.op = .convert src dst x) (hsrc : P.underlying src = some d) (hdst : P.underlying dst = some (.int k)) (hx : okO m x = true)
    (hs : (AK.cvi k x).step t h K) : PG P γ o a h K := by
  simp only [AK.step] at hs
  split at hs
  · rename_i k' i hv
    have e1 := int_of (r.ev hx hv)
    refine PG.of hs (fun w => ?_) (.int _ _)
    have : (convert src dst (.int k' i)).run P w = .ok (.int k (k.wrap i)) w := by
      simp only [convert, Sem.run_bind, run_underlying hsrc, run_underlying hdst, Result.andThen_ok, Conv.intToInt, Sem.run_pure]
    simp [execOp, ho, e1, this]
  · exact hs.elim

theorem s_mkif (r : TRel γ n t a) {m : Nat} {ty : TypeId} {x : Operand} (ho : o.op = .makeInterface ty x) {d : TypeDesc} (hd : P.underlying ty = some d) (hc : ifaceD d = false) (hx : okO m x = true)
    (hs : (AK.mkif ty x).step t h K) : PG P γ o a h K := by
  simp only [AK.step] at hs
  split at hs
  · rename_i v hv
    exact PG.of hs (fun w => by
      have : (Instr.makeInterface ty (a.eval x)).run P w = .ok (.iface ty (a.eval x)) w := by
        simp only [Instr.makeInterface, Sem.run_bind, run_underlying hd, Result.andThen_ok]
        cases d <;> simp_all [ifaceD]
      simp [execOp, ho, this]) (.iface (r.ev hx hv))
  · exact hs.elim

theorem s_mkf (r : TRel γ n t a) {m : Nat} {f : FuncId} {us vs : Array Operand} (ho : o.op = .makeFunc (.func f) us vs) (hus : us.toList.all (okO m) = true) (hvs : vs.toList.all (okO m) = true)
    (hs : (AK.mkf f us.toList vs.toList).step t h K) : PG P γ o a h K := by
  simp only [AK.step] at hs
  split at hs
  · rename_i xs ys hx hy
    have h1 := evs_rel r hus hx
    have h2 := evs_rel r hvs hy
    refine PG.of hs (v' := .func (.func f) (us.map a.eval) (vs.map a.eval)) (fun w => by simp [execOp, ho, Instr.makeFunc]) ?_
    refine .func (by simpa using h1.1) (fun i hi hj => ?_) (by simpa using h2.1) (fun i hi hj => ?_)
    · have := h1.2 i (by simpa using hi) (by simpa using hj)
      rw [List.getElem_map] at this
      simpa using this
    · have := h2.2 i (by simpa using hi) (by simpa using hj)
      rw [List.getElem_map] at this
      simpa using this
  · exact hs.elim

theorem s_fa (r : TRel γ n t a) {m f : Nat} {ty : TypeId} {fs : Array Field} {fd : Field} {ti : TypeInfo} {x : Operand} (ho : o.op = .fieldAddr ty x f) (hu : P.underlying ty = some (.struct fs)) (hf : fs[f]? = some fd)
    (hi : P.info? fd.type = some ti) (hz : ti.size ≠ 0) (hx : okO m x = true) (hs : (AK.fa fd.offset x).step t h K) : PG P γ o a h K := by
  simp only [AK.step] at hs
  split at hs
  · rename_i b i hv
    obtain ⟨c, σ, E, hg, hax⟩ := ptr_of (r.ev hx hv)
    refine PG.of hs (v' := .pointer (some ⟨c, i + fd.offset + σ, none⟩)) (fun w => ?_) (.ptr hg)
    simp [execOp, ho, Instr.fieldAt, run_underlying hu, hf, hax, Instr.sureAddr, fieldPlace, run_size hi, hz, Addr.add_lit, Nat.add_right_comm]
  · exact hs.elim

theorem s_fld1 (r : TRel γ n t a) {m f : Nat} {ty : TypeId} {fs : Array Field} {fd : Field} {d : TypeDesc} {x : Operand} (ho : o.op = .field ty x f) (hu : P.underlying ty = some (.struct fs)) (hf : fs[f]? = some fd)
    (hd : P.underlying fd.type = some d) (hagg : aggD d = false) (hx : okO m x = true) (hs : (AK.fld1 fd.offset x).step t h K) : PG P γ o a h K := by
  simp only [AK.step] at hs
  split at hs
  · rename_i cs hv
    obtain ⟨v, hg, hk⟩ := hs
    obtain ⟨ds, hax, hrel⟩ := agg_of (r.ev hx hv)
    obtain ⟨v', h1, h2⟩ := hrel.get? hg
    refine PG.of hk (v' := v') (fun w => ?_) h2
    rw [Array.getElem?_toList] at h1
    simp [execOp, ho, Instr.field, run_underlying hu, hf, hax, asAgg, part, run_isAgg_true hd hagg, h1]
  · exact hs.elim

theorem part_agg {ty : TypeId} {d : TypeDesc} {ti : TypeInfo} {off : Nat} {ds : Array Value} (hd : P.underlying ty = some d) (hagg : aggD d = true) (hi : P.info? ty = some ti) (w : World) :
    (part ty ds off).run P w = .ok (.agg ((ds.toList.drop off).take ti.size).toArray) w := by
  simp only [part, Sem.run_bind, run_isAgg_true hd hagg, Result.andThen_ok, if_true, run_size hi, Sem.run_pure]
  congr 2
  apply Array.ext'
  simp [List.drop_take]

theorem s_fldN (r : TRel γ n t a) {m f : Nat} {ty : TypeId} {fs : Array Field} {fd : Field} {d : TypeDesc} {ti : TypeInfo} {x : Operand} (ho : o.op = .field ty x f) (hu : P.underlying ty = some (.struct fs)) (hf : fs[f]? = some fd)
    (hd : P.underlying fd.type = some d) (hagg : aggD d = true) (hi : P.info? fd.type = some ti) (hx : okO m x = true) (hs : (AK.fldN fd.offset ti.size x).step t h K) :
    PG P γ o a h K := by
  simp only [AK.step] at hs
  split at hs
  · rename_i cs hv
    obtain ⟨hle, hk⟩ := hs
    obtain ⟨ds, hax, hrel⟩ := agg_of (r.ev hx hv)
    refine PG.of hk (v' := .agg ((ds.toList.drop fd.offset).take ti.size).toArray) (fun w => ?_) (VRel.agg_of ((hrel.drop _).take _))
    simp [execOp, ho, Instr.field, run_underlying hu, hf, hax, asAgg, part_agg hd hagg hi]
  · exact hs.elim

theorem s_ext (r : TRel γ n t a) {m i : Nat} {x : Operand} (ho : o.op = .extract x i) (hx : okO m x = true) (hs : (AK.ext x i).step t h K) : PG P γ o a h K := by
  simp only [AK.step] at hs
  split at hs
  · rename_i cs hv
    obtain ⟨v, hg, hk⟩ := hs
    obtain ⟨ds, hax, hrel⟩ := tuple_of (r.ev hx hv)
    obtain ⟨v', h1, h2⟩ := hrel.get? hg
    refine PG.of hk (v' := v') (fun w => ?_) h2
    rw [Array.getElem?_toList] at h1
    simp [execOp, ho, Instr.extract, hax, h1]
  · exact hs.elim
end
end Go.Proofs.Ytbfbgkhlngkifaa.Am
