/- The abstract steps: indexing, slicing, comparing, making slices. Plain theorems.
   Conditions: none. -/
import Derived.Test.YtbfbgkhlngkifaaAmF
import Derived.DeepKeys
import Derived.ChangeKeysEq
namespace Go.Proofs.Ytbfbgkhlngkifaa.Am
open Go Go.RowKit
set_option linter.unusedVariables false
set_option linter.unusedSimpArgs false

section
variable {P : Program} {n base : Nat} {w0 : World} {γ : Gam} {h : Hp} {w : World} {t : Tm} {a : Act} {K : Option Value → Hp → Prop} {o : Oper}

theorem s_ia (r : TRel γ n t a) {m : Nat} {ty e : TypeId} {ti : TypeInfo} {x i : Operand} (ho : o.op = .indexAddr ty x i) (hu : P.underlying ty = some (.slice e)) (hi : P.info? e = some ti) (hx : okO m x = true) (hix : okO m i = true)
    (hs : (AK.ia ti.size x i).step t h K) : PG P γ o a h K := by
  simp only [AK.step] at hs
  split at hs
  · rename_i b off sp ln cap k j hv hj
    obtain ⟨hf, hb, hk⟩ := hs
    obtain ⟨c, σ, E, hg, hax⟩ := slice_of (r.ev hx hv) hf
    have e1 := int_of (r.ev hix hj)
    refine PG.of hk (v' := .pointer (some ⟨c, off + j.toNat * ti.size + σ, none⟩)) (fun w => ?_) (.ptr hg)
    simp [execOp, ho, Instr.indexAt, asIntOf, e1, run_underlying hu, hax, hb, run_size hi, Addr.add_lit, Nat.add_right_comm]
  · exact hs.elim

theorem s_iaa (r : TRel γ n t a) {m l : Nat} {ty e : TypeId} {ti : TypeInfo} {x i : Operand} (ho : o.op = .indexAddr ty x i) (hu : P.underlying ty = some (.array l e)) (hi : P.info? e = some ti) (hx : okO m x = true) (hix : okO m i = true)
    (hs : (AK.iaa l ti.size x i).step t h K) : PG P γ o a h K := by
  simp only [AK.step] at hs
  split at hs
  · rename_i b off k j hv hj
    obtain ⟨hb, hk⟩ := hs
    obtain ⟨c, σ, E, hg, hax⟩ := ptr_of (r.ev hx hv)
    have e1 := int_of (r.ev hix hj)
    refine PG.of hk (v' := .pointer (some ⟨c, off + j.toNat * ti.size + σ, none⟩)) (fun w => ?_) (.ptr hg)
    simp [execOp, ho, Instr.indexAt, asIntOf, e1, run_underlying hu, hax, Instr.sureAddr, hb, run_size hi, Addr.add_lit, Nat.add_right_comm]
  · exact hs.elim

theorem s_ixs (r : TRel γ n t a) {m : Nat} {ty : TypeId} {x i : Operand} (ho : o.op = .index ty x i) (hu : P.underlying ty = some .string) (hx : okO m x = true) (hix : okO m i = true)
    (hs : (AK.ixs x i).step t h K) : PG P γ o a h K := by
  simp only [AK.step] at hs
  split at hs
  · rename_i str k j hv hj
    obtain ⟨h0, b, hb, hk⟩ := hs
    have e1 := int_of (r.ev hix hj)
    have e2 := string_of (r.ev hx hv)
    refine PG.of hk (fun w => ?_) (.int _ _)
    have hb' : str[j.toNat]? = some b := by
      rw [Array.getElem?_toList] at hb
      obtain ⟨hlt, hbb⟩ := Array.getElem?_eq_some_iff.1 hb
      rw [getElem?_pos str j.toNat hlt]
      exact congrArg some hbb
    simp [execOp, ho, Instr.index, asIntOf, e1, e2, run_underlying hu, h0, hb']
  · exact hs.elim

theorem s_ixa1 (r : TRel γ n t a) {m l : Nat} {ty e : TypeId} {d : TypeDesc} {ti : TypeInfo} {x i : Operand} (ho : o.op = .index ty x i) (hu : P.underlying ty = some (.array l e)) (hi : P.info? e = some ti) (hz : ti.size = 1)
    (hd : P.underlying e = some d) (hagg : aggD d = false) (hx : okO m x = true) (hix : okO m i = true) (hs : (AK.ixa1 l x i).step t h K) : PG P γ o a h K := by
  simp only [AK.step] at hs
  split at hs
  · rename_i cs k j hv hj
    obtain ⟨h0, v, hg, hk⟩ := hs
    have e1 := int_of (r.ev hix hj)
    obtain ⟨ds, hax, hrel⟩ := agg_of (r.ev hx hv)
    obtain ⟨v', h1, h2⟩ := hrel.get? hg
    refine PG.of hk (v' := v') (fun w => ?_) h2
    rw [Array.getElem?_toList] at h1
    simp [execOp, ho, Instr.index, asIntOf, e1, run_underlying hu, hax, h0, run_size hi, hz, part, run_isAgg_true hd hagg, h1]
  · exact hs.elim

theorem s_ixaN (r : TRel γ n t a) {m l : Nat} {ty e : TypeId} {d : TypeDesc} {ti : TypeInfo} {x i : Operand} (ho : o.op = .index ty x i) (hu : P.underlying ty = some (.array l e)) (hi : P.info? e = some ti)
    (hd : P.underlying e = some d) (hagg : aggD d = true) (hx : okO m x = true) (hix : okO m i = true) (hs : (AK.ixaN l ti.size x i).step t h K) : PG P γ o a h K := by
  simp only [AK.step] at hs
  split at hs
  · rename_i cs k j hv hj
    obtain ⟨h0, hle, hk⟩ := hs
    have e1 := int_of (r.ev hix hj)
    obtain ⟨ds, hax, hrel⟩ := agg_of (r.ev hx hv)
    refine PG.of hk (v' := .agg ((ds.toList.drop (j.toNat * ti.size)).take ti.size).toArray) (fun w => ?_) (VRel.agg_of ((hrel.drop _).take _))
    simp [execOp, ho, Instr.index, asIntOf, e1, run_underlying hu, hax, h0, run_size hi, part_agg hd hagg hi]
  · exact hs.elim

theorem s_len (r : TRel γ n t a) {m : Nat} {ty e : TypeId} {x : Operand} (ho : o.op = .call { callee := .builtin .len, args := #[x], argTypes := #[ty] }) (hu : P.underlying ty = some (.slice e))
    (hx : okO m x = true) (hs : (AK.len x).step t h K) : PG P γ o a h K := by
  simp only [AK.step] at hs
  split at hs
  · rename_i ad ln cap hv
    have rv := r.ev hx hv
    generalize hax : a.eval x = v' at rv
    have hlen : ∃ ad' cap', v' = .slice ad' ln cap' := by cases rv <;> exact ⟨_, _, rfl⟩
    obtain ⟨ad', cap', rfl⟩ := hlen
    refine PG.of hs (fun w => ?_) (.int _ _)
    simp [execOp, ho, resolve, invoke, builtin, Builtin.len_, hax, run_underlying hu, goInt]
  · exact hs.elim
theorem s_lens (r : TRel γ n t a) {m : Nat} {ty : TypeId} {x : Operand} (ho : o.op = .call { callee := .builtin .len, args := #[x], argTypes := #[ty] }) (hu : P.underlying ty = some .string)
    (hx : okO m x = true) (hs : (AK.lens x).step t h K) : PG P γ o a h K := by
  simp only [AK.step] at hs
  split at hs
  · rename_i str hv
    have e2 := string_of (r.ev hx hv)
    refine PG.of hs (fun w => ?_) (.int _ _)
    simp [execOp, ho, resolve, invoke, builtin, Builtin.len_, e2, run_underlying hu, goInt]
  · exact hs.elim

theorem evs_len : ∀ {l : List Operand} {vs : List Value}, evs t l = some vs → l.length = vs.length
  | [], vs, h => by cases h; rfl
  | x :: l, vs, h => by
    simp only [evs] at h
    split at h
    · rename_i h1 h2
      cases h
      simp [evs_len h2]
    · cases h
theorem two_of {xs : List Operand} {u v : Value} (h : evs t xs = some [u, v]) : ∃ x y, xs = [x, y] := by
  have := evs_len h
  match xs, this with
  | [x, y], _ => exact ⟨x, y, rfl⟩

theorem s_mn (r : TRel γ n t a) {m : Nat} {xs : Array Operand} {ts : Array TypeId} (ho : o.op = .call { callee := .builtin .min, args := xs, argTypes := ts }) (hx : xs.toList.all (okO m) = true)
    (hs : (AK.mn xs.toList).step t h K) : PG P γ o a h K := by
  simp only [AK.step] at hs
  split at hs
  · rename_i vs hv
    split at hs
    · rename_i v hm
      have hrel := evs_rel r hx hv
      unfold intMin at hm
      split at hm
      · rename_i k i k' j
        split at hm
        · rename_i hk
          subst hk
          cases hm
          obtain ⟨x, y, hxy⟩ := two_of hv
          rw [hxy] at hrel
          have e1 := int_of (hrel.2 0 (by simp) (by simp))
          have e2 := int_of (hrel.2 1 (by simp) (by simp))
          refine PG.of hs (fun w => ?_) (.int _ _)
          have hxs : xs = #[x, y] := by apply Array.ext'; simpa using hxy
          simp [execOp, ho, resolve, invoke, builtin, Builtin.min_, hxs, e1, e2, Builtin.min2]
        · cases hm
      · cases hm
    · exact hs.elim
  · exact hs.elim

theorem s_mx (r : TRel γ n t a) {m : Nat} {xs : Array Operand} {ts : Array TypeId} (ho : o.op = .call { callee := .builtin .max, args := xs, argTypes := ts }) (hx : xs.toList.all (okO m) = true)
    (hs : (AK.mx xs.toList).step t h K) : PG P γ o a h K := by
  simp only [AK.step] at hs
  split at hs
  · rename_i vs hv
    split at hs
    · rename_i v hm
      have hrel := evs_rel r hx hv
      unfold intMax at hm
      split at hm
      · rename_i k i k' j
        split at hm
        · rename_i hk
          subst hk
          cases hm
          obtain ⟨x, y, hxy⟩ := two_of hv
          rw [hxy] at hrel
          have e1 := int_of (hrel.2 0 (by simp) (by simp))
          have e2 := int_of (hrel.2 1 (by simp) (by simp))
          refine PG.of hs (fun w => ?_) (.int _ _)
          have hxs : xs = #[x, y] := by apply Array.ext'; simpa using hxy
          simp [execOp, ho, resolve, invoke, builtin, Builtin.max_, hxs, e1, e2, Builtin.max2]
        · cases hm
      · cases hm
    · exact hs.elim
  · exact hs.elim

/-! ### equality of plain structs and arrays -/
def tiles (P : Program) : List Field → Nat → Nat → Bool
  | [], off, tot => off == tot
  | f :: fs, off, tot => f.offset == off && tiles P fs (off + P.cellsOf f.type) tot
def plainT (P : Program) : Nat → TypeId → Bool
  | 0, _ => false
  | d + 1, ty => match P.underlying ty with
    | some .bool | some (.int _) | some .string => P.cellsOf ty == 1
    | some (.struct fs) => tiles P fs.toList 0 (P.cellsOf ty) && fs.toList.all (fun f => f.name != "_" && plainT P d f.type) && !P.stoodInHeld ty
    | some (.array l e) => l * P.cellsOf e == P.cellsOf ty && plainT P d e
    | _ => false
def asV (P : Program) (ty : TypeId) (xs : List Value) : Value := match P.underlying ty with
  | some (.struct _) | some (.array _ _) => .agg xs.toArray
  | _ => xs.headD undef
/-- The kinds of a plain type's cells. -/
def shapeT (P : Program) : Nat → TypeId → List Nat
  | 0, _ => []
  | d + 1, ty => match P.underlying ty with
    | some .bool => [0]
    | some (.int _) => [1]
    | some .string => [2]
    | some (.struct fs) => fs.toList.flatMap fun f => shapeT P d f.type
    | some (.array l e) => (List.range' 0 l).flatMap fun _ => shapeT P d e
    | _ => []
theorem eqCells_len : ∀ {sh : List Nat} {xs ys : List Value} {b : Bool}, eqCells sh xs ys = some b → sh.length = xs.length ∧ xs.length = ys.length
  | [], [], [], _, _ => ⟨rfl, rfl⟩
  | [], [], _ :: _, _, h => by simp [eqCells] at h
  | [], _ :: _, _, _, h => by simp [eqCells] at h
  | _ :: _, [], _, _, h => by simp [eqCells] at h
  | _ :: _, _ :: _, [], _, h => by simp [eqCells] at h
  | s :: ss, x :: xs, y :: ys, _, h => by
    simp only [eqCells] at h
    split at h
    · rename_i h1 h2
      have := eqCells_len h2
      exact ⟨by simp [this.1], by simp [this.2]⟩
    · cases h
theorem eqCells_split : ∀ {sa sb : List Nat} {xs ys : List Value} {b : Bool}, eqCells (sa ++ sb) xs ys = some b →
    ∃ p q, eqCells sa (xs.take sa.length) (ys.take sa.length) = some p ∧ eqCells sb (xs.drop sa.length) (ys.drop sa.length) = some q ∧ b = (p && q)
  | [], sb, xs, ys, b, h => ⟨true, b, by simp [eqCells], by simpa using h, by simp⟩
  | s :: sa, sb, [], ys, b, h => by have := (eqCells_len h).1; simp at this
  | s :: sa, sb, x :: xs, [], b, h => by have := (eqCells_len h).2; simp at this
  | s :: sa, sb, x :: xs, y :: ys, b, h => by
    simp only [List.cons_append, eqCells] at h
    split at h
    · rename_i p q h1 h2
      cases h
      obtain ⟨p', q', a1, a2, a3⟩ := eqCells_split h2
      refine ⟨p && p', q', ?_, by simpa using a2, by rw [a3, Bool.and_assoc]⟩
      simp [eqCells, h1, a1]
    · cases h
theorem tiles_sum {P : Program} {d : Nat} (IH : ∀ ty, plainT P d ty = true → (shapeT P d ty).length = P.cellsOf ty) : ∀ (fs : List Field) (off tot : Nat), tiles P fs off tot = true → (fs.all fun f => f.name != "_" && plainT P d f.type) = true →
    off + (fs.flatMap fun f => shapeT P d f.type).length = tot
  | [], off, tot, h, _ => by simpa [tiles] using h
  | f :: fs, off, tot, h, hf => by
    simp only [tiles, Bool.and_eq_true, beq_iff_eq] at h
    simp only [List.all_cons, Bool.and_eq_true] at hf
    have := tiles_sum IH fs _ _ h.2 hf.2
    simp only [List.flatMap_cons, List.length_append, IH f.type hf.1.2]
    omega
theorem items_sum {P : Program} {d : Nat} {e : TypeId} {z : Nat} (h : (shapeT P d e).length = z) : ∀ (l i : Nat), ((List.range' i l).flatMap fun _ => shapeT P d e).length = l * z
  | 0, i => by simp
  | l + 1, i => by simp only [List.range'_succ, List.flatMap_cons, List.length_append, items_sum h l (i + 1), h, Nat.add_mul]; omega
theorem shape_len {P : Program} : ∀ (d : Nat) (ty : TypeId), plainT P d ty = true → (shapeT P d ty).length = P.cellsOf ty
  | 0, _, h => by cases h
  | d + 1, ty, h => by
    simp only [plainT] at h
    simp only [shapeT]
    split at h
    · exact (eq_of_beq h).symm
    · exact (eq_of_beq h).symm
    · exact (eq_of_beq h).symm
    · rename_i fs hu
      simp only [Bool.and_eq_true] at h
      have := tiles_sum (shape_len d) fs.toList 0 _ h.1.1 h.1.2
      simpa using this
    · rename_i l e hu
      simp only [Bool.and_eq_true, beq_iff_eq] at h
      rw [items_sum (shape_len d e h.2), h.1]
    · cases h

theorem run_part_plain {ty : TypeId} {d off : Nat} (hp : plainT P d ty = true) {xs : List Value} (hl : off + P.cellsOf ty ≤ xs.length) : (part ty xs.toArray off).run P w = .ok (asV P ty ((xs.drop off).take (P.cellsOf ty))) w := by
  cases d with
  | zero => cases hp
  | succ d =>
    simp only [plainT] at hp
    cases hu : P.underlying ty with
    | none => rw [hu] at hp; cases hp
    | some dd =>
      have hti : ∃ ti, P.info? ty = some ti := by
        unfold Program.underlying at hu
        split at hu
        · exact ⟨_, ‹_›⟩
        · exact ⟨_, ‹_›⟩
        · cases hu
      obtain ⟨ti, hi⟩ := hti
      have hcs : P.cellsOf ty = ti.size := by simp [Program.cellsOf, hi]
      rw [hu] at hp
      have scalar : aggD dd = false → P.cellsOf ty = 1 → (part ty xs.toArray off).run P w = .ok ((xs.drop off).headD undef) w := fun hagg h1 => by
        have hlt : off < xs.length := by omega
        simp only [part, Sem.run_bind, run_isAgg_true hu hagg, Result.andThen_ok]
        rw [List.drop_eq_getElem_cons hlt]
        simp [hlt]
      have hh : P.cellsOf ty = 1 → ((xs.drop off).take (P.cellsOf ty)).headD undef = (xs.drop off).headD undef := fun h1 => by
        rw [h1]; cases xs.drop off <;> rfl
      cases dd <;> simp only [Bool.false_eq_true] at hp
      case bool => simp only [asV, hu]; rw [hh (by simpa using hp)]; exact scalar rfl (by simpa using hp)
      case int => simp only [asV, hu]; rw [hh (by simpa using hp)]; exact scalar rfl (by simpa using hp)
      case string => simp only [asV, hu]; rw [hh (by simpa using hp)]; exact scalar rfl (by simpa using hp)
      case struct fs => rw [part_agg hu rfl hi, hcs]; simp [asV, hu]
      case array l e => rw [part_agg hu rfl hi, hcs]; simp [asV, hu]

theorem eq_fields (D : Nat) {d : Nat} (IH : ∀ (ty : TypeId) (xs ys : List Value) (b : Bool), plainT P d ty = true → eqCells (shapeT P d ty) xs ys = some b → ∀ w, (Op.equalIn D ty (asV P ty xs) (asV P ty ys)).run P w = .ok b w)
    (xs ys : List Value) (hly : ys.length = xs.length) : ∀ (fs : List Field) (off : Nat) (b : Bool), tiles P fs off xs.length = true → (fs.all fun f => f.name != "_" && plainT P d f.type) = true → eqCells (fs.flatMap fun f => shapeT P d f.type) (xs.drop off) (ys.drop off) = some b → off ≤ xs.length →
    (Op.eqFields D xs.toArray ys.toArray fs).run P w = .ok b w
  | [], off, b, ht, _, hc, _ => by
    simp only [tiles, beq_iff_eq] at ht
    subst ht
    have : ys.drop xs.length = [] := List.drop_of_length_le (by omega)
    rw [List.drop_length, this] at hc
    cases hc
    simp [Op.eqFields]
  | f :: fs, off, b, ht, hf, hc, ho => by
    simp only [tiles, Bool.and_eq_true, beq_iff_eq] at ht
    simp only [List.all_cons, Bool.and_eq_true, bne_iff_ne, ne_eq] at hf
    obtain ⟨⟨hn, hp⟩, hfs⟩ := hf
    obtain ⟨rfl, ht⟩ := ht
    rw [List.flatMap_cons] at hc
    obtain ⟨p, q, h1, h2, rfl⟩ := eqCells_split hc
    rw [shape_len d f.type hp] at h1 h2
    have hle : ∀ (fs : List Field) (o : Nat), tiles P fs o xs.length = true → o ≤ xs.length := by
      intro fs
      induction fs with
      | nil => intro o h; simp only [tiles, beq_iff_eq] at h; omega
      | cons g gs ih => intro o h; simp only [tiles, Bool.and_eq_true, beq_iff_eq] at h; have := ih _ h.2; omega
    have hb := hle fs _ ht
    have p1 := run_part_plain (P := P) (w := w) hp (xs := xs) (off := f.offset) hb
    have p2 := run_part_plain (P := P) (w := w) hp (xs := ys) (off := f.offset) (by omega)
    have p3 := IH f.type _ _ p hp h1 w
    have ih := eq_fields D IH xs ys hly fs (f.offset + P.cellsOf f.type) q ht hfs (by rw [List.drop_drop, List.drop_drop] at h2; exact h2) hb
    simp only [Op.eqFields, hn, ne_eq, not_false_eq_true, if_true, Sem.run_bind, p1, p2, p3, Result.andThen_ok]
    cases p
    · simp
    · simp [ih]

theorem eq_items (D : Nat) {e : TypeId} {d : Nat} (hp : plainT P d e = true) (IH : ∀ (xs ys : List Value) (b : Bool), eqCells (shapeT P d e) xs ys = some b → ∀ w, (Op.equalIn D e (asV P e xs) (asV P e ys)).run P w = .ok b w)
    (xs ys : List Value) (hly : ys.length = xs.length) : ∀ (l i : Nat) (b : Bool), (i + l) * P.cellsOf e = xs.length → eqCells ((List.range' i l).flatMap fun _ => shapeT P d e) (xs.drop (i * P.cellsOf e)) (ys.drop (i * P.cellsOf e)) = some b →
    (Op.eqItems D e (P.cellsOf e) xs.toArray ys.toArray (List.range' i l)).run P w = .ok b w
  | 0, i, b, hl, hc => by
    have h0 : i * P.cellsOf e = xs.length := by simpa using hl
    have : ys.drop xs.length = [] := List.drop_of_length_le (by omega)
    rw [h0, List.drop_length, this] at hc
    cases hc
    simp [Op.eqItems]
  | l + 1, i, b, hl, hc => by
    have hm : i * P.cellsOf e + P.cellsOf e + l * P.cellsOf e = xs.length := by rw [← hl, Nat.add_mul, Nat.add_mul]; omega
    rw [List.range'_succ, List.flatMap_cons] at hc
    obtain ⟨p, q, h1, h2, rfl⟩ := eqCells_split hc
    rw [shape_len d e hp] at h1 h2
    have p1 := run_part_plain (P := P) (w := w) hp (xs := xs) (off := i * P.cellsOf e) (by omega)
    have p2 := run_part_plain (P := P) (w := w) hp (xs := ys) (off := i * P.cellsOf e) (by omega)
    have p3 := IH _ _ p h1 w
    have hi : i * P.cellsOf e + P.cellsOf e = (i + 1) * P.cellsOf e := by rw [Nat.add_mul, Nat.one_mul]
    have ih := eq_items D hp IH xs ys hly l (i + 1) q (by rw [show i + 1 + l = i + (l + 1) by omega]; exact hl) (by rw [List.drop_drop, List.drop_drop, hi] at h2; exact h2)
    simp only [List.range'_succ, Op.eqItems, Sem.run_bind, p1, p2, p3, Result.andThen_ok]
    cases p
    · simp
    · simp [ih]

theorem eq_plain : ∀ (d D : Nat) (ty : TypeId) (xs ys : List Value) (b : Bool), plainT P d ty = true → eqCells (shapeT P d ty) xs ys = some b → ∀ w, (Op.equalIn (D + d) ty (asV P ty xs) (asV P ty ys)).run P w = .ok b w
  | 0, _, _, _, _, _, hp, _, _ => by cases hp
  | d + 1, D, ty, xs, ys, b, hp, hc, w => by
    have hp0 := hp
    have hlen := eqCells_len hc
    have hl : xs.length = P.cellsOf ty := by rw [← hlen.1, shape_len _ _ hp]
    simp only [plainT] at hp
    simp only [shapeT] at hc
    cases hu : P.underlying ty with
    | none => rw [hu] at hp; cases hp
    | some dd =>
      rw [hu] at hp hc
      have one : ∀ s, eqCells [s] xs ys = some b → ∃ x y, xs = [x] ∧ ys = [y] ∧ eqCell s x y = some b := fun s h => by
        have hl := eqCells_len h
        match xs, ys, hl with
        | [x], [y], _ =>
          refine ⟨x, y, rfl, rfl, ?_⟩
          simp only [eqCells] at h
          split at h
          · rename_i p q h1 h2
            cases h2; cases h
            simpa using h1
          · cases h
      cases dd <;> simp only [Bool.false_eq_true] at hp
      case bool =>
        obtain ⟨x, y, rfl, rfl, he⟩ := one 0 hc
        simp only [asV, hu, List.headD_cons]
        match x, y, he with
        | .bool p, .bool q, he => cases he; rw [show D + (d + 1) = (D + d) + 1 from rfl]; simp [Op.equalIn, run_underlying hu]
      case int k =>
        obtain ⟨x, y, rfl, rfl, he⟩ := one 1 hc
        simp only [asV, hu, List.headD_cons]
        match x, y, he with
        | .int k1 p, .int k2 q, he =>
          simp only [eqCell] at he
          split at he
          · rename_i hk
            subst hk
            cases he
            rw [show D + (d + 1) = (D + d) + 1 from rfl]
            simp [Op.equalIn, run_underlying hu]
          · cases he
      case string =>
        obtain ⟨x, y, rfl, rfl, he⟩ := one 2 hc
        simp only [asV, hu, List.headD_cons]
        match x, y, he with
        | .string p, .string q, he => cases he; rw [show D + (d + 1) = (D + d) + 1 from rfl]; simp [Op.equalIn, run_underlying hu]
      case struct fs =>
        simp only [Bool.and_eq_true, Bool.not_eq_true'] at hp
        have hfs : P.fieldsOf ty = fs := by simp [Program.fieldsOf, hu]
        simp only [asV, hu]
        rw [show D + (d + 1) = (D + d) + 1 from rfl, run_equalIn_struct w (D + d) ty _ _ (by rw [hfs]; exact hu) hp.2, hfs]
        exact eq_fields (D + d) (fun ty xs ys b h1 h3 w => eq_plain d D ty xs ys b h1 h3 w) xs ys hlen.2.symm fs.toList 0 b (by rw [hl]; exact hp.1.1) hp.1.2 (by simpa using hc) (Nat.zero_le _)
      case array l e =>
        simp only [Bool.and_eq_true, beq_iff_eq] at hp
        have hti : ∃ ti, P.info? e = some ti := by
          cases d with
          | zero => cases hp.2
          | succ d =>
            have h2 := hp.2
            simp only [plainT] at h2
            cases hue : P.underlying e with
            | none => rw [hue] at h2; cases h2
            | some _ =>
              unfold Program.underlying at hue
              split at hue
              · exact ⟨_, ‹_›⟩
              · exact ⟨_, ‹_›⟩
              · cases hue
        obtain ⟨ti, hi⟩ := hti
        simp only [asV, hu]
        rw [show D + (d + 1) = (D + d) + 1 from rfl, run_equalIn_array w (D + d) _ _ hu hi, List.range_eq_range']
        exact eq_items (D + d) hp.2 (fun xs ys b h3 w => eq_plain d D e xs ys b hp.2 h3 w) xs ys hlen.2.symm l 0 b (by rw [hl, Nat.zero_add]; exact hp.1) (by simpa using hc)

theorem eqCell_same {s : Nat} {x y x' : Value} {b : Bool} (h : eqCell s x y = some b) (r : VRel γ x x') : x' = x := by
  match s, x, y, h with
  | 1, .int _ _, .int _ _, _ => cases r; rfl
  | 0, .bool _, .bool _, _ => cases r; rfl
  | 2, .string _, .string _, _ => cases r; rfl
theorem eqCell_same' {s : Nat} {x y x' : Value} {b : Bool} (h : eqCell s y x = some b) (r : VRel γ x x') : x' = x := by
  match s, y, x, h with
  | 1, .int _ _, .int _ _, _ => cases r; rfl
  | 0, .bool _, .bool _, _ => cases r; rfl
  | 2, .string _, .string _, _ => cases r; rfl
theorem eqCells_same : ∀ {sh : List Nat} {xs ys xs' ys' : List Value} {b : Bool}, eqCells sh xs ys = some b → LRel γ xs xs' → LRel γ ys ys' → xs' = xs ∧ ys' = ys
  | sh, [], ys, xs', ys', b, h, r, r' => by
    have hl := eqCells_len h
    have : ys = [] := by cases ys with | nil => rfl | cons _ _ => simp at hl
    subst this
    exact ⟨r.none, r'.none⟩
  | sh, x :: xs, [], xs', ys', b, h, r, r' => by have := (eqCells_len h).2; simp at this
  | [], x :: xs, y :: ys, xs', ys', b, h, r, r' => by have := (eqCells_len h).1; simp at this
  | s :: sh, x :: xs, y :: ys, xs', ys', b, h, r, r' => by
    simp only [eqCells] at h
    split at h
    · rename_i p q h1 h2
      obtain ⟨x', xs'', rfl, hx, hxs⟩ := r.head
      obtain ⟨y', ys'', rfl, hy, hys⟩ := r'.head
      obtain ⟨e1, e2⟩ := eqCells_same h2 hxs hys
      rw [eqCell_same h1 hx, eqCell_same' h1 hy, e1, e2]
      exact ⟨rfl, rfl⟩
    · cases h

theorem s_eqa (r : TRel γ n t a) {m dp : Nat} {neg : Bool} {ty ty' : TypeId} {d : TypeDesc} {x y : Operand} (ho : o.op = .binOp (if neg then .neq else .eql) ty x y ty') (hu : P.underlying ty = some d) (hagg : aggD d = true)
    (hp : plainT P dp ty = true) (hdp : dp ≤ 10000) (hgt : P.eqGuardType P.depth ty = false) (hx : okO m x = true) (hy : okO m y = true)
    (hs : (AK.eqa neg (shapeT P dp ty) x y).step t h K) : PG P γ o a h K := by
  simp only [AK.step] at hs
  split at hs
  · rename_i u v hu' hv
    obtain ⟨b, he, hk⟩ := hs
    obtain ⟨u', hxa, r1⟩ := agg_of (r.ev hx hu')
    obtain ⟨v', hya, r2⟩ := agg_of (r.ev hy hv)
    obtain ⟨e1, e2⟩ := eqCells_same he r1 r2
    have e1' : u' = u := by apply Array.ext'; exact e1
    have e2' : v' = v := by apply Array.ext'; exact e2
    subst e1'; subst e2'
    have hq := eq_plain (P := P) dp (10000 - dp) ty u'.toList v'.toList b hp he
    have h1 : asV P ty u'.toList = .agg u' := by unfold asV; rw [hu]; cases d <;> simp_all [aggD]
    have h2 : asV P ty v'.toList = .agg v' := by unfold asV; rw [hu]; cases d <;> simp_all [aggD]
    rw [h1, h2, show 10000 - dp + dp = 10000 by omega] at hq
    cases neg
    · refine PG.of hk (fun w => ?_) (.bool _)
      simp [execOp, ho, hxa, hya, run_eqGuard_agg (P := P) w .eql ty x y u' v' hgt, run_eql_struct, hq]
    · refine PG.of hk (fun w => ?_) (.bool _)
      simp [execOp, ho, hxa, hya, run_eqGuard_agg (P := P) w .neq ty x y u' v' hgt, run_neq_struct, hq]
  · exact hs.elim
end
end Go.Proofs.Ytbfbgkhlngkifaa.Am
