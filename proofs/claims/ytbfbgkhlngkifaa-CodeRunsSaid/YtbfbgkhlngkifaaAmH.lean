/- The abstract steps: nil, slices, strings and bytes. Plain theorems.
   Conditions: none. -/
import Derived.Test.YtbfbgkhlngkifaaAmG
import Derived.Laws.BytesString
namespace Go.Proofs.Ytbfbgkhlngkifaa.Am
open Go Go.RowKit
set_option linter.unusedVariables false
set_option linter.unusedSimpArgs false

section
variable {P : Program} {n base : Nat} {w0 : World} {γ : Gam} {h : Hp} {w : World} {t : Tm} {a : Act} {K : Option Value → Hp → Prop} {o : Oper}

def nilD : Nat → TypeDesc → Bool
  | 0, .pointer _ => true
  | 1, .slice _ => true
  | 2, .func .. => true
  | _, _ => false
/-- Is a value of the world nil. -/
def isNilC : Nat → Value → Option Bool
  | 0, .pointer a => some a.isNone
  | 1, .slice a _ _ => some a.isNone
  | 2, .nilFunc => some true
  | 2, .func .. => some false
  | _, _ => none
theorem isNil_rel {tag : Nat} {v v' : Value} (r : VRel γ v v') {p : Bool} (h : isNilV tag v = some p) : isNilC tag v' = some p := by cases r <;> rcases tag with _ | _ | _ | tag <;> first | exact h | cases h
theorem run_equalIn_nil {tag : Nat} {ty : TypeId} {d : TypeDesc} (hu : P.underlying ty = some d) (hd : nilD tag d = true) {x y : Value} {p q : Bool} (hx : isNilC tag x = some p) (hy : isNilC tag y = some q) (hpq : p = true ∨ q = true) (D : Nat) :
    (Op.equalIn (D + 1) ty x y).run P w = .ok (p && q) w := by
  match tag, d, hd with
  | 0, .pointer e, _ =>
    match x, y, hx, hy with
    | .pointer none, .pointer b, hx, hy => cases hx; cases hy; simp [Op.equalIn, run_underlying hu]
    | .pointer (some a), .pointer none, hx, hy => cases hx; cases hy; simp [Op.equalIn, run_underlying hu]
    | .pointer (some a), .pointer (some b), hx, hy => cases hx; cases hy; simp at hpq
  | 1, .slice e, _ =>
    match x, y, hx, hy with
    | .slice none _ _, .slice b _ _, hx, hy => cases hx; cases hy; simp [Op.equalIn, run_underlying hu]
    | .slice (some a) _ _, .slice none _ _, hx, hy => cases hx; cases hy; simp [Op.equalIn, run_underlying hu]
    | .slice (some a) _ _, .slice (some b) _ _, hx, hy => cases hx; cases hy; simp at hpq
  | 2, .func u v c, _ =>
    match x, y, hx, hy with
    | .nilFunc, .nilFunc, hx, hy => cases hx; cases hy; simp [Op.equalIn, run_underlying hu]
    | .nilFunc, .func .., hx, hy => cases hx; cases hy; simp [Op.equalIn, run_underlying hu]
    | .func .., .nilFunc, hx, hy => cases hx; cases hy; simp [Op.equalIn, run_underlying hu]
    | .func .., .func .., hx, hy => cases hx; cases hy; simp at hpq
theorem eqGuard_nil {tag : Nat} {op : BinOp} {ty : TypeId} {x y : Operand} {u v : Value} {p : Bool} (hu : isNilC tag u = some p) : eqGuard op ty x y u v = Pure.pure () := by
  match tag, u, hu with
  | 0, .pointer _, _ => exact eqGuard_at_pointer op ty x y v _
  | 1, .slice _ _ _, _ => exact eqGuard_at_slice op ty x y v _ _ _
  | 2, .nilFunc, _ => cases op <;> rfl
  | 2, .func .., _ => cases op <;> rfl
theorem binOp_nil {tag : Nat} {ty : TypeId} {u v : Value} {p q : Bool} (hu : isNilC tag u = some p) (hv : isNilC tag v = some q) : binOp .eql ty u v = (do Pure.pure (.bool (← Op.equal ty u v))) ∧ binOp .neq ty u v = (do Pure.pure (.bool (!(← Op.equal ty u v)))) := by
  match tag, u, v, hu, hv with
  | 0, .pointer _, .pointer _, _, _ => exact ⟨rfl, rfl⟩
  | 1, .slice _ _ _, .slice _ _ _, _, _ => exact ⟨rfl, rfl⟩
  | 2, .nilFunc, .nilFunc, _, _ => exact ⟨rfl, rfl⟩
  | 2, .nilFunc, .func .., _, _ => exact ⟨rfl, rfl⟩
  | 2, .func .., .nilFunc, _, _ => exact ⟨rfl, rfl⟩
  | 2, .func .., .func .., _, _ => exact ⟨rfl, rfl⟩

theorem s_nileq (r : TRel γ n t a) {m tag : Nat} {neg : Bool} {ty ty' : TypeId} {d : TypeDesc} {x y : Operand} (ho : o.op = .binOp (if neg then .neq else .eql) ty x y ty') (hu : P.underlying ty = some d) (hd : nilD tag d = true)
    (hx : okO m x = true) (hy : okO m y = true) (hs : (AK.nileq neg tag x y).step t h K) : PG P γ o a h K := by
  simp only [AK.step] at hs
  split at hs
  · rename_i u v hu' hv
    have go : ∀ p q, isNilV tag u = some p → isNilV tag v = some q → (p = true ∨ q = true) → K (some (.bool (if neg then !(p && q) else (p && q)))) h → PG P γ o a h K := by
      intro p q hp hq hpq hk
      have r1 := isNil_rel (tag := tag) (r.ev hx hu') hp
      have r2 := isNil_rel (tag := tag) (r.ev hy hv) hq
      have he : ∀ w, (Op.equal ty (a.eval x) (a.eval y)).run P w = .ok (p && q) w := fun w => run_equalIn_nil hu hd r1 r2 hpq 9999
      obtain ⟨b1, b2⟩ := binOp_nil (ty := ty) r1 r2
      cases neg
      · exact PG.of hk (fun w => by simp [execOp, ho, eqGuard_nil r1, b1, he]) (.bool _)
      · exact PG.of hk (fun w => by simp [execOp, ho, eqGuard_nil r1, b2, he]) (.bool _)
    split at hs
    · rename_i q hp hq
      exact go true q hp hq (.inl rfl) (by simpa using hs)
    · rename_i p _ hp hq
      exact go p true hp hq (.inr rfl) (by simpa using hs)
    · exact hs.elim
  · exact hs.elim

/-! ### slices -/
theorem opt_ints {x : Option Operand} {m : Nat} (r : TRel γ n t a) (hx : (x.all (okO m)) = true) {v : Option Value} (hv : optO t x = some v) : (v = none ∧ x.map a.eval = none) ∨ ∃ u u', v = some u ∧ x.map a.eval = some u' ∧ VRel γ u u' := by
  cases x with
  | none => cases hv; exact .inl ⟨rfl, rfl⟩
  | some y =>
    simp only [optO] at hv
    split at hv
    · rename_i u hu
      cases hv
      exact .inr ⟨u, _, rfl, rfl, r.ev (by simpa using hx) hu⟩
    · cases hv

theorem opt_none {v' : Option Value} (h : ((none : Option Value) = none ∧ v' = none) ∨ ∃ x y, (none : Option Value) = some x ∧ v' = some y ∧ VRel γ x y) : v' = none := by
  rcases h with ⟨_, h⟩ | ⟨x, y, hx, _⟩
  · exact h
  · cases hx
theorem opt_int {k : IntKind} {i : Int} {v' : Option Value} (h : (some (Value.int k i) = none ∧ v' = none) ∨ ∃ x y, some (Value.int k i) = some x ∧ v' = some y ∧ VRel γ x y) : v' = some (.int k i) := by
  rcases h with ⟨h, _⟩ | ⟨x, y, hx, rfl, r⟩
  · cases h
  · cases hx; cases r; rfl
theorem bnds_run {isSlice : Bool} {ln cap cap' : Nat} (hcap : cap ≤ cap') {l u m : Option Value} {l' u' m' : Option Value} (hl : (l = none ∧ l' = none) ∨ ∃ x y, l = some x ∧ l' = some y ∧ VRel γ x y)
    (hu : (u = none ∧ u' = none) ∨ ∃ x y, u = some x ∧ u' = some y ∧ VRel γ x y) (hm : (m = none ∧ m' = none) ∨ ∃ x y, m = some x ∧ m' = some y ∧ VRel γ x y) {Q : Nat → Nat → Nat → Prop} (hb : bnds ln cap l u m Q) :
    ∃ i j k, Q i j k ∧ (∀ w, (Instr.sliceBounds isSlice ln cap' l' u' m').run P w = .ok (i, j, if m.isNone then cap' else k) w) ∧ (i ≤ j) ∧ (j ≤ k ∨ (u = none ∧ m = none ∧ j = ln)) ∧ (m.isNone = true → k = cap) ∧ k ≤ cap := by
  unfold bnds at hb
  split at hb
  · obtain rfl := opt_none hl
    obtain rfl := opt_none hu
    obtain rfl := opt_none hm
    exact ⟨0, ln, cap, hb, fun w => by simp [Instr.sliceBounds], Nat.zero_le _, .inr ⟨rfl, rfl, rfl⟩, fun _ => rfl, Nat.le_refl _⟩
  · rename_i k l0
    obtain rfl := opt_int hl
    obtain rfl := opt_none hu
    obtain rfl := opt_none hm
    obtain ⟨hb1, hq⟩ := hb
    exact ⟨l0.toNat, ln, cap, hq, fun w => by simp [Instr.sliceBounds, Instr.sliceBound, asIntOf, hb1], by omega, .inr ⟨rfl, rfl, rfl⟩, fun _ => rfl, Nat.le_refl _⟩
  · rename_i k u0
    obtain rfl := opt_none hl
    obtain rfl := opt_int hu
    obtain rfl := opt_none hm
    obtain ⟨hb1, hq⟩ := hb
    have h2 : u0 ≤ (cap' : Int) := by omega
    exact ⟨0, u0.toNat, cap, hq, fun w => by simp [Instr.sliceBounds, Instr.sliceBound, asIntOf, hb1, h2], by omega, .inl (by omega), fun _ => rfl, Nat.le_refl _⟩
  · rename_i k l0 k2 u0
    obtain rfl := opt_int hl
    obtain rfl := opt_int hu
    obtain rfl := opt_none hm
    obtain ⟨⟨hb1, hb2, hb3⟩, hq⟩ := hb
    have h2 : u0 ≤ (cap' : Int) := by omega
    have h3 : 0 ≤ u0 := by omega
    exact ⟨l0.toNat, u0.toNat, cap, hq, fun w => by simp [Instr.sliceBounds, Instr.sliceBound, asIntOf, hb1, hb2, h2, h3, Int.toNat_of_nonneg h3], by omega, .inl (by omega), fun _ => rfl, Nat.le_refl _⟩
  · rename_i k u0 k2 m0
    obtain rfl := opt_none hl
    obtain rfl := opt_int hu
    obtain rfl := opt_int hm
    obtain ⟨⟨hb1, hb2, hb3⟩, hq⟩ := hb
    have h2 : m0 ≤ (cap' : Int) := by omega
    have h3 : 0 ≤ m0 := by omega
    exact ⟨0, u0.toNat, m0.toNat, hq, fun w => by simp [Instr.sliceBounds, Instr.sliceBound, asIntOf, hb1, hb2, h2, h3, Int.toNat_of_nonneg h3], by omega, .inl (by omega), (fun e => by cases e), by omega⟩
  · rename_i k l0 k2 u0 k3 m0
    obtain rfl := opt_int hl
    obtain rfl := opt_int hu
    obtain rfl := opt_int hm
    obtain ⟨⟨hb0, hb1, hb2, hb3⟩, hq⟩ := hb
    have h2 : m0 ≤ (cap' : Int) := by omega
    have h3 : 0 ≤ m0 := by omega
    have h4 : 0 ≤ u0 := by omega
    exact ⟨l0.toNat, u0.toNat, m0.toNat, hq, fun w => by simp [Instr.sliceBounds, Instr.sliceBound, asIntOf, hb0, hb1, hb2, h2, h3, h4, Int.toNat_of_nonneg h3, Int.toNat_of_nonneg h4], by omega, .inl (by omega), (fun e => by cases e), by omega⟩
  · exact hb.elim
end
end Go.Proofs.Ytbfbgkhlngkifaa.Am
