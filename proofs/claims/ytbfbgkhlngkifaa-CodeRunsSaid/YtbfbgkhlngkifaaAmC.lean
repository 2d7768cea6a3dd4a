/- The abstract steps: the operations of a region over the abstract heap, each sound in every world that stands for it. Plain theorems.
   Conditions: none. -/
import Derived.Test.YtbfbgkhlngkifaaAmB
namespace Go.Proofs.Ytbfbgkhlngkifaa.Am
open Go Go.RowKit
set_option linter.unusedVariables false
set_option linter.unusedSimpArgs false

def aggD : TypeDesc → Bool
  | .struct _ | .array _ _ => true
  | _ => false
def ifaceD : TypeDesc → Bool
  | .interface _ => true
  | _ => false
/-! ### temporaries -/
abbrev Tm := List (Nat × Option Value)
def tget : Tm → Nat → Option Value
  | [], _ => none
  | (j, v) :: r, i => match Nat.beq i j with
    | true => v
    | false => tget r i
def tput (t : Tm) (d : Option Nat) (v : Option Value) : Tm := match d with
  | some i => (i, v) :: t
  | none => t
/-- Only what is named stays known. -/
def keep (live : List Nat) (t : Tm) : Tm := live.map fun i => (i, tget t i)
def ev (t : Tm) : Operand → Option Value
  | .tmp i => tget t i
  | .const v => some v
  | .global _ => none
  | .func f => some (.func (.func f) #[] #[])
def evs (t : Tm) : List Operand → Option (List Value)
  | [] => some []
  | x :: r => match ev t x, evs t r with
    | some v, some vs => some (v :: vs)
    | _, _ => none
structure TRel (γ : Gam) (n : Nat) (t : Tm) (a : Act) : Prop where
  size : a.tmps.size = n
  defers : a.defers = []
  get : ∀ i v, tget t i = some v → ∃ v', a.tmps[i]? = some v' ∧ VRel γ v v'
/-- A constant that stands for itself. -/
def plainV : Value → Bool
  | .bool _ | .int _ _ | .string _ | .pointer none | .slice none 0 0 | .nilFunc | .nilIface | .map none => true
  | _ => false
theorem plainV_rel {γ : Gam} {v : Value} (h : plainV v = true) : VRel γ v v := by
  unfold plainV at h
  split at h <;> first | constructor | cases h
theorem plainV_cell {v : Value} (h : plainV v = true) : cell1 v = true := by
  unfold plainV at h
  split at h <;> first | rfl | cases h
def okO (n : Nat) : Operand → Bool
  | .tmp i => true
  | .const v => plainV v
  | .func _ => true
  | .global _ => false
theorem TRel.ev {γ : Gam} {n m : Nat} {t : Tm} {a : Act} (r : TRel γ n t a) {x : Operand} (hx : okO m x = true) {v : Value} (hv : Am.ev t x = some v) : VRel γ v (a.eval x) := by
  cases x with
  | tmp i =>
    obtain ⟨v', h1, h2⟩ := r.get i v hv
    have : a.eval (.tmp i) = v' := by simp [Act.eval, h1]
    rw [this]; exact h2
  | const c => cases hv; exact plainV_rel hx
  | func f => cases hv; exact .func rfl (fun i hi => by simp at hi) rfl (fun i hi => by simp at hi)
  | global g => cases hx
theorem TRel.mono {γ γ' : Gam} {n : Nat} {t : Tm} {a : Act} (r : TRel γ n t a) (h : Sub γ γ') : TRel γ' n t a :=
  ⟨r.size, r.defers, fun i v hv => let ⟨v', x, y⟩ := r.get i v hv; ⟨v', x, y.mono h⟩⟩
theorem TRel.put {γ : Gam} {n : Nat} {t : Tm} {a : Act} (r : TRel γ n t a) {d : Option Nat} (hd : ∀ i, d = some i → i < n) {v : Option Value} {v' : Value} (h : ∀ u, v = some u → VRel γ u v') :
    TRel γ n (tput t d v) (a.put d v') := by
  cases d with
  | none => exact r
  | some i =>
    refine ⟨by simp [Act.put, r.size], r.defers, fun j u hu => ?_⟩
    have hi := hd i rfl
    simp only [tput, tget] at hu
    by_cases e : j = i
    · subst e
      rw [show Nat.beq j j = true from Nat.beq_refl j] at hu
      exact ⟨v', by simp [Act.put, Array.getElem?_setIfInBounds_self_of_lt (show j < a.tmps.size by rw [r.size]; exact hi)], h u hu⟩
    · have : Nat.beq j i = false := by
        cases hb : Nat.beq j i
        · rfl
        · exact absurd (Nat.eq_of_beq_eq_true hb) e
      rw [this] at hu
      obtain ⟨w', h1, h2⟩ := r.get j u hu
      exact ⟨w', by simp [Act.put, Array.getElem?_setIfInBounds_ne (Ne.symm e), h1], h2⟩
theorem tget_keep {live : List Nat} {t : Tm} {i : Nat} {v : Value} (h : tget (keep live t) i = some v) : tget t i = some v := by
  induction live with
  | nil => cases h
  | cons j r ih =>
    simp only [keep, List.map_cons, tget] at h
    by_cases e : i = j
    · subst e
      rw [show Nat.beq i i = true from Nat.beq_refl i] at h
      exact h
    · have : Nat.beq i j = false := by
        cases hb : Nat.beq i j
        · rfl
        · exact absurd (Nat.eq_of_beq_eq_true hb) e
      rw [this] at h
      exact ih h
theorem TRel.keep {γ : Gam} {n : Nat} {t : Tm} {a : Act} (r : TRel γ n t a) (live : List Nat) : TRel γ n (Am.keep live t) a :=
  ⟨r.size, r.defers, fun i v h => r.get i v (tget_keep h)⟩
theorem evs_rel {γ : Gam} {n m : Nat} {t : Tm} {a : Act} (r : TRel γ n t a) : ∀ {xs : List Operand} {vs : List Value}, (xs.all (okO m)) = true → evs t xs = some vs → LRel γ vs (xs.map a.eval)
  | [], vs, _, h => by cases h; exact LRel.nil
  | x :: xs, vs, ho, h => by
    simp only [List.all_cons, Bool.and_eq_true] at ho
    simp only [evs] at h
    cases h1 : ev t x with
    | none => rw [h1] at h; cases h
    | some v =>
      cases h2 : evs t xs with
      | none => rw [h1, h2] at h; cases h
      | some us =>
        rw [h1, h2] at h
        cases h
        exact LRel.cons (r.ev ho.1 h1) (evs_rel r ho.2 h2)

/-! ### heaps, reading -/
def Hp.rd (h : Hp) (b i : Nat) : Option Value := match h.get b with
  | some o => o.cs[i]?
  | none => none
def Hp.rdN (h : Hp) (b i z : Nat) : Option (List Value) := match h.get b with
  | some o => if i + z ≤ o.cs.length then some ((o.cs.drop i).take z) else none
  | none => none
/-- The cells of a value. -/
def cellsOf : Value → List Value
  | .agg cs => cs.toList
  | v => [v]
/-- May a value be stored: a cell, or a struct or array of cells. -/
def okStore : Value → Bool
  | .agg cs => cs.toList.all cell1
  | .tuple _ => false
  | _ => true
theorem cellsOf_eq (v : Value) : v.cells.toList = cellsOf v := by cases v <;> rfl
theorem okStore_cells {v : Value} (h : okStore v = true) : ∀ u ∈ cellsOf v, cell1 u = true := by
  cases v with
  | agg cs => exact fun u hu => List.all_eq_true.1 h u hu
  | tuple cs => cases h
  | _ => intro u hu; simp only [cellsOf, List.mem_singleton] at hu; subst hu; rfl
theorem VRel.cells {γ : Gam} {v v' : Value} (h : VRel γ v v') : LRel γ (cellsOf v) (cellsOf v') := by
  cases h with
  | agg hs h => exact LRel.arr hs h
  | _ => refine LRel.cons ?_ LRel.nil; constructor <;> assumption

/-! ### what a step yields -/
/-- After a run: a value or nothing, and a world that stands for the heap. -/
structure Got (P : Program) (base : Nat) (w0 : World) (γ : Gam) (w : World) (run : Result Next) (K : Option Value → Hp → Prop) : Prop where
  out : ∃ (γ' : Gam) (h' : Hp) (w' : World) (rv : Option Value) (r : Next), K rv h' ∧ Sub γ γ' ∧ Fr γ w γ' w' ∧ Sim base w0 γ' h' w' ∧ run = .ok r w' ∧
    ((r = .skip ∧ rv = none) ∨ ∃ v', r = .value v' ∧ ∀ v, rv = some v → VRel γ' v v')

/-- Of an operation that only computes. -/
theorem Got.pure {P : Program} {base : Nat} {w0 : World} {γ : Gam} {h : Hp} {w : World} {run : Result Next} {K : Option Value → Hp → Prop} (s : Sim base w0 γ h w) {v v' : Value}
    (hk : K (some v) h) (hr : run = .ok (.value v') w) (hv : VRel γ v v') : Got P base w0 γ w run K :=
  ⟨γ, h, w, some v, _, hk, Sub.refl _, Fr.refl _ _, s, hr, .inr ⟨v', rfl, fun u hu => by cases hu; exact hv⟩⟩

/-- An operation that only computes: its value is one in every world. -/
structure PG (P : Program) (γ : Gam) (o : Oper) (a : Act) (h : Hp) (K : Option Value → Hp → Prop) : Prop where
  out : ∃ v', (∀ w, (execOp a.eval o).run P w = .ok (.value v') w) ∧ ∃ rv, K rv h ∧ ∀ v, rv = some v → VRel γ v v'
theorem PG.of {P : Program} {γ : Gam} {o : Oper} {a : Act} {h : Hp} {K : Option Value → Hp → Prop} {v v' : Value} (hk : K (some v) h) (hr : ∀ w, (execOp a.eval o).run P w = .ok (.value v') w) (hv : VRel γ v v') : PG P γ o a h K :=
  ⟨v', hr, some v, hk, fun u hu => by cases hu; exact hv⟩
theorem PG.got {P : Program} {base : Nat} {w0 : World} {γ : Gam} {o : Oper} {a : Act} {h : Hp} {w : World} {K : Option Value → Hp → Prop} (s : Sim base w0 γ h w) (g : PG P γ o a h K) : Got P base w0 γ w ((execOp a.eval o).run P w) K := by
  obtain ⟨v', hr, rv, hk, hv⟩ := g
  exact ⟨γ, h, w, rv, _, hk, Sub.refl _, Fr.refl _ _, s, hr w, .inr ⟨v', rfl, hv⟩⟩

/-! ### kinds of steps -/
inductive AK where
  | mv (x : Operand)
  | pick (c a b : Operand)
  | box (x : Operand)
  | alloc (zero : List Value)
  | build (zero : List Value) (parts : List (Nat × Nat × Operand))
  | bslice (zero : List Value) (len : Nat) (parts : List (Nat × Nat × Operand))
  | ld1 (a : Operand)
  | ldN (z : Nat) (a : Operand)
  | st (z : Nat) (a x : Operand)
  | nil (x : Operand)
  | bin (op : BinOp) (x y : Operand)
  | shlc (x : Operand) (n : Nat)
  | shrc (x : Operand) (n : Nat)
  | un (op : UnOp) (x : Operand)
  | cvi (k : IntKind) (x : Operand)
  | mkif (t : TypeId) (x : Operand)
  | mkf (f : FuncId) (first captured : List Operand)
  | mks (zero : List Value) (bytes : Nat) (l c : Operand)
  | slc (z : Nat) (x : Operand) (lo hi mx : Option Operand)
  | slcs (x : Operand) (lo hi : Option Operand)
  | slca (n z : Nat) (x : Operand) (lo hi mx : Option Operand)
  | fa (off : Nat) (x : Operand)
  | fld1 (off : Nat) (x : Operand)
  | fldN (off z : Nat) (x : Operand)
  | ia (z : Nat) (x i : Operand)
  | iaa (n z : Nat) (x i : Operand)
  | ixs (x i : Operand)
  | ixa1 (n : Nat) (x i : Operand)
  | ixaN (n z : Nat) (x i : Operand)
  | ext (x : Operand) (i : Nat)
  | len (x : Operand)
  | lens (x : Operand)
  | app (z bytes : Nat) (s x : Operand)
  | apps (s x : Operand)
  | cpy (z : Nat) (d s : Operand)
  | clr (z : List Value) (x : Operand)
  | mkm (r : Option Operand)
  | upd (ka : Bool) (sh : List Nat) (m k x : Operand)
  | lkp (ka : Bool) (sh : List Nat) (ag : Bool) (z : List Value) (ok : Bool) (m k : Operand)
  | tas (ty : TypeId) (ag : Bool) (z : List Value) (ok : Bool) (x : Operand)
  | inv (rows : List (Nat × Nat)) (x : Operand) (args : List Operand)
  | mn (xs : List Operand)
  | mx (xs : List Operand)
  | nileq (neg : Bool) (tag : Nat) (x y : Operand)
  | eqa (neg : Bool) (sh : List Nat) (x y : Operand)
  | beq (neg : Bool) (x y : Operand)
  | sob (x : Operand)
  | bos (x : Operand)
  | call (f : FuncId) (args : List Operand)
  | callv (x : Operand) (args : List Operand)
  | stuck

/-- What x op y is. -/
def intBin (op : BinOp) (k : IntKind) (a b : Int) (K : Value → Prop) : Prop := match op with
  | .add => K (.int k (k.wrap (a + b)))
  | .sub => K (.int k (k.wrap (a - b)))
  | .mul => K (.int k (k.wrap (a * b)))
  | .quo => b ≠ 0 ∧ K (.int k (k.wrap (a.tdiv b)))
  | .rem => b ≠ 0 ∧ K (.int k (a.tmod b))
  | .and => K (.int k (k.wrap (BitVec.ofInt k.bits a &&& BitVec.ofInt k.bits b).toNat))
  | .or => K (.int k (k.wrap (BitVec.ofInt k.bits a ||| BitVec.ofInt k.bits b).toNat))
  | .xor => K (.int k (k.wrap (BitVec.ofInt k.bits a ^^^ BitVec.ofInt k.bits b).toNat))
  | .andNot => K (.int k (k.wrap (BitVec.ofInt k.bits a &&& ~~~(BitVec.ofInt k.bits b)).toNat))
  | .eql => K (.bool (a == b))
  | .neq => K (.bool (a != b))
  | .lss => K (.bool (decide (a < b)))
  | .leq => K (.bool (decide (a ≤ b)))
  | .gtr => K (.bool (decide (a > b)))
  | .geq => K (.bool (decide (a ≥ b)))
  | .shl | .shr => False
def strBin (op : BinOp) (x y : ByteArray) (K : Value → Prop) : Prop := match op with
  | .add => x.size + y.size ≤ 140737488351232 ∧ K (.string (x ++ y))
  | .eql => K (.bool (x.toList == y.toList))
  | .neq => K (.bool !(x.toList == y.toList))
  | .lss => K (.bool (Op.bytesLess x.toList y.toList))
  | .leq => K (.bool (Op.bytesLess x.toList y.toList || x.toList == y.toList))
  | .gtr => K (.bool !(Op.bytesLess x.toList y.toList || x.toList == y.toList))
  | .geq => K (.bool !Op.bytesLess x.toList y.toList)
  | _ => False
def binK (op : BinOp) (x y : Value) (K : Value → Prop) : Prop := match x, y with
  | .int k a, .int k' b => match op with
    | .shl => 0 ≤ b ∧ K (.int k (k.wrap (a * 2 ^ min b.toNat k.bits)))
    | .shr => 0 ≤ b ∧ K (.int k (a.fdiv (2 ^ min b.toNat k.bits)))
    | _ => k = k' ∧ intBin op k a b K
  | .string a, .string b => strBin op a b K
  | _, _ => False
/-- Parts laid into cells. -/
def fillA (t : Tm) : List Value → List (Nat × Nat × Operand) → Option (List Value)
  | cs, [] => some cs
  | cs, (off, size, x) :: r => match ev t x with
    | some v => match okStore v, Nat.beq (cellsOf v).length size, Nat.ble (off + size) cs.length with
      | true, true, true => fillA t (spl cs off (cellsOf v)) r
      | _, _, _ => none
    | none => none
def flagOk : Option Nat → Bool
  | none | some 0 => true
  | _ => false
end Go.Proofs.Ytbfbgkhlngkifaa.Am
