/- An abstract heap for walks: its values, objects, and how a world of the model stands for it. Plain theorems over the kit's library; no program in sight.
   Conditions: none. -/
import Derived.Below
import Derived.Laws.Cells
import Derived.Laws.CopyRow
import Derived.Calls
import Derived.Orders
namespace Go.Proofs.Ytbfbgkhlngkifaa.Am
open Go Go.RowKit
set_option linter.unusedVariables false
set_option linter.unusedSimpArgs false

/-- Where an abstract block lies: the world's block, the shift of its cells, the hidden elements behind its end. -/
abbrev Gam := Nat → Option (Nat × Nat × Nat)

/-- A number for two. -/
def code2 (x y : Nat) : Nat := 2 ^ x * (2 * y + 1)
theorem code2_inj : ∀ {x y x' y' : Nat}, code2 x y = code2 x' y' → x = x' ∧ y = y'
  | 0, y, 0, y', h => by simp [code2] at h; exact ⟨rfl, by omega⟩
  | 0, y, x' + 1, y', h => by
    exfalso
    simp only [code2, Nat.pow_succ, Nat.pow_zero, Nat.one_mul] at h
    have : 2 ^ x' * 2 * (2 * y' + 1) = 2 * (2 ^ x' * (2 * y' + 1)) := by rw [Nat.mul_comm (2 ^ x') 2, Nat.mul_assoc]
    omega
  | x + 1, y, 0, y', h => by
    exfalso
    simp only [code2, Nat.pow_succ, Nat.pow_zero, Nat.one_mul] at h
    have : 2 ^ x * 2 * (2 * y + 1) = 2 * (2 ^ x * (2 * y + 1)) := by rw [Nat.mul_comm (2 ^ x) 2, Nat.mul_assoc]
    omega
  | x + 1, y, x' + 1, y', h => by
    have h2 : code2 x y = code2 x' y' := by
      simp only [code2, Nat.pow_succ] at h ⊢
      have e1 : 2 ^ x * 2 * (2 * y + 1) = 2 * (2 ^ x * (2 * y + 1)) := by rw [Nat.mul_comm (2 ^ x) 2, Nat.mul_assoc]
      have e2 : 2 ^ x' * 2 * (2 * y' + 1) = 2 * (2 ^ x' * (2 * y' + 1)) := by rw [Nat.mul_comm (2 ^ x') 2, Nat.mul_assoc]
      omega
    obtain ⟨a, b⟩ := code2_inj h2
    exact ⟨by rw [a], b⟩
def codeA (a : Addr) : Nat := code2 a.block (code2 a.off (match a.spot with | none => 0 | some k => k + 1))
theorem codeA_inj {a b : Addr} (h : codeA a = codeA b) : a = b := by
  obtain ⟨h1, h2⟩ := code2_inj h
  obtain ⟨h3, h4⟩ := code2_inj h2
  obtain ⟨a1, a2, a3⟩ := a
  obtain ⟨b1, b2, b3⟩ := b
  have h1 : a1 = b1 := h1
  have h3 : a2 = b2 := h3
  subst h1 h3
  cases a3 <;> cases b3 <;> simp at h4 <;> simp [h4]
/-- A value of the world stands for an abstract one. An abstract slice whose address bears a spot (some k) may have hidden capacity. -/
inductive VRel (γ : Gam) : Value → Value → Prop
  | bool (b : Bool) : VRel γ (.bool b) (.bool b)
  | int (k : IntKind) (n : Int) : VRel γ (.int k n) (.int k n)
  | string (s : ByteArray) : VRel γ (.string s) (.string s)
  | ptr0 : VRel γ (.pointer none) (.pointer none)
  | ptr {b off c σ E : Nat} (h : γ b = some (c, σ, E)) : VRel γ (.pointer (some ⟨b, off, none⟩)) (.pointer (some ⟨c, off + σ, none⟩))
  | slice0 : VRel γ (.slice none 0 0) (.slice none 0 0)
  | slicez (a : Addr) : VRel γ (.slice none 0 (codeA a + 1)) (.slice (some a) 0 0)
  | slice {b off len cap c σ E : Nat} (h : γ b = some (c, σ, E)) : VRel γ (.slice (some ⟨b, off, none⟩) len cap) (.slice (some ⟨c, off + σ, none⟩) len cap)
  | sliceh {b off k len cap c σ E : Nat} (h : γ b = some (c, σ, E)) :
      VRel γ (.slice (some ⟨b, off, some k⟩) len cap) (.slice (some ⟨c, off + σ + (if E = 0 then 0 else k), none⟩) len (cap + E))
  | func {f : FuncId} {xs ys us vs : Array Value} (hs : xs.size = ys.size) (h : ∀ (i : Nat) (hi : i < xs.size) (hj : i < ys.size), VRel γ xs[i] ys[i])
      (ht : us.size = vs.size) (h' : ∀ (i : Nat) (hi : i < us.size) (hj : i < vs.size), VRel γ us[i] vs[i]) : VRel γ (.func (.func f) xs us) (.func (.func f) ys vs)
  | nilFunc : VRel γ .nilFunc .nilFunc
  | iface {t : TypeId} {v v' : Value} (h : VRel γ v v') : VRel γ (.iface t v) (.iface t v')
  | nilIface : VRel γ .nilIface .nilIface
  | agg {xs ys : Array Value} (hs : xs.size = ys.size) (h : ∀ (i : Nat) (hi : i < xs.size) (hj : i < ys.size), VRel γ xs[i] ys[i]) : VRel γ (.agg xs) (.agg ys)
  | tuple {xs ys : Array Value} (hs : xs.size = ys.size) (h : ∀ (i : Nat) (hi : i < xs.size) (hj : i < ys.size), VRel γ xs[i] ys[i]) : VRel γ (.tuple xs) (.tuple ys)
  | map0 : VRel γ (.map none) (.map none)
  | map {b c : Nat} (h : γ b = some (c, 0, 0)) : VRel γ (.map (some b)) (.map (some c))

/-- What is known of blocks stays known. -/
def Sub (γ γ' : Gam) : Prop := ∀ b x, γ b = some x → γ' b = some x
theorem Sub.refl (γ : Gam) : Sub γ γ := fun _ _ h => h
theorem Sub.trans {a b c : Gam} (h : Sub a b) (k : Sub b c) : Sub a c := fun x y e => k x y (h x y e)

theorem VRel.mono {γ γ' : Gam} (hs : Sub γ γ') {v v' : Value} (h : VRel γ v v') : VRel γ' v v' := by
  induction h with
  | bool b => exact .bool b
  | int k n => exact .int k n
  | string s => exact .string s
  | ptr0 => exact .ptr0
  | ptr h => exact .ptr (hs _ _ h)
  | slice0 => exact .slice0
  | slicez a => exact .slicez a
  | slice h => exact .slice (hs _ _ h)
  | sliceh h => exact .sliceh (hs _ _ h)
  | func a b c d ih ih' => exact .func a ih c ih'
  | nilFunc => exact .nilFunc
  | iface h ih => exact .iface ih
  | nilIface => exact .nilIface
  | agg a b ih => exact .agg a ih
  | tuple a b ih => exact .tuple a ih
  | map0 => exact .map0
  | map h => exact .map (hs _ _ h)

theorem arr_eq {xs ys : Array Value} (hs : xs.size = ys.size) (h : ∀ (i : Nat) (hi : i < xs.size) (hj : i < ys.size), xs[i] = ys[i]) : xs = ys :=
  Array.ext hs (fun i hi hj => h i hi hj)

/-- A value stands for one value alone. -/
theorem VRel.fn {γ : Gam} {v a b : Value} (h : VRel γ v a) (k : VRel γ v b) : a = b := by
  induction h generalizing b with
  | bool b => cases k; rfl
  | int k n => cases k; rfl
  | string s => cases k; rfl
  | ptr0 => cases k; rfl
  | ptr h => cases k with | ptr h' => rw [h] at h'; cases h'; rfl
  | slice0 => cases k; rfl
  | slicez a => 
    generalize hc : codeA a = n at k
    cases k
    rename_i c
    rw [codeA_inj hc]
  | slice h => cases k with | slice h' => rw [h] at h'; cases h'; rfl
  | sliceh h => cases k with | sliceh h' => rw [h] at h'; cases h'; rfl
  | func a _ c _ ih ih' =>
    cases k with
    | func a' b' c' d' =>
      have e1 := arr_eq (a.symm.trans a') (fun i hi hj => ih i (a ▸ hi) hi (b' i (a ▸ hi) hj))
      have e2 := arr_eq (c.symm.trans c') (fun i hi hj => ih' i (c ▸ hi) hi (d' i (c ▸ hi) hj))
      rw [e1, e2]
  | nilFunc => cases k; rfl
  | iface h ih => cases k with | iface h' => rw [ih h']
  | nilIface => cases k; rfl
  | agg a _ ih =>
    cases k with
    | agg a' b' =>
      rw [arr_eq (a.symm.trans a') (fun i hi hj => ih i (a ▸ hi) hi (b' i (a ▸ hi) hj))]
  | tuple a _ ih =>
    cases k with
    | tuple a' b' =>
      rw [arr_eq (a.symm.trans a') (fun i hi hj => ih i (a ▸ hi) hi (b' i (a ▸ hi) hj))]
  | map0 => cases k; rfl
  | map h => cases k with | map h' => rw [h] at h'; cases h'; rfl

/-- Lists of values, one by one. -/
def LRel (γ : Gam) (xs ys : List Value) : Prop := xs.length = ys.length ∧ ∀ (i : Nat) (hi : i < xs.length) (hj : i < ys.length), VRel γ xs[i] ys[i]
theorem LRel.nil {γ : Gam} : LRel γ [] [] := ⟨rfl, fun i hi => by simp at hi⟩
theorem LRel.cons {γ : Gam} {x y : Value} {xs ys : List Value} (h : VRel γ x y) (k : LRel γ xs ys) : LRel γ (x :: xs) (y :: ys) := by
  refine ⟨by simp [k.1], fun i hi hj => ?_⟩
  cases i with
  | zero => exact h
  | succ n => exact k.2 n (by simpa using hi) (by simpa using hj)
theorem LRel.head {γ : Gam} {x : Value} {xs ys : List Value} (h : LRel γ (x :: xs) ys) : ∃ y ys', ys = y :: ys' ∧ VRel γ x y ∧ LRel γ xs ys' := by
  cases ys with
  | nil => simp [LRel] at h
  | cons y ys' =>
    refine ⟨y, ys', rfl, h.2 0 (by simp) (by simp), by simpa using h.1, fun i hi hj => ?_⟩
    exact h.2 (i + 1) (by simpa using hi) (by simpa using hj)
theorem LRel.none {γ : Gam} {ys : List Value} (h : LRel γ [] ys) : ys = [] := by cases ys with | nil => rfl | cons _ _ => simp [LRel] at h
theorem LRel.mono {γ γ' : Gam} (hs : Sub γ γ') {xs ys : List Value} (h : LRel γ xs ys) : LRel γ' xs ys := ⟨h.1, fun i hi hj => (h.2 i hi hj).mono hs⟩
theorem LRel.append {γ : Gam} {a b c d : List Value} (h : LRel γ a b) (k : LRel γ c d) : LRel γ (a ++ c) (b ++ d) := by
  refine ⟨by simp [h.1, k.1], fun i hi hj => ?_⟩
  by_cases hl : i < a.length
  · rw [List.getElem_append_left hl, List.getElem_append_left (h.1 ▸ hl)]
    exact h.2 i hl _
  · have hl' : ¬ i < b.length := h.1 ▸ hl
    rw [List.getElem_append_right (Nat.le_of_not_lt hl), List.getElem_append_right (Nat.le_of_not_lt hl')]
    have e : i - b.length = i - a.length := by rw [h.1]
    simp only [e]
    exact k.2 (i - a.length) (by simp at hi; omega) _
theorem LRel.get? {γ : Gam} {xs ys : List Value} (h : LRel γ xs ys) {i : Nat} {v : Value} (hv : xs[i]? = some v) : ∃ v', ys[i]? = some v' ∧ VRel γ v v' := by
  obtain ⟨hi, rfl⟩ := List.getElem?_eq_some_iff.1 hv
  exact ⟨_, List.getElem?_eq_getElem (h.1 ▸ hi), h.2 i hi _⟩
theorem LRel.of_get? {γ : Gam} {xs ys : List Value} (hl : xs.length = ys.length) (h : ∀ (i : Nat) (v : Value), xs[i]? = some v → ∃ v', ys[i]? = some v' ∧ VRel γ v v') : LRel γ xs ys := by
  refine ⟨hl, fun i hi hj => ?_⟩
  obtain ⟨v', hv, r⟩ := h i _ (List.getElem?_eq_getElem hi)
  rw [List.getElem?_eq_getElem hj] at hv
  cases hv
  exact r
theorem LRel.take {γ : Gam} {xs ys : List Value} (h : LRel γ xs ys) (n : Nat) : LRel γ (xs.take n) (ys.take n) := by
  refine LRel.of_get? (by simp [h.1]) fun i v hv => ?_
  rw [List.getElem?_take] at hv ⊢
  split at hv
  · rename_i hc
    rw [if_pos hc]
    exact h.get? hv
  · cases hv
theorem LRel.drop {γ : Gam} {xs ys : List Value} (h : LRel γ xs ys) (n : Nat) : LRel γ (xs.drop n) (ys.drop n) := by
  refine LRel.of_get? (by simp [h.1]) fun i v hv => ?_
  rw [List.getElem?_drop] at hv ⊢
  exact h.get? hv
theorem LRel.set {γ : Gam} {xs ys : List Value} (h : LRel γ xs ys) (n : Nat) {v v' : Value} (hv : VRel γ v v') : LRel γ (xs.set n v) (ys.set n v') := by
  refine LRel.of_get? (by simp [h.1]) fun i u hu => ?_
  rw [List.getElem?_set] at hu ⊢
  split at hu
  · rename_i hc
    rw [if_pos hc]
    subst hc
    split at hu
    · rename_i hl
      rw [if_pos (h.1 ▸ hl)]
      cases hu
      exact ⟨_, rfl, hv⟩
    · cases hu
  · rename_i hc
    rw [if_neg hc]
    exact h.get? hu
theorem LRel.arr {γ : Gam} {xs ys : Array Value} (hs : xs.size = ys.size) (h : ∀ (i : Nat) (hi : i < xs.size) (hj : i < ys.size), VRel γ xs[i] ys[i]) : LRel γ xs.toList ys.toList :=
  ⟨by simpa using hs, fun i hi hj => by simpa using h i (by simpa using hi) (by simpa using hj)⟩
theorem VRel.agg_of {γ : Gam} {xs ys : List Value} (h : LRel γ xs ys) : VRel γ (.agg xs.toArray) (.agg ys.toArray) :=
  .agg (by simpa using h.1) (fun i hi hj => by simpa using h.2 i (by simpa using hi) (by simpa using hj))
theorem VRel.tuple_of {γ : Gam} {xs ys : List Value} (h : LRel γ xs ys) : VRel γ (.tuple xs.toArray) (.tuple ys.toArray) :=
  .tuple (by simpa using h.1) (fun i hi hj => by simpa using h.2 i (by simpa using hi) (by simpa using hj))

/-! ### objects and heaps -/
/-- ro: read only (memory of the caller's); own: written at will; hid z: own, and the world may have hidden elements (of z cells each) behind its end. -/
inductive Md where
  | ro | own | hid (z : Nat)
  deriving DecidableEq
structure Ob where
  cs : List Value
  md : Md
structure Hp where
  size : Nat
  get : Nat → Option Ob
  mp : Nat → Option (List (Value × Value))
def Hp.new (h : Hp) (o : Ob) : Hp := ⟨h.size + 1, fun b => if b = h.size then some o else h.get b, h.mp⟩
def Hp.put (h : Hp) (b : Nat) (o : Ob) : Hp := ⟨h.size, fun x => if x = b then some o else h.get x, h.mp⟩
def Hp.del (h : Hp) (b : Nat) : Hp := ⟨h.size, fun x => if x = b then none else h.get x, h.mp⟩
/-- A new map; a map written. -/
def Hp.newM (h : Hp) (es : List (Value × Value)) : Hp := ⟨h.size + 1, h.get, fun b => if b = h.size then some es else h.mp b⟩
def Hp.putM (h : Hp) (b : Nat) (es : List (Value × Value)) : Hp := ⟨h.size, h.get, fun x => if x = b then some es else h.mp x⟩
/-- A value that one cell holds. -/
def cell1 : Value → Bool
  | .agg _ | .tuple _ => false
  | _ => true
theorem VRel.cell1 {γ : Gam} {v v' : Value} (h : VRel γ v v') : Am.cell1 v' = Am.cell1 v := by cases h <;> rfl
theorem cell1_one {v : Value} (h : cell1 v = true) : v.oneCell' = true := by cases v <;> first | rfl | simp [cell1] at h
def Md.hidden : Md → Nat → Nat
  | .hid z, E => E * z
  | _, _ => 0
/-- How an object lies in the world. -/
structure Lies (base : Nat) (γ : Gam) (w : World) (o : Ob) (c σ E : Nat) (C : Array Value) (e : TypeId) (lo hi : Nat) : Prop where
  heap : w.heap[c]? = some (.cells C e (lo, hi))
  own : o.md ≠ .ro → base ≤ c ∧ ∀ i, i < C.size → ¬ (lo ≤ i ∧ i < hi)
  ro : o.md = .ro → c < base
  size : σ + o.cs.length + o.md.hidden E ≤ C.size
  cells : ∀ (i : Nat) (v : Value), o.cs[i]? = some v → cell1 v = true ∧ ∃ v', C[σ + i]? = some v' ∧ VRel γ v v'
/-- Entries of a map stand for those of the world's. -/
structure ERel (γ : Gam) (es : List (Value × Value)) (es' : List MapEntry) : Prop where
  len : es.length = es'.length
  at_ : ∀ (i : Nat) (p : Value × Value) (e : MapEntry), es[i]? = some p → es'[i]? = some e → VRel γ p.1 e.key ∧ VRel γ p.2 e.val
theorem ERel.mono {γ γ' : Gam} (hs : Sub γ γ') {es : List (Value × Value)} {es' : List MapEntry} (r : ERel γ es es') : ERel γ' es es' :=
  ⟨r.len, fun i p e h1 h2 => ⟨(r.at_ i p e h1 h2).1.mono hs, (r.at_ i p e h1 h2).2.mono hs⟩⟩
/-- The maps of a heap in the world: all are one's own. -/
structure MSim (base : Nat) (γ : Gam) (size : Nat) (mp : Nat → Option (List (Value × Value))) (w : World) : Prop where
  top : ∀ b, size ≤ b → mp b = none
  obj : ∀ b es, mp b = some es → ∃ c es' clock, γ b = some (c, 0, 0) ∧ base ≤ c ∧ w.heap[c]? = some (Obj.map es' clock) ∧ ERel γ es es'.toList
  inj : ∀ b b' es es' c σ E σ' E', mp b = some es → mp b' = some es' → γ b = some (c, σ, E) → γ b' = some (c, σ', E') → b = b'
theorem MSim.keep {base : Nat} {γ γ' : Gam} {n n' : Nat} {mp : Nat → Option (List (Value × Value))} {w w' : World} (m : MSim base γ n mp w) (hs : Sub γ γ') (hn : n ≤ n')
    (hk : ∀ (c : Nat) (es : Array MapEntry) (cl : Nat), w.heap[c]? = some (Obj.map es cl) → w'.heap[c]? = w.heap[c]?) : MSim base γ' n' mp w' := by
  refine ⟨fun b hb => m.top b (Nat.le_trans hn hb), fun b es h => ?_, fun b b' es es' c σ E σ' E' h h' g g' => ?_⟩
  · obtain ⟨c, es', cl, h1, h2, h3, h4⟩ := m.obj b es h
    exact ⟨c, es', cl, hs _ _ h1, h2, (hk c es' cl h3).trans h3, h4.mono hs⟩
  · obtain ⟨c1, _, _, h1, _⟩ := m.obj b es h
    obtain ⟨c2, _, _, h2, _⟩ := m.obj b' es' h'
    have e1 := hs _ _ h1
    have e2 := hs _ _ h2
    rw [g] at e1
    rw [g'] at e2
    have : c = c1 := by simpa using congrArg (fun x => x.map (·.1)) e1
    subst this
    have : c = c2 := by simpa using congrArg (fun x => x.map (·.1)) e2
    subst this
    exact m.inj b b' es es' c 0 0 0 0 h h' h1 h2
theorem MSim.none {base : Nat} {γ : Gam} {n : Nat} {w : World} : MSim base γ n (fun _ => Option.none) w := ⟨fun _ _ => rfl, (fun _ _ h => by cases h), (fun _ _ _ _ _ _ _ _ _ h => by cases h)⟩
structure Sim (base : Nat) (w0 : World) (γ : Gam) (h : Hp) (w : World) : Prop where
  bel : Below base w0 w
  wsz : base ≤ w.heap.size
  top : ∀ b, h.size ≤ b → γ b = none ∧ h.get b = none
  low : ∀ b c σ E, γ b = some (c, σ, E) → c < w.heap.size
  obj : ∀ b o, h.get b = some o → ∃ c σ E C e lo hi, γ b = some (c, σ, E) ∧ Lies base γ w o c σ E C e lo hi
  inj : ∀ b b' o o' c σ E σ' E', h.get b = some o → h.get b' = some o' → o.md ≠ .ro → o'.md ≠ .ro → γ b = some (c, σ, E) → γ b' = some (c, σ', E') → b = b'
  maps : MSim base γ h.size h.mp w

theorem Sim.lt {base : Nat} {w0 : World} {γ : Gam} {h : Hp} {w : World} (s : Sim base w0 γ h w) {b : Nat} {x} (hb : γ b = some x) : b < h.size := by
  rcases Nat.lt_or_ge b h.size with h' | h'
  · exact h'
  · rw [(s.top b h').1] at hb; cases hb
theorem Sim.at {base : Nat} {w0 : World} {γ : Gam} {h : Hp} {w : World} (s : Sim base w0 γ h w) {b c σ E : Nat} {o : Ob} (hg : γ b = some (c, σ, E)) (ho : h.get b = some o) :
    ∃ C e lo hi, Lies base γ w o c σ E C e lo hi := by
  obtain ⟨c', σ', E', C, e, lo, hi, hg', l⟩ := s.obj b o ho
  rw [hg] at hg'
  cases hg'
  exact ⟨C, e, lo, hi, l⟩

/-- A draw turns nothing. -/
theorem Sim.drew {base : Nat} {w0 : World} {γ : Gam} {h : Hp} {w : World} (s : Sim base w0 γ h w) : Sim base w0 γ h { w with drawn := w.drawn + 1 } :=
  ⟨⟨s.bel.os, s.bel.tape, s.bel.output, s.bel.size, s.bel.block⟩, s.wsz, s.top, s.low,
    fun b o ho => let ⟨c, σ, E, C, e, lo, hi, hg, l⟩ := s.obj b o ho; ⟨c, σ, E, C, e, lo, hi, hg, l.heap, l.own, l.ro, l.size, l.cells⟩, s.inj, s.maps.keep (Sub.refl _) (Nat.le_refl _) fun _ _ _ _ => rfl⟩

/-- The world after one of its blocks was written, or one was made. -/
theorem cell_at {w : World} {c : Nat} {C : Array Value} {e : TypeId} {fz : Nat × Nat} (hh : w.heap[c]? = some (.cells C e fz)) (i : Nat) : w.cell? ⟨c, i, none⟩ = C[i]? := by simp [World.cell?, hh]

section load
variable {base : Nat} {w0 : World} {γ : Gam} {h : Hp} {w : World} {P : Program}
theorem Lies.cell {o : Ob} {c σ E : Nat} {C : Array Value} {e : TypeId} {lo hi : Nat} (l : Lies base γ w o c σ E C e lo hi) {i : Nat} {v : Value} (hv : o.cs[i]? = some v) :
    ∃ v', w.cell? ⟨c, i + σ, none⟩ = some v' ∧ VRel γ v v' := by
  obtain ⟨_, v', h1, h2⟩ := l.cells i v hv
  exact ⟨v', by rw [cell_at l.heap, Nat.add_comm]; exact h1, h2⟩
/-- A run of cells reads as it should. -/
theorem Lies.run {o : Ob} {c σ E : Nat} {C : Array Value} {e : TypeId} {lo hi : Nat} (l : Lies base γ w o c σ E C e lo hi) {i n : Nat} (hn : i + n ≤ o.cs.length) :
    ∃ ys : List Value, LRel γ ((o.cs.drop i).take n) ys ∧ (∀ v ∈ ys, cell1 v = true) ∧ (∀ j v, ys[j]? = some v → w.cell? ((⟨c, i + σ, none⟩ : Addr).add j) = some v) ∧ (loadCells ⟨c, i + σ, none⟩ n).run P w = .ok ys.toArray w := by
  have hC : σ + o.cs.length ≤ C.size := Nat.le_trans (Nat.le_add_right _ _) l.size
  let ys := (C.toList.drop (i + σ)).take n
  have hlen : ys.length = n := by simp [ys]; omega
  have hrel : LRel γ ((o.cs.drop i).take n) ys := by
    refine LRel.of_get? (by rw [hlen]; simp; omega) fun j v hv => ?_
    rw [List.getElem?_take] at hv
    split at hv
    · rename_i hj
      rw [List.getElem?_drop] at hv
      obtain ⟨_, v', h1, h2⟩ := l.cells (i + j) v hv
      refine ⟨v', ?_, h2⟩
      simp only [ys]
      rw [List.getElem?_take, if_pos hj, List.getElem?_drop, Array.getElem?_toList]
      rw [show i + σ + j = σ + (i + j) by omega]
      exact h1
    · cases hv
  have hcell : ∀ j v, ys[j]? = some v → w.cell? ((⟨c, i + σ, none⟩ : Addr).add j) = some v := by
    intro j v hv
    rw [Addr.add_lit, cell_at l.heap]
    simp only [ys] at hv
    rw [List.getElem?_take] at hv
    split at hv
    · rw [List.getElem?_drop, Array.getElem?_toList] at hv; exact hv
    · cases hv
  refine ⟨ys, hrel, fun v hv => ?_, hcell, ?_⟩
  · obtain ⟨j, hj, rfl⟩ := List.getElem_of_mem hv
    have hj' : j < ((o.cs.drop i).take n).length := by rw [hrel.1]; exact hj
    have hr := hrel.2 j hj' hj
    rw [hr.cell1]
    have : o.cs[i + j]? = some (((o.cs.drop i).take n)[j]) := by
      rw [List.getElem_take, List.getElem_drop]
      rw [List.getElem?_eq_getElem]
    exact (l.cells _ _ this).1
  · have := run_loadCells_list (P := P) w ⟨c, i + σ, none⟩ ys hcell
    rwa [hlen] at this
end load
end Go.Proofs.Ytbfbgkhlngkifaa.Am
