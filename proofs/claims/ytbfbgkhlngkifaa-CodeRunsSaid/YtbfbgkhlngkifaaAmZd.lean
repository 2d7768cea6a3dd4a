/- Arguments that hold parts of their own kind (trees of finite depth). Plain theorems.
   Conditions: none. -/
import Derived.Test.YtbfbgkhlngkifaaAmZb
namespace Go.Proofs.Ytbfbgkhlngkifaa.Am
open Go Go.RowKit Go.ChangeShapes Go.WideShapes Go.ChangeAt Go.Deep
set_option linter.unusedVariables false
set_option linter.unusedSimpArgs false

/-- A tree: what a part is, and its parts. -/
inductive Tr (α : Type) : Type where
  | mk (a : α) (ks : List (Tr α)) : Tr α
namespace Tr
def hd {α : Type} : Tr α → α | .mk a _ => a
def ks {α : Type} : Tr α → List (Tr α) | .mk _ ks => ks
/-- All parts are as said, and lists fit in memory. -/
inductive Ok {α : Type} (p : α → Prop) : Tr α → Prop
  | mk {a : α} {ks : List (Tr α)} (h : p a) (hl : ks.length ≤ 140737488351232) (hk : ∀ k ∈ ks, Ok p k) : Ok p (.mk a ks)
theorem Ok.head {α : Type} {p : α → Prop} {t : Tr α} (h : Ok p t) : p t.hd := by cases h; assumption
theorem Ok.len {α : Type} {p : α → Prop} {t : Tr α} (h : Ok p t) : t.ks.length ≤ 140737488351232 := by cases h; assumption
theorem Ok.kid {α : Type} {p : α → Prop} {t : Tr α} (h : Ok p t) : ∀ k ∈ t.ks, Ok p k := by cases h; assumption
end Tr

namespace AKd
/-- Trees of depth below n. -/
def treeN {α : Type} (d : AKd α) : Nat → AKd (Tr α)
  | 0 => { sz := d.sz + 1, pos := Nat.succ_pos _, K := fun _ _ _ => False, A := fun _ _ _ => False, len := fun h => h.elim, alen := fun h => h.elim, acell := fun h => h.elim, mono := fun _ h => h, build := fun _ h => h.elim }
  | n + 1 =>
    let q := AKd.pair d (AKd.slice (treeN d n))
    { sz := d.sz + 1, pos := Nat.succ_pos _, K := fun w x cs => q.K w (x.hd, x.ks) cs, A := fun h x cs => q.A h (x.hd, x.ks) cs, len := fun h => q.len h, alen := fun h => q.alen h, acell := fun h => q.acell h, mono := fun x h => q.mono x h, build := fun s h => q.build s h }
theorem treeN_sz {α : Type} (d : AKd α) : ∀ n, (treeN d n).sz = d.sz + 1
  | 0 => rfl
  | n + 1 => rfl
theorem row_mono2 {α : Type} {p q : α → List Value → Prop} (h : ∀ x cs, p x cs → q x cs) : ∀ {xs : List α} {r : List Value}, Row p xs r → Row q xs r
  | [], _, a => a
  | x :: xs, _, ⟨c, r, e, h1, h2⟩ => ⟨c, r, e, h x c h1, row_mono2 h h2⟩
theorem treeN_K {α : Type} (d : AKd α) {w : World} : ∀ {n : Nat} {x : Tr α} {cs : List Value}, (treeN d n).K w x cs → (treeN d (n + 1)).K w x cs
  | 0, x, cs, h => h.elim
  | n + 1, x, cs, h => by
    obtain ⟨c1, c2, rfl, h1, A, c, h2, h3, h4, h5, h6⟩ := h
    refine ⟨c1, c2, rfl, h1, A, c, h2, h3, h4, h5, fun a ha j x hx => ?_⟩
    obtain ⟨cs', h7, h8⟩ := h6 a ha j x hx
    refine ⟨cs', treeN_K d h7, fun i u hu => ?_⟩
    have := h8 i u hu
    rw [treeN_sz] at this ⊢
    exact this
theorem treeN_Kle {α : Type} (d : AKd α) {w : World} {n m : Nat} {x : Tr α} {cs : List Value} (hm : n ≤ m) (h : (treeN d n).K w x cs) : (treeN d m).K w x cs := by
  induction hm with
  | refl => exact h
  | step _ ih => exact treeN_K d ih
theorem treeN_A {α : Type} (d : AKd α) {h : Hp} : ∀ {n : Nat} {x : Tr α} {cs : List Value}, (treeN d n).A h x cs → (treeN d (n + 1)).A h x cs
  | 0, x, cs, a => a.elim
  | n + 1, x, cs, a => by
    obtain ⟨c1, c2, rfl, h1, oa, c, r, h2, h3, h4, h5⟩ := a
    refine ⟨c1, c2, rfl, h1, oa, c, r, h2, ?_, row_mono2 (fun x cs a => treeN_A d a) h4, h5⟩
    rw [treeN_sz] at h3 ⊢
    exact h3
theorem treeN_Ale {α : Type} (d : AKd α) {h : Hp} {n m : Nat} {x : Tr α} {cs : List Value} (hm : n ≤ m) (a : (treeN d n).A h x cs) : (treeN d m).A h x cs := by
  induction hm with
  | refl => exact a
  | step _ ih => exact treeN_A d ih
/-- Trees. -/
def tree {α : Type} (d : AKd α) : AKd (Tr α) where
  sz := d.sz + 1
  pos := Nat.succ_pos _
  K := fun w x cs => ∃ n, (treeN d n).K w x cs
  A := fun h x cs => ∃ n, (treeN d n).A h x cs
  len := fun ⟨n, h⟩ => by rw [(treeN d n).len h, treeN_sz]
  alen := fun ⟨n, h⟩ => by rw [(treeN d n).alen h, treeN_sz]
  acell := fun ⟨n, h⟩ => (treeN d n).acell h
  mono := fun x ⟨n, h⟩ => ⟨n, (treeN d n).mono x h⟩
  build := fun s ⟨n, h⟩ => by
    obtain ⟨γ', h', cs', s', u, x, a, r⟩ := (treeN d n).build s h
    exact ⟨γ', h', cs', s', u, x, ⟨n, a⟩, r⟩
theorem tree_out {α : Type} {d : AKd α} {h : Hp} {x : Tr α} {cs : List Value} (a : (tree d).A h x cs) : (AKd.pair d (AKd.slice (tree d))).A h (x.hd, x.ks) cs := by
  obtain ⟨n, a⟩ := a
  cases n with
  | zero => exact a.elim
  | succ n =>
    obtain ⟨c1, c2, rfl, h1, oa, c, r, h2, h3, h4, h5⟩ := a
    refine ⟨c1, c2, rfl, h1, oa, c, r, h2, ?_, row_mono2 (fun x cs a => ⟨n, a⟩) h4, h5⟩
    rw [treeN_sz] at h3
    exact h3
theorem tree_in {α : Type} {d : AKd α} {h : Hp} {x : Tr α} {cs : List Value} (a : (AKd.pair d (AKd.slice (tree d))).A h (x.hd, x.ks) cs) : (tree d).A h x cs := by
  obtain ⟨c1, c2, rfl, h1, oa, c, r, h2, h3, h4, h5⟩ := a
  have all : ∀ {xs : List (Tr α)} {r : List Value}, Row ((tree d).A h) xs r → ∃ n, Row ((treeN d n).A h) xs r := by
    intro xs
    induction xs with
    | nil => intro r hr; exact ⟨0, hr⟩
    | cons y ys ih =>
      intro r hr
      obtain ⟨c, r, e, ⟨n, h1⟩, h2⟩ := hr
      obtain ⟨m, h2⟩ := ih h2
      exact ⟨max n m, c, r, e, treeN_Ale d (Nat.le_max_left _ _) h1, row_mono2 (fun x cs a => treeN_Ale d (Nat.le_max_right _ _) a) h2⟩
  obtain ⟨n, h4⟩ := all h4
  refine ⟨n + 1, c1, c2, rfl, h1, oa, c, r, h2, ?_, h4, h5⟩
  rw [treeN_sz]
  exact h3
theorem tree_Kin {α : Type} {d : AKd α} {w : World} {x : Tr α} {cs : List Value} (a : (AKd.pair d (AKd.slice (tree d))).K w (x.hd, x.ks) cs) : (tree d).K w x cs := by
  obtain ⟨c1, c2, rfl, h1, A, c, h2, h3, h4, h5, h6⟩ := a
  have all : ∀ k, ∃ n, ∀ a, A = some a → ∀ j x', j < k → x.ks[j]? = some x' → ∃ cs', (treeN d n).K w x' cs' ∧ ∀ i u, cs'[i]? = some u → w.cell? (a.add (j * (d.sz + 1) + i)) = some u := by
    intro k
    induction k with
    | zero => exact ⟨0, fun a ha j x' hj => by omega⟩
    | succ k ih =>
      obtain ⟨n, hn⟩ := ih
      rcases A with _ | a
      · exact ⟨n, fun a ha => by cases ha⟩
      cases hx : x.ks[k]? with
      | none =>
        refine ⟨n, fun a' ha j x' hj hx' => ?_⟩
        rcases Nat.lt_or_ge j k with h | h
        · exact hn a' ha j x' h hx'
        · have : j = k := by omega
          subst this
          rw [hx] at hx'
          cases hx'
      | some y =>
        obtain ⟨cs', ⟨m, h7⟩, h8⟩ := h6 a rfl k y hx
        refine ⟨max n m, fun a' ha j x' hj hx' => ?_⟩
        rcases Nat.lt_or_ge j k with h | h
        · obtain ⟨cs', h9, h10⟩ := hn a' ha j x' h hx'
          exact ⟨cs', treeN_Kle d (Nat.le_max_left _ _) h9, h10⟩
        · have : j = k := by omega
          subst this
          rw [hx] at hx'
          cases hx'
          cases ha
          exact ⟨cs', treeN_Kle d (Nat.le_max_right _ _) h7, h8⟩
  obtain ⟨n, hn⟩ := all x.ks.length
  refine ⟨n + 1, c1, c2, rfl, h1, A, c, h2, h3, h4, h5, fun a ha j x' hx' => ?_⟩
  obtain ⟨cs', h9, h10⟩ := hn a ha j x' (List.getElem?_eq_some_iff.1 hx').1 hx'
  refine ⟨cs', h9, fun i u hu => ?_⟩
  rw [treeN_sz]
  exact h10 i u hu
end AKd

/-- What reads at type t as a datum below the size N is of kind d. -/
def OpensD {α : Type} (N : Nat) (P : Program) (t : TypeId) (d : AKd α) (wf : α → Prop) : Prop :=
  ∀ (H : Type) (enc : TypeId × Value → H) (w : World) (held : Bool) (fuel : Nat) (cs : List Value) (x : DataW H × List MemPlace),
    SizeOf.sizeOf x.1 < N → DataW.trod enc P w 0 (fun _ => true) held fuel t cs = some x → (x.1.weights P t).all (· ≤ reachBytes) = true → ∃ a, d.K w a cs ∧ wf a
theorem Opens.D {α : Type} {P : Program} {t : TypeId} {d : AKd α} {wf : α → Prop} (h : Opens P t d wf) (N : Nat) : OpensD N P t d wf :=
  fun H enc w held fuel cs x _ h1 h2 => h H enc w held fuel cs x h1 h2
theorem Opens.ofD {α : Type} {P : Program} {t : TypeId} {d : AKd α} {wf : α → Prop} (h : ∀ N, OpensD N P t d wf) : Opens P t d wf :=
  fun H enc w held fuel cs x h1 h2 => h (SizeOf.sizeOf x.1 + 1) H enc w held fuel cs x (Nat.lt_succ_self _) h1 h2
theorem opens_sliceD {N : Nat} {α : Type} {P : Program} {t e : TypeId} {d : AKd α} {wf : α → Prop} (hu : P.underlying t = some (.slice e)) (hc : P.cellsOf e = d.sz) (h : OpensD N P e d wf) :
    OpensD (N + 1) P t (AKd.slice d) (fun xs => xs.length * P.bytesOf e ≤ 140737488351232 ∧ ∀ x ∈ xs, wf x) := by
  intro H enc w held fuel cs x hN hx hw
  rcases open_slice hu hx with ⟨rfl, rfl⟩ | ⟨a, len, cap, m, n, D, Pl, rfl, _, hl, hm, hmd, rfl, hel⟩
  · exact ⟨[], ⟨none, 0, rfl, Nat.le_refl 0, fun _ => rfl, fun h => absurd h (Nat.lt_irrefl 0), fun a ha => by cases ha⟩, by simp, by simp⟩
  · have hmc : m = cap := by rw [hmd]; rfl
    subst hmc
    have hwt : ∀ n ∈ DataW.weightsAll P e ((List.range len).map D), n ≤ reachBytes := by
      intro n hn
      have := List.all_eq_true.1 hw n (by simp only [DataW.weights, hu, List.mem_cons, List.mem_append]; exact .inr (.inl hn))
      exact of_decide_eq_true this
    have hb : len * P.bytesOf e ≤ 140737488351232 := by
      have z := List.all_eq_true.1 hw (((List.range len).map D).length * P.bytesOf e + ((List.range (m - len)).map fun j => D (len + j)).length * P.bytesOf e) (by simp only [DataW.weights, hu, List.mem_cons, Nat.add_mul]; exact Or.inl trivial)
      have z2 := of_decide_eq_true z
      simp only [List.length_map, List.length_range] at z2
      exact Nat.le_trans (Nat.le_add_right _ _) z2
    have each : ∀ i, i < len → ∃ (b : α) (cs' : List Value), w.cells? 0 (a.add (i * P.cellsOf e)) (P.cellsOf e) = some cs' ∧ d.K w b cs' ∧ wf b := by
      intro i hi
      obtain ⟨cs', hcs, htr⟩ := hel i (by omega)
      obtain ⟨b, hk, hwf⟩ := h H enc w held n cs' (D i, Pl i) (by
        have hN := hN
        simp only [DataW.slice.sizeOf_spec] at hN
        have := List.sizeOf_lt_of_mem (List.mem_map.2 ⟨i, List.mem_range.2 hi, rfl⟩ : D i ∈ (List.range len).map D)
        show SizeOf.sizeOf (D i) < N
        omega) htr (by
        rw [List.all_eq_true]
        intro n hn
        exact decide_eq_true (hwt n (weightsAll_mem _ (D i) (List.mem_map.2 ⟨i, List.mem_range.2 hi, rfl⟩) n hn)))
      exact ⟨b, cs', hcs, hk, hwf⟩
    have all : ∀ k, k ≤ len → ∃ xs : List α, xs.length = k ∧ ∀ i b, xs[i]? = some b → ∃ cs', w.cells? 0 (a.add (i * P.cellsOf e)) (P.cellsOf e) = some cs' ∧ d.K w b cs' ∧ wf b := by
      intro k
      induction k with
      | zero => intro _; exact ⟨[], rfl, fun i b h => by simp at h⟩
      | succ k ih =>
        intro hk
        obtain ⟨xs, hlen, hxs⟩ := ih (by omega)
        obtain ⟨b, cs', h1, h2, h3⟩ := each k (by omega)
        refine ⟨xs ++ [b], by simp [hlen], fun i c hc' => ?_⟩
        rcases Nat.lt_trichotomy i k with hi | hi | hi
        · rw [List.getElem?_append_left (by omega)] at hc'
          exact hxs i c hc'
        · subst hi
          rw [List.getElem?_append_right (by omega), hlen] at hc'
          simp at hc'
          subst hc'
          exact ⟨cs', h1, h2, h3⟩
        · rw [List.getElem?_eq_none (by simp; omega)] at hc'
          simp at hc'
    obtain ⟨xs, hlen, hxs⟩ := all len (Nat.le_refl _)
    refine ⟨xs, ⟨some a, m, by rw [hlen], by omega, fun e => (by cases e), fun hm0 => ?_, fun a' ha' j p hp => ?_⟩, by rw [hlen]; exact hb, fun b hb' => ?_⟩
    · obtain ⟨cs', h1, _⟩ := hel 0 hm0
      obtain ⟨_, h3, h4⟩ := World.cells?_some h1
      have h5 := h4 0 (by rw [hc]; exact d.pos)
      rw [Nat.zero_mul] at h5
      have h6 : (a.add 0).add 0 = a := by simp [Addr.add]
      rw [h6] at h5
      have h7 : cs'[0]? ≠ none := by
        rw [List.getElem?_eq_getElem (by rw [h3, hc]; exact d.pos)]
        simp
      unfold World.cell? at h5
      split at h5
      · rename_i C e' fz hh
        split at h5
        · exact absurd h5.symm h7
        · rename_i hsp
          refine ⟨a, rfl, ?_, C, e', fz, hh, ?_⟩
          · cases hs : a.spot with
            | none => rfl
            | some k => rw [hs] at hsp; simp at hsp
          · rcases Nat.lt_or_ge a.off C.size with h | h
            · omega
            · rw [Array.getElem?_eq_none h] at h5
              exact absurd h5.symm h7
      · exact absurd h5.symm h7
    · cases ha'
      obtain ⟨cs', h1, h2, _⟩ := hxs j p hp
      obtain ⟨_, h3, h4⟩ := World.cells?_some h1
      refine ⟨cs', h2, fun i u hu' => ?_⟩
      have hi : i < P.cellsOf e := by
        rcases Nat.lt_or_ge i (P.cellsOf e) with hi | hi
        · exact hi
        · rw [List.getElem?_eq_none (by omega)] at hu'; simp at hu'
      have h5 := h4 i hi
      rw [hu'] at h5
      rw [← hc]
      rw [add_add'] at h5
      exact h5
    · obtain ⟨i, hi⟩ := List.getElem?_of_mem hb'
      obtain ⟨_, _, _, h3⟩ := hxs i b hi
      exact h3
/-- A struct's fields in line, from cell 'off' on, data below a size. -/
def FieldsOpenD {α : Type} (N : Nat) (P : Program) (fs : List Field) (off : Nat) (d : AKd α) (wf : α → Prop) : Prop :=
  ∀ (H : Type) (enc : TypeId × Value → H) (w : World) (held : Bool) (n : Nat) (cs : List Value) (xs : List (DataW H × List MemPlace)),
    (∀ x ∈ xs, SizeOf.sizeOf x.1 < N) → xs.length = fs.length → (∀ (i : Nat) (f : Field), fs[i]? = some f → DataW.trod enc P w 0 (fun _ => true) held n f.type ((cs.drop f.offset).take (P.cellsOf f.type)) = xs[i]?) →
    (DataW.weightsEach P (fs.map (·.type)) (xs.map (·.1))).all (· ≤ reachBytes) = true → cs.length = off + d.sz → ∃ a, d.K w a (cs.drop off) ∧ wf a
theorem fields_oneD {N : Nat} {α : Type} {P : Program} {f : Field} {off : Nat} {d : AKd α} {wf : α → Prop} (h : OpensD N P f.type d wf) (ho : f.offset = off) (hc : P.cellsOf f.type = d.sz) : FieldsOpenD N P [f] off d wf := by
  intro H enc w held n cs xs hN hl hf hw hcs
  match xs, hl with
  | [x], _ =>
    have h0 := hf 0 f rfl
    simp only [List.map_cons, List.map_nil, DataW.weightsEach, List.append_nil] at hw
    obtain ⟨a, hk, hwf⟩ := h H enc w held n _ x (hN x (by simp)) h0 hw
    rw [ho, hc, List.take_of_length_le (by rw [List.length_drop]; omega)] at hk
    exact ⟨a, hk, hwf⟩
theorem fields_consD {N : Nat} {α β : Type} {P : Program} {f : Field} {fs : List Field} {off : Nat} {d : AKd α} {d1 : AKd β} {wf : α → Prop} {wf1 : β → Prop} (h : OpensD N P f.type d wf) (ho : f.offset = off) (hc : P.cellsOf f.type = d.sz)
    (h1 : FieldsOpenD N P fs (off + d.sz) d1 wf1) : FieldsOpenD N P (f :: fs) off (AKd.pair d d1) (fun p => wf p.1 ∧ wf1 p.2) := by
  intro H enc w held n cs xs hN hl hf hw hcs
  match xs, hl with
  | x :: xs, hl =>
    have h0 := hf 0 f rfl
    simp only [List.map_cons, DataW.weightsEach, List.all_append, Bool.and_eq_true] at hw
    obtain ⟨a, hk, hwf⟩ := h H enc w held n _ x (hN x (by simp)) h0 hw.1
    obtain ⟨b, hk1, hwf1⟩ := h1 H enc w held n cs xs (fun y hy => hN y (List.mem_cons_of_mem _ hy)) (by simpa using hl) (fun i g hg => by simpa using hf (i + 1) g (by simpa using hg)) hw.2 (by rw [hcs]; show off + (d.sz + d1.sz) = _; omega)
    refine ⟨(a, b), ⟨_, _, ?_, hk, hk1⟩, hwf, hwf1⟩
    rw [ho, hc, ← List.drop_drop]
    exact (List.take_append_drop _ _).symm
theorem opens_structD {N : Nat} {α : Type} {P : Program} {t : TypeId} {fs : Array Field} {d : AKd α} {wf : α → Prop} (hu : P.underlying t = some (.struct fs)) (hc : P.cellsOf t = d.sz) (h : FieldsOpenD N P fs.toList 0 d wf) : OpensD (N + 1) P t d wf := by
  intro H enc w held fuel cs x hN hx hw
  obtain ⟨xs, n, _, rfl, hl, hlen, hf⟩ := DataW.trod_struct hu hx
  simp only [DataW.weights, hu] at hw
  obtain ⟨a, hk, hwf⟩ := h H enc w held n cs xs (fun y hy => by
    have hN := hN
    simp only [DataW.agg.sizeOf_spec] at hN
    have := List.sizeOf_lt_of_mem (List.mem_map.2 ⟨y, hy, rfl⟩ : y.1 ∈ xs.map (·.1))
    omega) (by simpa using hlen) (fun i f hfi => hf i f (by simpa using hfi)) hw (by rw [hl, hc]; omega)
  exact ⟨a, by simpa using hk, hwf⟩

/-- A row of kinds, joined to the right, parted ahead of its last. -/
def Asc {α β γ : Type} (q : AKd α) (b : AKd β) (c : AKd γ) (f : α → β × γ) : Prop := ∀ w y cs, q.K w y cs → (AKd.pair b c).K w (f y) cs
theorem asc_base {β γ : Type} {b : AKd β} {c : AKd γ} : Asc (AKd.pair b c) b c (fun p => p) := fun w y cs h => h
theorem asc_step {α β γ δ : Type} {q : AKd α} {a : AKd δ} {b : AKd β} {c : AKd γ} {f : α → β × γ} (h : Asc q b c f) : Asc (AKd.pair a q) (AKd.pair a b) c (fun p => ((p.1, (f p.2).1), (f p.2).2)) := by
  rintro w ⟨x, y⟩ cs ⟨c1, c2, rfl, h1, h2⟩
  obtain ⟨c3, c4, rfl, h3, h4⟩ := h w y c2 h2
  exact ⟨c1 ++ c3, c4, (List.append_assoc _ _ _).symm, ⟨c1, c3, rfl, h1, h3⟩, h4⟩
theorem OpensD.le {α : Type} {d : AKd α} {wf : α → Prop} {N M : Nat} {P : Program} {t : TypeId} (h : OpensD N P t d wf) (hm : M ≤ N) : OpensD M P t d wf :=
  fun H enc w held fuel cs x hN => h H enc w held fuel cs x (Nat.lt_of_lt_of_le hN hm)
theorem tree_part {α β : Type} {d : AKd α} {q : AKd β} {wfq : β → Prop} {wf : α → Prop} {f : β → α × List (Tr α)} {N : Nat} {P : Program} {t : TypeId} (ha : Asc q d (AKd.slice (AKd.tree d)) f)
    (hw : ∀ y, wfq y → wf (f y).1 ∧ ((f y).2.length ≤ 140737488351232 ∧ ∀ x ∈ (f y).2, Tr.Ok wf x)) (h : OpensD N P t q wfq) :
    OpensD N P t (AKd.tree d) (Tr.Ok wf) := by
  intro H enc w held fuel cs x hN h1 h2
  obtain ⟨y, hk, hy⟩ := h H enc w held fuel cs x hN h1 h2
  obtain ⟨hw1, hw2, hw3⟩ := hw y hy
  exact ⟨.mk (f y).1 (f y).2, AKd.tree_Kin (ha w y cs hk), .mk hw1 hw2 hw3⟩
theorem slice_part {α : Type} {d : AKd α} {wf : α → Prop} {N : Nat} {P : Program} {t e : TypeId} (hb : 0 < P.bytesOf e) (h : OpensD N P t (AKd.slice d) (fun xs => xs.length * P.bytesOf e ≤ 140737488351232 ∧ ∀ x ∈ xs, wf x)) :
    OpensD N P t (AKd.slice d) (fun xs => xs.length ≤ 140737488351232 ∧ ∀ x ∈ xs, wf x) := by
  intro H enc w held fuel cs x hN h1 h2
  obtain ⟨a, hk, hw1, hw2⟩ := h H enc w held fuel cs x hN h1 h2
  exact ⟨a, hk, Nat.le_trans (Nat.le_mul_of_pos_right _ hb) hw1, hw2⟩
theorem opensD_zero {α : Type} {P : Program} {t : TypeId} {d : AKd α} {wf : α → Prop} : OpensD 0 P t d wf := fun _ _ _ _ _ _ _ h => absurd h (Nat.not_lt_zero _)
/-- A kind whose parts are of its own kind: if it is read below a size wherever its parts are, it is read. -/
theorem opens_tree {α : Type} {P : Program} {t : TypeId} {d : AKd α} {wf : α → Prop} (h : ∀ N, OpensD N P t d wf → OpensD (N + 1) P t d wf) : Opens P t d wf := by
  refine Opens.ofD fun N => ?_
  induction N with
  | zero => exact opensD_zero
  | succ N ih => exact h N ih
end Go.Proofs.Ytbfbgkhlngkifaa.Am
