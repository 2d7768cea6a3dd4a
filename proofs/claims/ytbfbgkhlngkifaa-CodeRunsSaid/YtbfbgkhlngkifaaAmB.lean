/- The abstract heap, more: new blocks, stores, appends. Plain theorems.
   Conditions: none. -/
import Derived.Test.YtbfbgkhlngkifaaAmA
namespace Go.Proofs.Ytbfbgkhlngkifaa.Am
open Go Go.RowKit
set_option linter.unusedVariables false
set_option linter.unusedSimpArgs false

/-- vs written into l from place i on. -/
def spl {α : Type} (l : List α) (i : Nat) (vs : List α) : List α := l.take i ++ vs ++ l.drop (i + vs.length)
theorem spl_length {α : Type} {l vs : List α} {i : Nat} (h : i + vs.length ≤ l.length) : (spl l i vs).length = l.length := by
  simp [spl]; omega
theorem spl_get {α : Type} {l vs : List α} {i : Nat} (h : i + vs.length ≤ l.length) (j : Nat) :
    (spl l i vs)[j]? = if i ≤ j ∧ j < i + vs.length then vs[j - i]? else l[j]? := by
  have hl : (l.take i).length = i := by simp; omega
  have h2 : (l.take i ++ vs).length = i + vs.length := by simp; omega
  unfold spl
  by_cases h1 : j < i
  · rw [List.append_assoc, List.getElem?_append_left (by omega), if_neg (by omega), List.getElem?_take, if_pos h1]
  · by_cases h3 : j < i + vs.length
    · rw [List.getElem?_append_left (by omega), List.getElem?_append_right (by omega), hl, if_pos ⟨by omega, h3⟩]
    · rw [List.getElem?_append_right (by omega), h2, if_neg (by omega), List.getElem?_drop]
      congr 1
      omega
theorem spl_one {α : Type} (l : List α) (i : Nat) (v : α) (h : i < l.length) : spl l i [v] = l.set i v := by
  apply List.ext_getElem?
  intro j
  rw [spl_get (by simp; omega), List.getElem?_set]
  by_cases e : i = j
  · subst e; simp [h]
  · rw [if_neg e, if_neg (by simp; omega)]
theorem spl_nil {α : Type} (l : List α) (i : Nat) : spl l i [] = l := by simp [spl]

/-- The world w' is w, but for the cells of block c. -/
structure Upd (w w' : World) (c : Nat) (C' : Array Value) (e : TypeId) (fz : Nat × Nat) : Prop where
  os : w'.os = w.os
  tape : w'.tape = w.tape
  output : w'.output = w.output
  size : w'.heap.size = w.heap.size
  other : ∀ k, k ≠ c → w'.heap[k]? = w.heap[k]?
  here : w'.heap[c]? = some (.cells C' e fz)

theorem Upd.maps {w w' : World} {c : Nat} {C C' : Array Value} {e e' : TypeId} {fz fz' : Nat × Nat} (u : Upd w w' c C' e fz) (hh : w.heap[c]? = some (.cells C e' fz')) :
    ∀ (k : Nat) (es : Array MapEntry) (cl : Nat), w.heap[k]? = some (Obj.map es cl) → w'.heap[k]? = w.heap[k]? := fun k es cl h => u.other k fun e => by rw [e, hh] at h; cases h
theorem map_lt {w : World} {k : Nat} {es : Array MapEntry} {cl : Nat} (h : w.heap[k]? = some (.map es cl)) : k < w.heap.size := (Array.getElem?_eq_some_iff.1 h).1

theorem run_store1 {P : Program} {w : World} {c i : Nat} {C : Array Value} {e : TypeId} {lo hi : Nat} (hh : w.heap[c]? = some (.cells C e (lo, hi))) (hf : ¬ (lo ≤ i ∧ i < hi)) (hi' : i < C.size)
    {v : Value} (hv : cell1 v = true) : ∃ w', (store ⟨c, i, none⟩ v).run P w = .ok () w' ∧ Upd w w' c (C.setIfInBounds i v) e (lo, hi) := by
  refine ⟨w.setCell ⟨c, i, none⟩ v, ?_, rfl, rfl, rfl, ?_, ?_, ?_⟩
  · rw [run_store P w _ v _ (cell1_one hv), cell_at hh, Array.getElem?_eq_getElem hi']
    have hfz : w.frozen? ⟨c, i, none⟩ = false := by
      simp only [World.frozen?, hh]
      simpa using hf
    simp [hfz]
  · simp [World.setCell]
  · intro k hk; exact Below.heap_setCell _ _ _ _ hk
  · simp [World.setCell, Array.getElem?_modify, hh]

theorem run_storeN {P : Program} {c : Nat} {e : TypeId} {lo hi : Nat} : ∀ (vs : List Value) (k i : Nat) (C : Array Value) (w : World), w.heap[c]? = some (.cells C e (lo, hi)) →
    (∀ j, j < C.size → ¬ (lo ≤ j ∧ j < hi)) → k + i + vs.length ≤ C.size → (∀ v ∈ vs, cell1 v = true) →
    ∃ w' C', (storeCells ⟨c, k, none⟩ vs i).run P w = .ok () w' ∧ Upd w w' c C' e (lo, hi) ∧ C'.size = C.size ∧
      ∀ j, C'[j]? = if k + i ≤ j ∧ j < k + i + vs.length then vs[j - (k + i)]? else C[j]?
  | [], k, i, C, w, hh, hf, hk, h1 => by
    refine ⟨w, C, by simp [storeCells, Sem.run], ⟨rfl, rfl, rfl, rfl, fun _ _ => rfl, hh⟩, rfl, fun j => ?_⟩
    rw [if_neg (by simp)]
  | v :: vs, k, i, C, w, hh, hf, hk, h1 => by
    have hk' : k + i + (vs.length + 1) ≤ C.size := by simpa using hk
    obtain ⟨w1, hr, hu⟩ := run_store1 (P := P) hh (hf (k + i) (by omega)) (by omega) (h1 v (by simp))
    obtain ⟨w2, C2, hr2, hu2, hs2, hg2⟩ := run_storeN (P := P) vs k (i + 1) (C.setIfInBounds (k + i) v) w1 hu.here (by simpa using hf) (by simp; omega) (fun x hx => h1 x (by simp [hx]))
    refine ⟨w2, C2, ?_, ⟨hu2.os.trans hu.os, hu2.tape.trans hu.tape, hu2.output.trans hu.output, hu2.size.trans hu.size, fun x hx => (hu2.other x hx).trans (hu.other x hx), hu2.here⟩, by simpa using hs2, fun j => ?_⟩
    · simp only [storeCells, Sem.run_bind, Addr.add_lit, hr, Result.andThen_ok, hr2]
    · rw [hg2]
      by_cases h2 : j = k + i
      · subst h2
        rw [if_neg (by omega), if_pos ⟨by omega, by simp⟩]
        simp [Array.getElem?_setIfInBounds_self_of_lt (show k + i < C.size by omega)]
      · by_cases h3 : k + (i + 1) ≤ j ∧ j < k + (i + 1) + vs.length
        · rw [if_pos h3, if_pos ⟨by omega, by simp; omega⟩]
          have : j - (k + i) = (j - (k + (i + 1))) + 1 := by omega
          rw [this, List.getElem?_cons_succ]
        · rw [if_neg h3, if_neg (by simp; omega)]
          rw [Array.getElem?_setIfInBounds_ne (by omega)]

section
variable {base : Nat} {w0 : World} {γ : Gam} {h : Hp} {w w' : World} {P : Program}

/-- The new block's name. -/
def Gam.add (γ : Gam) (b : Nat) (x : Nat × Nat × Nat) : Gam := fun y => if y = b then some x else γ y
theorem Gam.add_sub {γ : Gam} {b : Nat} {x : Nat × Nat × Nat} (hb : γ b = none) : Sub γ (γ.add b x) := fun y z hy => by
  unfold Gam.add
  rw [if_neg (by intro e; subst e; rw [hb] at hy; cases hy)]
  exact hy
theorem Gam.add_self {γ : Gam} {b : Nat} {x : Nat × Nat × Nat} : γ.add b x b = some x := if_pos rfl

theorem Lies.mono {γ' : Gam} {o : Ob} {c σ E : Nat} {C : Array Value} {e : TypeId} {lo hi : Nat} (l : Lies base γ w o c σ E C e lo hi) (hs : Sub γ γ') (hw : w'.heap[c]? = w.heap[c]?) :
    Lies base γ' w' o c σ E C e lo hi :=
  ⟨hw.trans l.heap, l.own, l.ro, l.size, fun i v hv => let ⟨a, v', b, r⟩ := l.cells i v hv; ⟨a, v', b, r.mono hs⟩⟩

/-- No abstract block lies in block c. -/
def Out (γ : Gam) (c : Nat) : Prop := ∀ b x σ E, γ b = some (x, σ, E) → x ≠ c
/-- What no abstract block lies in stays as it was, and free. -/
def Fr (γ : Gam) (w : World) (γ' : Gam) (w' : World) : Prop := w.heap.size ≤ w'.heap.size ∧ ∀ c, c < w.heap.size → Out γ c → w'.heap[c]? = w.heap[c]? ∧ Out γ' c
theorem Fr.refl (γ : Gam) (w : World) : Fr γ w γ w := ⟨Nat.le_refl _, fun _ _ h => ⟨rfl, h⟩⟩
theorem Fr.trans {γ γ' γ'' : Gam} {w w' w'' : World} (h : Fr γ w γ' w') (k : Fr γ' w' γ'' w'') : Fr γ w γ'' w'' :=
  ⟨Nat.le_trans h.1 k.1, fun c hc ho => let ⟨a, b⟩ := h.2 c hc ho; let ⟨d, e⟩ := k.2 c (Nat.lt_of_lt_of_le hc h.1) b; ⟨d.trans a, e⟩⟩
theorem Fr.drew {γ : Gam} {w : World} : Fr γ w γ { w with drawn := w.drawn + 1 } := ⟨Nat.le_refl _, fun _ _ h => ⟨rfl, h⟩⟩
/-- Behind a new block in the world. -/
theorem Fr.new {γ : Gam} {w w' : World} {b E : Nat} (hw : w'.heap.size = w.heap.size + 1) (hold : ∀ k, k < w.heap.size → w'.heap[k]? = w.heap[k]?) (hb : γ b = none) : Fr γ w (γ.add b (w.heap.size, 0, E)) w' := by
  refine ⟨by omega, fun c hc ho => ⟨hold c hc, fun y x σ E' hy => ?_⟩⟩
  unfold Gam.add at hy
  split at hy
  · cases hy; omega
  · exact ho y x σ E' hy
/-- Behind a write. -/
theorem Fr.upd {γ : Gam} {w w' : World} {b c σ E : Nat} {C' : Array Value} {e : TypeId} {fz : Nat × Nat} (hg : γ b = some (c, σ, E)) (u : Upd w w' c C' e fz) : Fr γ w γ w' :=
  ⟨by rw [u.size]; exact Nat.le_refl _, fun k _ ho => ⟨u.other k (fun e => ho b c σ E hg e.symm), ho⟩⟩
theorem Fr.move {γ : Gam} {w w' : World} {b c σ E y τ E' : Nat} {C' : Array Value} {e : TypeId} {fz : Nat × Nat} (hg : γ b = some (c, σ, E)) (u : Upd w w' c C' e fz) : Fr γ w (γ.add y (c, τ, E')) w' := by
  refine ⟨by rw [u.size]; exact Nat.le_refl _, fun k _ ho => ⟨u.other k (fun e => ho b c σ E hg e.symm), fun z x σ' E2 hz => ?_⟩⟩
  unfold Gam.add at hz
  split at hz
  · cases hz; exact ho b c σ E hg
  · exact ho z x σ' E2 hz

/-- A new block. -/
theorem Sim.new (s : Sim base w0 γ h w) {o : Ob} (hmd : o.md ≠ .ro) {C : Array Value} {e : TypeId} {lo hi E : Nat}
    (hw : w'.heap.size = w.heap.size + 1) (hos : w'.os = w.os) (htape : w'.tape = w.tape) (hout : w'.output = w.output) (hold : ∀ k, k < w.heap.size → w'.heap[k]? = w.heap[k]?)
    (hnew : w'.heap[w.heap.size]? = some (.cells C e (lo, hi))) (hf : ∀ i, i < C.size → ¬ (lo ≤ i ∧ i < hi)) (hsz : o.cs.length + o.md.hidden E ≤ C.size)
    (hc : ∀ (i : Nat) (v : Value), o.cs[i]? = some v → cell1 v = true ∧ ∃ v', C[i]? = some v' ∧ VRel γ v v') :
    Sim base w0 (γ.add h.size (w.heap.size, 0, E)) (h.new o) w' ∧ Sub γ (γ.add h.size (w.heap.size, 0, E)) := by
  have hsub : Sub γ (γ.add h.size (w.heap.size, 0, E)) := Gam.add_sub (s.top _ (Nat.le_refl _)).1
  have low : ∀ b o, h.get b = some o → ∀ c σ E', γ b = some (c, σ, E') → c < w.heap.size := fun b o ho c σ E' hg => by
    obtain ⟨C, e, lo, hi, l⟩ := s.at hg ho
    exact (Array.getElem?_eq_some_iff.1 l.heap).1
  refine ⟨⟨⟨hos.trans s.bel.os, htape.trans s.bel.tape, hout.trans s.bel.output, by rw [hw]; exact Nat.le_succ_of_le s.bel.size, fun k hk => (hold k (Nat.lt_of_lt_of_le hk s.wsz)).trans (s.bel.block k hk)⟩, by rw [hw]; exact Nat.le_succ_of_le s.wsz, ?_, ?_, ?_, ?_, s.maps.keep hsub (Nat.le_succ _) fun c es cl hc => hold c (map_lt hc)⟩, hsub⟩
  · intro b hb
    have hb' : h.size + 1 ≤ b := hb
    have t := s.top b (by omega)
    have hne : b ≠ h.size := by omega
    simp [Gam.add, Hp.new, hne, t]
  · intro b c σ E' hg
    unfold Gam.add at hg
    split at hg
    · cases hg; omega
    · have := s.low b c σ E' hg; omega
  · intro b ob hb
    by_cases hbe : b = h.size
    · subst hbe
      have : ob = o := by simpa [Hp.new, eq_comm] using hb
      subst this
      refine ⟨w.heap.size, 0, E, C, e, lo, hi, Gam.add_self, hnew, fun _ => ⟨s.wsz, hf⟩, fun h0 => absurd h0 hmd, by simpa using hsz, fun i v hv => ?_⟩
      obtain ⟨a, v', b, r⟩ := hc i v hv
      exact ⟨a, v', by simpa using b, r.mono hsub⟩
    · have hb2 : h.get b = some ob := by simpa [Hp.new, hbe] using hb
      obtain ⟨c, σ, E', C', e', lo', hi', hg, l⟩ := s.obj b ob hb2
      exact ⟨c, σ, E', C', e', lo', hi', hsub _ _ hg, l.mono hsub (hold c (low b ob hb2 c σ E' hg))⟩
  · intro b b' o1 o2 c σ E1 σ' E2 h1 h2 m1 m2 g1 g2
    by_cases e1 : b = h.size <;> by_cases e2 : b' = h.size
    · rw [e1, e2]
    · exfalso
      subst e1
      rw [Gam.add_self] at g1
      cases g1
      have h2' : h.get b' = some o2 := by simpa [Hp.new, e2] using h2
      have g2' : γ b' = some (w.heap.size, σ', E2) := by simpa [Gam.add, e2] using g2
      exact Nat.lt_irrefl _ (low _ _ h2' _ _ _ g2')
    · exfalso
      subst e2
      rw [Gam.add_self] at g2
      cases g2
      have h1' : h.get b = some o1 := by simpa [Hp.new, e1] using h1
      have g1' : γ b = some (w.heap.size, σ, E1) := by simpa [Gam.add, e1] using g1
      exact Nat.lt_irrefl _ (low _ _ h1' _ _ _ g1')
    · exact s.inj b b' o1 o2 c σ E1 σ' E2 (by simpa [Hp.new, e1] using h1) (by simpa [Hp.new, e2] using h2) m1 m2 (by simpa [Gam.add, e1] using g1) (by simpa [Gam.add, e2] using g2)

/-- A new block made by 'alloc'. -/
theorem Sim.alloc (s : Sim base w0 γ h w) {cs cs' : List Value} (e : TypeId) (hr : LRel γ cs cs') (h1 : ∀ v ∈ cs, cell1 v = true) :
    Sim base w0 (γ.add h.size (w.heap.size, 0, 0)) (h.new ⟨cs, .own⟩) (w.alloc (.cells cs'.toArray e)) ∧ Sub γ (γ.add h.size (w.heap.size, 0, 0)) :=
  s.new (o := ⟨cs, .own⟩) (by simp) (C := cs'.toArray) (e := e) (lo := 0) (hi := 0) (by simp) rfl rfl rfl (fun k hk => Below.heap_alloc _ _ _ hk) (heap_alloc_new w _) (by omega)
    (by simp [Md.hidden, hr.1]) (fun i v hv => ⟨h1 v (List.mem_of_getElem? hv), by
      obtain ⟨v', a, b⟩ := hr.get? hv
      exact ⟨v', by simpa using a, b⟩⟩)

/-- Cells of an own block written. -/
theorem Sim.put (s : Sim base w0 γ h w) {b c σ E : Nat} {o : Ob} (ho : h.get b = some o) (hmd : o.md ≠ .ro) (hg : γ b = some (c, σ, E)) {C C' : Array Value} {e : TypeId} {lo hi : Nat}
    (l : Lies base γ w o c σ E C e lo hi) (u : Upd w w' c C' e (lo, hi)) (hC : C'.size = C.size) {cs : List Value} (hl : cs.length = o.cs.length)
    (hc : ∀ (i : Nat) (v : Value), cs[i]? = some v → cell1 v = true ∧ ∃ v', C'[σ + i]? = some v' ∧ VRel γ v v') : Sim base w0 γ (h.put b ⟨cs, o.md⟩) w' := by
  have hb := (l.own hmd).1
  refine ⟨⟨u.os.trans s.bel.os, u.tape.trans s.bel.tape, u.output.trans s.bel.output, by rw [u.size]; exact s.bel.size, fun k hk => (u.other k (by omega)).trans (s.bel.block k hk)⟩, by rw [u.size]; exact s.wsz, ?_, (fun x c σ E hx => by rw [u.size]; exact s.low x c σ E hx), ?_, ?_, s.maps.keep (Sub.refl _) (Nat.le_refl _) (u.maps l.heap)⟩
  · intro x hx
    have hne : x ≠ b := by
      intro e'
      subst e'
      have := s.lt hg
      exact absurd hx (by simp [Hp.put]; omega)
    simpa [Hp.put, hne] using s.top x hx
  · intro x ox hx
    by_cases hxb : x = b
    · subst hxb
      have : ox = ⟨cs, o.md⟩ := by simpa [Hp.put, eq_comm] using hx
      subst this
      refine ⟨c, σ, E, C', e, lo, hi, hg, u.here, fun _ => ⟨hb, ?_⟩, fun h0 => absurd h0 hmd, ?_, hc⟩
      · rw [hC]; exact (l.own hmd).2
      · rw [hC]; simpa [hl] using l.size
    · have hx' : h.get x = some ox := by simpa [Hp.put, hxb] using hx
      obtain ⟨c', σ', E', C2, e2, lo2, hi2, hg2, l2⟩ := s.obj x ox hx'
      refine ⟨c', σ', E', C2, e2, lo2, hi2, hg2, l2.mono (Sub.refl _) (u.other c' ?_)⟩
      intro hcc
      subst hcc
      by_cases hm : ox.md = .ro
      · exact absurd (l2.ro hm) (by omega)
      · exact hxb (s.inj x b ox o c' σ' E' σ E hx' ho hm hmd hg2 hg)
  · intro x y o1 o2 c1 σ1 E1 σ2 E2 h1 h2 m1 m2 g1 g2
    have f : ∀ z oz, (h.put b ⟨cs, o.md⟩).get z = some oz → oz.md ≠ .ro → ∃ oz', h.get z = some oz' ∧ oz'.md ≠ .ro := fun z oz hz mz => by
      by_cases hzb : z = b
      · exact ⟨o, hzb ▸ ho, hmd⟩
      · exact ⟨oz, by simpa [Hp.put, hzb] using hz, mz⟩
    obtain ⟨a1, a2, a3⟩ := f x o1 h1 m1
    obtain ⟨b1, b2, b3⟩ := f y o2 h2 m2
    exact s.inj x y a1 b1 c1 σ1 E1 σ2 E2 a2 b2 a3 b3 g1 g2

/-- A block is forgotten. -/
theorem Sim.del (s : Sim base w0 γ h w) (b : Nat) : Sim base w0 γ (h.del b) w := by
  refine ⟨s.bel, s.wsz, fun x hx => ?_, s.low, fun x ox hx => ?_, fun x y o1 o2 c σ E σ' E' h1 h2 m1 m2 g1 g2 => ?_, s.maps.keep (Sub.refl _) (Nat.le_refl _) fun _ _ _ _ => rfl⟩
  · have := s.top x hx
    simp [Hp.del, this]
  · have hx' : h.get x = some ox := by
      by_cases e : x = b
      · simp [Hp.del, e] at hx
      · simpa [Hp.del, e] using hx
    exact s.obj x ox hx'
  · have f : ∀ z oz, (h.del b).get z = some oz → h.get z = some oz := fun z oz hz => by
      by_cases e : z = b
      · simp [Hp.del, e] at hz
      · simpa [Hp.del, e] using hz
    exact s.inj x y o1 o2 c σ E σ' E' (f _ _ h1) (f _ _ h2) m1 m2 g1 g2

/-- An own block goes over into a new one that begins at 'off' of it (what an append in place does), the world's cells written meanwhile. -/
theorem Sim.move (s : Sim base w0 γ h w) {b c σ E off E' : Nat} {o o' : Ob} (ho : h.get b = some o) (hmd : o.md ≠ .ro) (hmd' : o'.md ≠ .ro) (hg : γ b = some (c, σ, E)) {C C' : Array Value} {e : TypeId} {lo hi : Nat}
    (l : Lies base γ w o c σ E C e lo hi) (u : Upd w w' c C' e (lo, hi)) (hC : C'.size = C.size) (hsz : σ + off + o'.cs.length + o'.md.hidden E' ≤ C.size)
    (hc : ∀ (i : Nat) (v : Value), o'.cs[i]? = some v → cell1 v = true ∧ ∃ v', C'[σ + off + i]? = some v' ∧ VRel γ v v') :
    Sim base w0 (γ.add h.size (c, σ + off, E')) ((h.del b).new o') w' ∧ Sub γ (γ.add h.size (c, σ + off, E')) := by
  have hsub : Sub γ (γ.add h.size (c, σ + off, E')) := Gam.add_sub (s.top _ (Nat.le_refl _)).1
  have hb := (l.own hmd).1
  have old : ∀ z oz, ((h.del b).new o').get z = some oz → z ≠ h.size → h.get z = some oz ∧ z ≠ b := fun z oz hz hne => by
    have : (h.del b).get z = some oz := by simpa [Hp.new, Hp.del, hne] using hz
    by_cases e : z = b
    · simp [Hp.del, e] at this
    · exact ⟨by simpa [Hp.del, e] using this, e⟩
  refine ⟨⟨⟨u.os.trans s.bel.os, u.tape.trans s.bel.tape, u.output.trans s.bel.output, by rw [u.size]; exact s.bel.size, fun k hk => (u.other k (by omega)).trans (s.bel.block k hk)⟩, by rw [u.size]; exact s.wsz, ?_, ?_, ?_, ?_, s.maps.keep hsub (Nat.le_succ _) (u.maps l.heap)⟩, hsub⟩
  · intro x hx
    have hx' : h.size + 1 ≤ x := hx
    have t := s.top x (by omega)
    have hne : x ≠ h.size := by omega
    simp [Gam.add, Hp.new, Hp.del, hne, t]
  · intro x c1 σ1 E1 hx
    rw [u.size]
    unfold Gam.add at hx
    split at hx
    · cases hx; exact s.low b c σ E hg
    · exact s.low x c1 σ1 E1 hx
  · intro x ox hx
    by_cases hxe : x = h.size
    · subst hxe
      have : ox = o' := by simpa [Hp.new, Hp.del, eq_comm] using hx
      subst this
      refine ⟨c, σ + off, E', C', e, lo, hi, Gam.add_self, u.here, fun _ => ⟨hb, by rw [hC]; exact (l.own hmd).2⟩, fun h0 => absurd h0 hmd', by rw [hC]; exact hsz, fun i v hv => ?_⟩
      obtain ⟨a, v', d, r⟩ := hc i v hv
      exact ⟨a, v', d, r.mono hsub⟩
    · obtain ⟨hx', hxb⟩ := old x ox hx hxe
      obtain ⟨c', σ', E2, C2, e2, lo2, hi2, hg2, l2⟩ := s.obj x ox hx'
      refine ⟨c', σ', E2, C2, e2, lo2, hi2, hsub _ _ hg2, l2.mono hsub (u.other c' ?_)⟩
      intro hcc
      subst hcc
      by_cases hm : ox.md = .ro
      · exact absurd (l2.ro hm) (by omega)
      · exact hxb (s.inj x b ox o c' σ' E2 σ E hx' ho hm hmd hg2 hg)
  · intro x y o1 o2 c1 σ1 E1 σ2 E2 h1 h2 m1 m2 g1 g2
    have key : ∀ z oz σz Ez, ((h.del b).new o').get z = some oz → oz.md ≠ .ro → z ≠ h.size → (γ.add h.size (c, σ + off, E')) z = some (c, σz, Ez) → False := fun z oz σz Ez hz mz hne gz => by
      obtain ⟨hz', hzb⟩ := old z oz hz hne
      have gz' : γ z = some (c, σz, Ez) := by simpa [Gam.add, hne] using gz
      exact hzb (s.inj z b oz o c σz Ez σ E hz' ho mz hmd gz' hg)
    by_cases e1 : x = h.size <;> by_cases e2 : y = h.size
    · rw [e1, e2]
    · exfalso
      subst e1
      rw [Gam.add_self] at g1
      cases g1
      exact key y o2 _ _ h2 m2 e2 g2
    · exfalso
      subst e2
      rw [Gam.add_self] at g2
      cases g2
      exact key x o1 _ _ h1 m1 e1 g1
    · obtain ⟨a1, _⟩ := old x o1 h1 e1
      obtain ⟨a2, _⟩ := old y o2 h2 e2
      exact s.inj x y o1 o2 c1 σ1 E1 σ2 E2 a1 a2 m1 m2 (by simpa [Gam.add, e1] using g1) (by simpa [Gam.add, e2] using g2)

/-- A block that no abstract one lies in is made. -/
theorem Sim.garb (s : Sim base w0 γ h w) (o : Obj) : Sim base w0 γ h (w.alloc o) := by
  have hold : ∀ k, k < w.heap.size → (w.alloc o).heap[k]? = w.heap[k]? := fun k hk => Below.heap_alloc w o k hk
  have hsz : (w.alloc o).heap.size = w.heap.size + 1 := by simp
  refine ⟨⟨s.bel.os, s.bel.tape, s.bel.output, by rw [hsz]; exact Nat.le_succ_of_le s.bel.size, fun k hk => (hold k (Nat.lt_of_lt_of_le hk s.wsz)).trans (s.bel.block k hk)⟩, by rw [hsz]; exact Nat.le_succ_of_le s.wsz, s.top, (fun b c σ E hg => by rw [hsz]; exact Nat.lt_succ_of_lt (s.low b c σ E hg)), fun b ob hb => ?_, s.inj, s.maps.keep (Sub.refl _) (Nat.le_refl _) fun c es cl hc => hold c (map_lt hc)⟩
  obtain ⟨c, σ, E, C, e, lo, hi, hg, l⟩ := s.obj b ob hb
  exact ⟨c, σ, E, C, e, lo, hi, hg, l.mono (Sub.refl _) (hold c (s.low b c σ E hg))⟩
theorem Fr.garb {o : Obj} : Fr γ w γ (w.alloc o) := ⟨by simp, fun c hc ho => ⟨Below.heap_alloc w o c hc, ho⟩⟩
/-- Such a block is taken for a new abstract one. -/
theorem Sim.adopt (s : Sim base w0 γ h w) {o : Ob} (hmd : o.md = .own) {c : Nat} {C : Array Value} {e : TypeId} (hc : w.heap[c]? = some (.cells C e (0, 0))) (hb : base ≤ c) (hout : Out γ c) (hsz : o.cs.length ≤ C.size)
    (hcs : ∀ (i : Nat) (v : Value), o.cs[i]? = some v → cell1 v = true ∧ ∃ v', C[i]? = some v' ∧ VRel γ v v') : Sim base w0 (γ.add h.size (c, 0, 0)) (h.new o) w ∧ Sub γ (γ.add h.size (c, 0, 0)) := by
  have hsub : Sub γ (γ.add h.size (c, 0, 0)) := Gam.add_sub (s.top _ (Nat.le_refl _)).1
  refine ⟨⟨s.bel, s.wsz, ?_, ?_, ?_, ?_, s.maps.keep hsub (Nat.le_succ _) fun _ _ _ _ => rfl⟩, hsub⟩
  · intro b hb
    have hb' : h.size + 1 ≤ b := hb
    have t := s.top b (by omega)
    have hne : b ≠ h.size := by omega
    simp [Gam.add, Hp.new, hne, t]
  · intro b c1 σ E hg
    unfold Gam.add at hg
    split at hg
    · cases hg; exact (Array.getElem?_eq_some_iff.1 hc).1
    · exact s.low b c1 σ E hg
  · intro b ob hbo
    by_cases hbe : b = h.size
    · subst hbe
      have : ob = o := by simpa [Hp.new, eq_comm] using hbo
      subst this
      refine ⟨c, 0, 0, C, e, 0, 0, Gam.add_self, hc, fun _ => ⟨hb, fun i _ => by omega⟩, (fun h0 => by rw [hmd] at h0; cases h0), by simpa [hmd, Md.hidden] using hsz, fun i v hv => ?_⟩
      obtain ⟨x, v', y, r⟩ := hcs i v hv
      exact ⟨x, v', by simpa using y, r.mono hsub⟩
    · have hb2 : h.get b = some ob := by simpa [Hp.new, hbe] using hbo
      obtain ⟨c', σ, E', C', e', lo', hi', hg, l⟩ := s.obj b ob hb2
      exact ⟨c', σ, E', C', e', lo', hi', hsub _ _ hg, l.mono hsub rfl⟩
  · intro b b' o1 o2 c1 σ E1 σ' E2 h1 h2 m1 m2 g1 g2
    by_cases e1 : b = h.size <;> by_cases e2 : b' = h.size
    · rw [e1, e2]
    · exfalso
      subst e1
      rw [Gam.add_self] at g1
      cases g1
      have g2' : γ b' = some (c, σ', E2) := by simpa [Gam.add, e2] using g2
      exact hout b' c σ' E2 g2' rfl
    · exfalso
      subst e2
      rw [Gam.add_self] at g2
      cases g2
      have g1' : γ b = some (c, σ, E1) := by simpa [Gam.add, e1] using g1
      exact hout b c σ E1 g1' rfl
    · exact s.inj b b' o1 o2 c1 σ E1 σ' E2 (by simpa [Hp.new, e1] using h1) (by simpa [Hp.new, e2] using h2) m1 m2 (by simpa [Gam.add, e1] using g1) (by simpa [Gam.add, e2] using g2)

/-! ### maps -/
/-- A new map. -/
theorem Sim.mkm (s : Sim base w0 γ h w) : Sim base w0 (γ.add h.size (w.heap.size, 0, 0)) (h.newM []) (w.alloc (.map #[] 0)) ∧ Sub γ (γ.add h.size (w.heap.size, 0, 0)) := by
  have hsub : Sub γ (γ.add h.size (w.heap.size, 0, 0)) := Gam.add_sub (s.top _ (Nat.le_refl _)).1
  have hold : ∀ k, k < w.heap.size → (w.alloc (.map #[] 0)).heap[k]? = w.heap[k]? := fun k hk => Below.heap_alloc w _ k hk
  have hsz : (w.alloc (.map #[] 0)).heap.size = w.heap.size + 1 := by simp
  have hnew : (w.alloc (.map #[] 0)).heap[w.heap.size]? = some (.map #[] 0) := heap_alloc_new w _
  have hM := s.maps.keep (w' := w.alloc (.map #[] 0)) hsub (Nat.le_succ _) fun c es cl hc => hold c (map_lt hc)
  have ne : ∀ b o, h.get b = some o → b ≠ h.size := fun b o hb e => by rw [e, (s.top _ (Nat.le_refl _)).2] at hb; cases hb
  refine ⟨⟨⟨s.bel.os, s.bel.tape, s.bel.output, by rw [hsz]; exact Nat.le_succ_of_le s.bel.size, fun k hk => (hold k (Nat.lt_of_lt_of_le hk s.wsz)).trans (s.bel.block k hk)⟩, by rw [hsz]; exact Nat.le_succ_of_le s.wsz, ?_, ?_, ?_, ?_, ?_⟩, hsub⟩
  · intro b hb
    have hb' : h.size + 1 ≤ b := hb
    have t := s.top b (by omega)
    have hne : b ≠ h.size := by omega
    simp [Gam.add, Hp.newM, hne, t]
  · intro b c σ E hg
    rw [hsz]
    unfold Gam.add at hg
    split at hg
    · cases hg; omega
    · have := s.low b c σ E hg; omega
  · intro b o hb
    obtain ⟨c, σ, E, C, e, lo, hi, hg, l⟩ := s.obj b o hb
    exact ⟨c, σ, E, C, e, lo, hi, hsub _ _ hg, l.mono hsub (hold c (s.low b c σ E hg))⟩
  · intro b b' o o' c σ E σ' E' h1 h2 m1 m2 g1 g2
    exact s.inj b b' o o' c σ E σ' E' h1 h2 m1 m2 (by simpa [Gam.add, ne b o h1] using g1) (by simpa [Gam.add, ne b' o' h2] using g2)
  · have old : ∀ b es, b ≠ h.size → (h.newM []).mp b = some es → h.mp b = some es := fun b es hb he => by simpa [Hp.newM, hb] using he
    have low : ∀ b es c σ E, h.mp b = some es → (γ.add h.size (w.heap.size, 0, 0)) b = some (c, σ, E) → c ≠ w.heap.size := fun b es c σ E he hg e => by
      obtain ⟨c1, _, _, h1, _⟩ := s.maps.obj b es he
      have h2 := hsub _ _ h1
      rw [hg] at h2
      cases h2
      have := s.low _ _ _ _ h1
      omega
    refine ⟨fun b hb => ?_, fun b es he => ?_, fun b b' es es' c σ E σ' E' h1 h2 g1 g2 => ?_⟩
    · have hb' : h.size + 1 ≤ b := hb
      show (if b = h.size then _ else h.mp b) = none
      rw [if_neg (by omega)]
      exact s.maps.top b (by omega)
    · by_cases hbe : b = h.size
      · subst hbe
        have : es = [] := by simpa [Hp.newM, eq_comm] using he
        subst this
        exact ⟨w.heap.size, #[], 0, Gam.add_self, s.wsz, hnew, ⟨rfl, fun i p e h1 => by cases h1⟩⟩
      · exact hM.obj b es (old b es hbe he)
    · by_cases e1 : b = h.size <;> by_cases e2 : b' = h.size
      · rw [e1, e2]
      · subst e1
        rw [Gam.add_self] at g1
        cases g1
        exact absurd rfl (low b' es' _ _ _ (old b' es' e2 h2) g2)
      · subst e2
        rw [Gam.add_self] at g2
        cases g2
        exact absurd rfl (low b es _ _ _ (old b es e1 h1) g1)
      · exact hM.inj b b' es es' c σ E σ' E' (old b es e1 h1) (old b' es' e2 h2) g1 g2
/-- A map written. -/
theorem Sim.putM (s : Sim base w0 γ h w) {b c : Nat} {es0 es : List (Value × Value)} {old new : Array MapEntry} {cl cl' : Nat} (ho : h.mp b = some es0) (hg : γ b = some (c, 0, 0)) (hold : w.heap[c]? = some (.map old cl))
    (hos : w'.os = w.os) (htape : w'.tape = w.tape) (hout : w'.output = w.output) (hsz : w'.heap.size = w.heap.size) (hother : ∀ k, k ≠ c → w'.heap[k]? = w.heap[k]?) (hhere : w'.heap[c]? = some (.map new cl')) (hr : ERel γ es new.toList) :
    Sim base w0 γ (h.putM b es) w' := by
  obtain ⟨c1, _, _, h1, hb, _⟩ := s.maps.obj b es0 ho
  rw [hg] at h1
  cases h1
  have hM : ∀ x e, h.mp x = some e → x ≠ b → ∃ c1, γ x = some (c1, 0, 0) ∧ c1 ≠ c := fun x e hx hne => by
    obtain ⟨c1, _, _, g1, _⟩ := s.maps.obj x e hx
    exact ⟨c1, g1, fun hc => hne (s.maps.inj x b e es0 c1 0 0 0 0 hx ho g1 (hc ▸ hg))⟩
  refine ⟨⟨hos.trans s.bel.os, htape.trans s.bel.tape, hout.trans s.bel.output, by rw [hsz]; exact s.bel.size, fun k hk => (hother k (by omega)).trans (s.bel.block k hk)⟩, by rw [hsz]; exact s.wsz, s.top, (fun x c σ E hx => by rw [hsz]; exact s.low x c σ E hx), ?_, s.inj, ?_⟩
  · intro x o hx
    obtain ⟨c2, σ, E, C, e, lo, hi, g2, l⟩ := s.obj x o hx
    exact ⟨c2, σ, E, C, e, lo, hi, g2, l.mono (Sub.refl _) (hother c2 fun e => by have := l.heap; rw [e, hold] at this; cases this)⟩
  · refine ⟨fun x hx => ?_, fun x e hx => ?_, fun x x' e e' c1 σ E σ' E' h1 h2 g1 g2 => ?_⟩
    · have hlt : b < h.size := s.lt hg
      have hx' : h.size ≤ x := hx
      show (if x = b then _ else h.mp x) = none
      rw [if_neg (by omega)]
      exact s.maps.top x hx'
    · by_cases hxb : x = b
      · subst hxb
        have : e = es := by simpa [Hp.putM, eq_comm] using hx
        subst this
        exact ⟨c, new, cl', hg, hb, hhere, hr⟩
      · have hx' : h.mp x = some e := by simpa [Hp.putM, hxb] using hx
        obtain ⟨c1, es', cl1, g1, b1, hh, r⟩ := s.maps.obj x e hx'
        exact ⟨c1, es', cl1, g1, b1, (hother c1 fun hc => hxb (s.maps.inj x b e es0 c1 0 0 0 0 hx' ho g1 (hc ▸ hg))).trans hh, r⟩
    · have f : ∀ z ez, (h.putM b es).mp z = some ez → ∃ ez', h.mp z = some ez' := fun z ez hz => by
        by_cases hzb : z = b
        · exact ⟨es0, hzb ▸ ho⟩
        · exact ⟨ez, by simpa [Hp.putM, hzb] using hz⟩
      obtain ⟨a1, a2⟩ := f x e h1
      obtain ⟨b1, b2⟩ := f x' e' h2
      exact s.maps.inj x x' a1 b1 c1 σ E σ' E' a2 b2 g1 g2
theorem Fr.putM {b c : Nat} (hg : γ b = some (c, 0, 0)) (hsz : w'.heap.size = w.heap.size) (hother : ∀ k, k ≠ c → w'.heap[k]? = w.heap[k]?) : Fr γ w γ w' :=
  ⟨Nat.le_of_eq hsz.symm, fun k _ ho => ⟨hother k fun e => ho b c 0 0 hg e.symm, ho⟩⟩
end
end Go.Proofs.Ytbfbgkhlngkifaa.Am
