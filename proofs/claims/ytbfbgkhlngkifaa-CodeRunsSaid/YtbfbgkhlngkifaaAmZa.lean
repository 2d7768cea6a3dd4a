/- A law's arguments, read into the abstract heap. Plain theorems.
   Conditions: none. -/
import Derived.Test.YtbfbgkhlngkifaaAmZ
import Derived.ProofKit
import Derived.OpenShut
import Derived.SizedLaws
import Derived.Deep.Slices
import Derived.WideShapes
namespace Go.Proofs.Ytbfbgkhlngkifaa.Am
open Go Go.RowKit Go.ChangeShapes Go.WideShapes Go.ChangeAt Go.Deep
set_option linter.unusedVariables false
set_option linter.unusedSimpArgs false

/-- What was there is there. -/
def Ex (h h' : Hp) : Prop := ∀ b o, h.get b = some o → h'.get b = some o
theorem Ex.refl (h : Hp) : Ex h h := fun _ _ e => e
theorem Ex.trans {a b c : Hp} (x : Ex a b) (y : Ex b c) : Ex a c := fun i o e => y i o (x i o e)
theorem Ex.rdN {h h' : Hp} (x : Ex h h') {b i z : Nat} {cs : List Value} (e : h.rdN b i z = some cs) : h'.rdN b i z = some cs := by
  obtain ⟨ob, h1, h2, rfl⟩ := rdN_of e
  exact rdN_mk (x b ob h1) h2
theorem Rd.ex {h h' : Hp} {z n : Nat} {oa : Option Addr} {cs : List Value} (r : Rd h z oa n cs) (x : Ex h h') : Rd h' z oa n cs :=
  ⟨r.len, r.nil, fun a ha => (r.at_ a ha).imp (fun ⟨h1, h2⟩ => ⟨h1, x.rdN h2⟩) id⟩

/-- Memory that is only read. -/
theorem Sim.addRo {w : World} {γ : Gam} {h : Hp} (s : Sim w.heap.size w γ h w) {cs : List Value} {c σ : Nat} {C : Array Value} {e : TypeId} {fz : Nat × Nat} (hc : w.heap[c]? = some (.cells C e fz)) (hsz : σ + cs.length ≤ C.size)
    (hcs : ∀ (i : Nat) (v : Value), cs[i]? = some v → cell1 v = true ∧ ∃ v', C[σ + i]? = some v' ∧ VRel γ v v') :
    Sim w.heap.size w (γ.add h.size (c, σ, 0)) (h.new ⟨cs, .ro⟩) w ∧ Sub γ (γ.add h.size (c, σ, 0)) := by
  have hsub : Sub γ (γ.add h.size (c, σ, 0)) := Gam.add_sub (s.top _ (Nat.le_refl _)).1
  have hlt : c < w.heap.size := (Array.getElem?_eq_some_iff.1 hc).1
  refine ⟨⟨s.bel, s.wsz, ?_, ?_, ?_, ?_, s.maps.keep hsub (Nat.le_succ _) fun _ _ _ _ => rfl⟩, hsub⟩
  · intro b hb
    have hb' : h.size + 1 ≤ b := hb
    have t := s.top b (by omega)
    have hne : b ≠ h.size := by omega
    simp [Gam.add, Hp.new, hne, t]
  · intro b c1 σ E hg
    unfold Gam.add at hg
    split at hg
    · cases hg; exact hlt
    · exact s.low b c1 σ E hg
  · intro b ob hbo
    by_cases hbe : b = h.size
    · subst hbe
      have : ob = ⟨cs, .ro⟩ := by simpa [Hp.new, eq_comm] using hbo
      subst this
      refine ⟨c, σ, 0, C, e, fz.1, fz.2, Gam.add_self, hc, (fun h0 => absurd rfl h0), fun _ => hlt, by simpa [Md.hidden] using hsz, fun i v hv => ?_⟩
      obtain ⟨x, v', y, r⟩ := hcs i v hv
      exact ⟨x, v', y, r.mono hsub⟩
    · have hb2 : h.get b = some ob := by simpa [Hp.new, hbe] using hbo
      obtain ⟨c', σ', E', C', e', lo', hi', hg, l⟩ := s.obj b ob hb2
      exact ⟨c', σ', E', C', e', lo', hi', hsub _ _ hg, l.mono hsub rfl⟩
  · intro b b' o1 o2 c1 σ1 E1 σ' E2 h1 h2 m1 m2 g1 g2
    by_cases e1 : b = h.size
    · subst e1
      have : o1 = ⟨cs, .ro⟩ := by simpa [Hp.new, eq_comm] using h1
      subst this
      exact absurd rfl m1
    · by_cases e2 : b' = h.size
      · subst e2
        have : o2 = ⟨cs, .ro⟩ := by simpa [Hp.new, eq_comm] using h2
        subst this
        exact absurd rfl m2
      · exact s.inj b b' o1 o2 c1 σ1 E1 σ' E2 (by simpa [Hp.new, e1] using h1) (by simpa [Hp.new, e2] using h2) m1 m2 (by simpa [Gam.add, e1] using g1) (by simpa [Gam.add, e2] using g2)
theorem Sim.empty (w : World) : Sim w.heap.size w (fun _ => none) Hp.nil w :=
  ⟨Below.refl _ _, Nat.le_refl _, fun b _ => ⟨rfl, rfl⟩, (fun b c σ E hg => by cases hg), (fun b o ho => by cases ho), (fun b b' o o' c σ E σ' E' ho => by cases ho), MSim.none⟩
theorem ex_new {h : Hp} (w : Wf h) (o : Ob) : Ex h (h.new o) := fun b o' e => (get_new (w.lt e)).trans e

/-! ### kinds of data -/
/-- A kind of data: its cells in the world, and in the abstract heap. -/
structure AKd (α : Type) where
  sz : Nat
  pos : 0 < sz
  K : World → α → List Value → Prop
  A : Hp → α → List Value → Prop
  len : ∀ {w a cs}, K w a cs → cs.length = sz
  alen : ∀ {h a cs}, A h a cs → cs.length = sz
  acell : ∀ {h a cs}, A h a cs → ∀ v ∈ cs, cell1 v = true
  mono : ∀ {h h' a cs}, Ex h h' → A h a cs → A h' a cs
  build : ∀ {w γ h a cs}, Sim w.heap.size w γ h w → K w a cs → ∃ γ' h' cs', Sim w.heap.size w γ' h' w ∧ Sub γ γ' ∧ Ex h h' ∧ A h' a cs' ∧ LRel γ' cs' cs
namespace AKd
def scalar {α : Type} (enc : α → Value) (h1 : ∀ x, plainV (enc x) = true) : AKd α where
  sz := 1
  pos := Nat.one_pos
  K := fun _ x cs => cs = [enc x]
  A := fun _ x cs => cs = [enc x]
  len := fun h => by rw [h]; rfl
  alen := fun h => by rw [h]; rfl
  acell := fun h v hv => by
    rw [h] at hv
    rw [List.mem_singleton.1 hv]
    exact plainV_cell (h1 _)
  mono := fun _ h => h
  build := fun {w γ h a cs} s hk => ⟨γ, h, cs, s, Sub.refl _, Ex.refl _, hk, by rw [hk]; exact LRel.cons (plainV_rel (h1 _)) LRel.nil⟩
def int (k : IntKind) : AKd Int := scalar (Value.int k) (fun _ => rfl)
def bool : AKd Bool := scalar Value.bool (fun _ => rfl)
def string : AKd ByteArray := scalar Value.string (fun _ => rfl)
def pair {α β : Type} (d : AKd α) (e : AKd β) : AKd (α × β) where
  sz := d.sz + e.sz
  pos := Nat.lt_of_lt_of_le d.pos (Nat.le_add_right _ _)
  K := fun w x cs => ∃ c1 c2, cs = c1 ++ c2 ∧ d.K w x.1 c1 ∧ e.K w x.2 c2
  A := fun h x cs => ∃ c1 c2, cs = c1 ++ c2 ∧ d.A h x.1 c1 ∧ e.A h x.2 c2
  len := by
    rintro w a cs ⟨c1, c2, rfl, h1, h2⟩
    rw [List.length_append, d.len h1, e.len h2]
  alen := by
    rintro w a cs ⟨c1, c2, rfl, h1, h2⟩
    rw [List.length_append, d.alen h1, e.alen h2]
  acell := by
    rintro w a cs ⟨c1, c2, rfl, h1, h2⟩ v hv
    rcases List.mem_append.1 hv with hv | hv
    · exact d.acell h1 v hv
    · exact e.acell h2 v hv
  mono := by
    rintro h h' a cs x ⟨c1, c2, rfl, h1, h2⟩
    exact ⟨c1, c2, rfl, d.mono x h1, e.mono x h2⟩
  build := by
    rintro w γ h a cs s ⟨c1, c2, rfl, h1, h2⟩
    obtain ⟨γ1, hh1, d1, s1, u1, x1, a1, r1⟩ := d.build s h1
    obtain ⟨γ2, hh2, d2, s2, u2, x2, a2, r2⟩ := e.build s1 h2
    exact ⟨γ2, hh2, d1 ++ d2, s2, u1.trans u2, x1.trans x2, ⟨d1, d2, rfl, d.mono x2 a1, a2⟩, (r1.mono u2).append r2⟩
/-- Elements in a row. -/
def Row {α : Type} (A : α → List Value → Prop) : List α → List Value → Prop
  | [], cs => cs = []
  | x :: xs, cs => ∃ c r, cs = c ++ r ∧ A x c ∧ Row A xs r
theorem Row.mono {α : Type} {A B : α → List Value → Prop} (hm : ∀ x cs, A x cs → B x cs) : ∀ {xs : List α} {cs : List Value}, Row A xs cs → Row B xs cs
  | [], _, h => h
  | _ :: _, _, ⟨c, r, e, h1, h2⟩ => ⟨c, r, e, hm _ _ h1, Row.mono hm h2⟩
theorem Row.len {α : Type} {A : α → List Value → Prop} {z : Nat} (hl : ∀ x cs, A x cs → cs.length = z) : ∀ {xs : List α} {cs : List Value}, Row A xs cs → cs.length = xs.length * z
  | [], _, h => by rw [h]; simp
  | x :: xs, _, ⟨c, r, e, h1, h2⟩ => by rw [e, List.length_append, hl _ _ h1, Row.len hl h2, List.length_cons, Nat.succ_mul, Nat.add_comm]
theorem Row.all {α : Type} {A : α → List Value → Prop} {p : Value → Prop} (hl : ∀ x cs, A x cs → ∀ v ∈ cs, p v) : ∀ {xs : List α} {cs : List Value}, Row A xs cs → ∀ v ∈ cs, p v
  | [], _, h => by rw [h]; intro v hv; cases hv
  | x :: xs, _, ⟨c, r, e, h1, h2⟩ => by
    rw [e]
    intro v hv
    rcases List.mem_append.1 hv with hv | hv
    · exact hl _ _ h1 v hv
    · exact Row.all hl h2 v hv
/-- The j-th element's cells. -/
theorem Row.get {α : Type} {A : α → List Value → Prop} {z : Nat} (hl : ∀ x cs, A x cs → cs.length = z) : ∀ {xs : List α} {cs : List Value}, Row A xs cs → ∀ {j : Nat} {x : α}, xs[j]? = some x → A x ((cs.drop (j * z)).take z)
  | [], _, _, j, x, hx => by simp at hx
  | y :: xs, _, ⟨c, r, e, h1, h2⟩, j, x, hx => by
    have hc := hl _ _ h1
    cases j with
    | zero =>
      simp at hx
      subst hx
      rw [e, Nat.zero_mul, List.drop_zero, List.take_append_of_le_length (by omega), List.take_of_length_le (by omega)]
      exact h1
    | succ j =>
      have hd : (c ++ r).drop (z + j * z) = r.drop (j * z) := by rw [← hc]; simp [List.drop_append]
      rw [e, Nat.succ_mul, Nat.add_comm, hd]
      exact Row.get hl h2 (by simpa using hx)
theorem Row.int {k : IntKind} {h : Hp} : ∀ {xs : List Int} {cs : List Value}, Row ((AKd.int k).A h) xs cs → cs = xs.map (Value.int k)
  | [], _, h => h
  | x :: xs, _, ⟨c, r, e, h1, h2⟩ => by
    have h1 : c = [Value.int k x] := h1
    rw [e, h1, Row.int h2]; rfl
def slice {α : Type} (d : AKd α) : AKd (List α) where
  sz := 1
  pos := Nat.one_pos
  K := fun w xs cs => ∃ A c, cs = [.slice A xs.length c] ∧ xs.length ≤ c ∧ (A = none → c = 0) ∧ (0 < c → ∃ a, A = some a ∧ a.spot = none ∧ ∃ C e fz, w.heap[a.block]? = some (.cells C e fz) ∧ a.off ≤ C.size) ∧
    ∀ a, A = some a → ∀ j x, xs[j]? = some x → ∃ cs', d.K w x cs' ∧ ∀ i u, cs'[i]? = some u → w.cell? (a.add (j * d.sz + i)) = some u
  A := fun h xs cs => ∃ oa c r, cs = [.slice oa xs.length c] ∧ Rd h d.sz oa xs.length r ∧ Row (d.A h) xs r ∧ xs.length ≤ c
  len := by rintro w a cs ⟨A, c, rfl, _⟩; rfl
  alen := by rintro w a cs ⟨A, c, r, rfl, _⟩; rfl
  acell := by
    rintro w a cs ⟨A, c, r, rfl, _⟩ v hv
    rw [List.mem_singleton.1 hv]; rfl
  mono := by
    rintro h h' a cs x ⟨A, c, r, rfl, h1, h2, h3⟩
    exact ⟨A, c, r, rfl, h1.ex x, h2.mono fun y cs hy => d.mono x hy, h3⟩
  build := by
    rintro w γ h xs cs s ⟨A, c, rfl, hlc, hnil, hblk, hel⟩
    rcases Nat.eq_zero_or_pos c with hc | hc
    · have hx : xs = [] := List.length_eq_zero_iff.1 (by omega)
      subst hx hc
      rcases A with _ | a
      · exact ⟨γ, h, [.slice none 0 0], s, Sub.refl _, Ex.refl _, ⟨none, 0, [], rfl, ⟨by simp, fun _ => rfl, fun a ha => by cases ha⟩, rfl, Nat.zero_le _⟩, LRel.cons .slice0 LRel.nil⟩
      · exact ⟨γ, h, [.slice none 0 (codeA a + 1)], s, Sub.refl _, Ex.refl _, ⟨none, _, [], rfl, ⟨by simp, fun _ => rfl, fun a ha => by cases ha⟩, rfl, Nat.zero_le _⟩, LRel.cons (.slicez a) LRel.nil⟩
    · obtain ⟨a, rfl, hsp, C, e, fz, hh, hoff⟩ := hblk hc
      obtain ⟨b, off, sp⟩ := a
      have hsp : sp = none := hsp
      subst hsp
      have hel := hel _ rfl
      have rows : ∀ (ys : List α) (k : Nat) (γ : Gam) (h : Hp), Sim w.heap.size w γ h w → (∀ j x, ys[j]? = some x → ∃ cs', d.K w x cs' ∧ ∀ i u, cs'[i]? = some u → C[off + (k + j) * d.sz + i]? = some u) →
          ∃ γ' h' r, Sim w.heap.size w γ' h' w ∧ Sub γ γ' ∧ Ex h h' ∧ Row (d.A h') ys r ∧ ∀ (i : Nat) (v : Value), r[i]? = some v → ∃ v', C[off + k * d.sz + i]? = some v' ∧ VRel γ' v v' := by
        intro ys
        induction ys with
        | nil => intro k γ h s _; exact ⟨γ, h, [], s, Sub.refl _, Ex.refl _, rfl, fun i v hv => by simp at hv⟩
        | cons y ys ih =>
          intro k γ h s hy
          obtain ⟨cs', hk, hcell⟩ := hy 0 y rfl
          obtain ⟨γ1, h1, c1, s1, u1, x1, a1, r1⟩ := d.build s hk
          obtain ⟨γ2, h2, r2, s2, u2, x2, a2, hr2⟩ := ih (k + 1) γ1 h1 s1 (fun j x hj => by
            obtain ⟨cs2, hk2, hc2⟩ := hy (j + 1) x hj
            exact ⟨cs2, hk2, fun i u hu => by rw [show k + 1 + j = k + (j + 1) by omega]; exact hc2 i u hu⟩)
          refine ⟨γ2, h2, c1 ++ r2, s2, u1.trans u2, x1.trans x2, ⟨c1, r2, rfl, d.mono x2 a1, a2⟩, fun i v hv => ?_⟩
          have hl1 := d.alen a1
          by_cases hi : i < d.sz
          · rw [List.getElem?_append_left (by omega)] at hv
            obtain ⟨v', hv', rv⟩ := r1.get? hv
            exact ⟨v', by have := hcell i v' hv'; simpa using this, rv.mono u2⟩
          · rw [List.getElem?_append_right (by omega), hl1] at hv
            obtain ⟨v', hv', rv⟩ := hr2 _ v hv
            refine ⟨v', ?_, rv⟩
            rw [← hv']
            congr 1
            rw [Nat.succ_mul]
            omega
      obtain ⟨γ1, h1, r, s1, u1, x1, a1, hr⟩ := rows xs 0 γ h s (fun j x hj => by
        obtain ⟨cs', hk, hcell⟩ := hel j x hj
        refine ⟨cs', hk, fun i u hu => ?_⟩
        have := hcell i u hu
        rw [Addr.add_lit, cell_at hh] at this
        rw [← this]
        congr 1
        rw [Nat.zero_add]; omega)
      have hlr : r.length = xs.length * d.sz := Row.len (fun x cs => d.alen) a1
      have hfit : off + r.length ≤ C.size := by
        rcases Nat.eq_zero_or_pos r.length with h0 | h0
        · have hoff : off ≤ C.size := hoff
          omega
        · obtain ⟨v', hv', _⟩ := hr (r.length - 1) _ (List.getElem?_eq_getElem (by omega))
          have := (Array.getElem?_eq_some_iff.1 hv').1
          omega
      obtain ⟨s2, u2⟩ := s1.addRo (cs := r) (c := b) (σ := off) hh hfit (fun i v hv => ⟨Row.all (fun x cs => d.acell) a1 v (List.mem_of_getElem? hv), by
        obtain ⟨v', hv', rv⟩ := hr i v hv
        exact ⟨v', by simpa using hv', rv⟩⟩)
      have wf1 := s1.wf
      have x2 := ex_new wf1 ⟨r, .ro⟩
      refine ⟨_, _, [.slice (some ⟨h1.size, 0, none⟩) xs.length c], s2, u1.trans u2, x1.trans x2, ⟨_, _, r, rfl, Rd.of rfl ?_, a1.mono fun y cs hy => d.mono x2 hy, hlc⟩, LRel.cons ?_ LRel.nil⟩
      · rw [rdN_mk get_new_self (by simp [hlr]), List.drop_zero, List.take_of_length_le (by simp [hlr])]
      · have := VRel.slice (len := xs.length) (cap := c) (off := 0) (Gam.add_self (γ := γ1) (b := h1.size) (x := (b, off, 0)))
        simpa using this
end AKd
end Go.Proofs.Ytbfbgkhlngkifaa.Am
