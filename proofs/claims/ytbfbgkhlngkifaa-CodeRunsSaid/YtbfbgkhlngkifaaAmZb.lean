/- What an argument holds, read off its datum, kind by kind: a law's row opens its arguments by these.
   Conditions: none. -/
import Derived.Test.YtbfbgkhlngkifaaAmZa
namespace Go.Proofs.Ytbfbgkhlngkifaa.Am
open Go Go.RowKit Go.ChangeShapes Go.WideShapes Go.ChangeAt Go.Deep
set_option linter.unusedVariables false
set_option linter.unusedSimpArgs false

theorem add_add' (a : Addr) (i j : Nat) : (a.add i).add j = a.add (i + j) := by
  unfold Addr.add
  by_cases hi : i = 0 <;> by_cases hj : j = 0 <;> simp [hi, hj, Nat.add_assoc]
/-- What reads at type t is of kind d. -/
def Opens {α : Type} (P : Program) (t : TypeId) (d : AKd α) (wf : α → Prop) : Prop :=
  ∀ (H : Type) (enc : TypeId × Value → H) (w : World) (held : Bool) (fuel : Nat) (cs : List Value) (x : DataW H × List MemPlace),
    DataW.trod enc P w 0 (fun _ => true) held fuel t cs = some x → (x.1.weights P t).all (· ≤ reachBytes) = true → ∃ a, d.K w a cs ∧ wf a
theorem opens_int {P : Program} {t : TypeId} {k : IntKind} (hu : P.underlying t = some (.int k)) : Opens P t (AKd.int k) (fun a => (Lit.int k a).wf = true) := by
  intro H enc w held fuel cs x h _
  obtain ⟨n, hcs, _, hw⟩ := DataW.trod_int hu h
  exact ⟨n, hcs, hw⟩
theorem opens_bool {P : Program} {t : TypeId} (hu : P.underlying t = some .bool) : Opens P t AKd.bool (fun _ => True) := by
  intro H enc w held fuel cs x h _
  obtain ⟨b, hcs, _⟩ := DataW.trod_bool hu h
  exact ⟨b, hcs, trivial⟩
theorem opens_string {P : Program} {t : TypeId} (hu : P.underlying t = some .string) : Opens P t AKd.string (fun s => s.size ≤ 140737488351232) := by
  intro H enc w held fuel cs x h hw
  obtain ⟨s, hcs, hx, _⟩ := DataW.trod_string hu h
  refine ⟨s, hcs, ?_⟩
  subst hx
  simp [DataW.weights] at hw
  exact hw
theorem weightsAll_mem {H : Type} {P : Program} {e : TypeId} : ∀ (l : List (DataW H)) (d : DataW H), d ∈ l → ∀ n ∈ d.weights P e, n ∈ DataW.weightsAll P e l
  | [], _, h => by simp at h
  | c :: r, d, h => by
    intro n hn
    rcases List.mem_cons.1 h with rfl | h
    · simp only [DataW.weightsAll, List.mem_append]; exact .inl hn
    · simp only [DataW.weightsAll, List.mem_append]; exact .inr (weightsAll_mem r d h n hn)
theorem opens_slice {α : Type} {P : Program} {t e : TypeId} {d : AKd α} {wf : α → Prop} (hu : P.underlying t = some (.slice e)) (hc : P.cellsOf e = d.sz) (h : Opens P e d wf) :
    Opens P t (AKd.slice d) (fun xs => xs.length * P.bytesOf e ≤ 140737488351232 ∧ ∀ x ∈ xs, wf x) := by
  intro H enc w held fuel cs x hx hw
  rcases open_slice hu hx with ⟨rfl, rfl⟩ | ⟨a, len, cap, m, n, D, Pl, rfl, _, hl, hm, hmd, rfl, hel⟩
  · exact ⟨[], ⟨none, 0, rfl, Nat.le_refl 0, fun _ => rfl, fun h => absurd h (Nat.lt_irrefl 0), fun a ha => by cases ha⟩, by simp, by simp⟩
  · have hmc : m = cap := by rw [hmd]; rfl
    subst hmc
    have hwt : ∀ n ∈ DataW.weightsAll P e ((List.range len).map D), n ≤ reachBytes := by
      intro n hn
      have := List.all_eq_true.1 hw n (by simp only [DataW.weights, hu, List.mem_cons, List.mem_append]; exact .inr (.inl hn))
      exact of_decide_eq_true this
    have hb : len * P.bytesOf e ≤ 140737488351232 := by
      have z := List.all_eq_true.1 hw (((List.range len).map D).length * P.bytesOf e + ((List.range (m - len)).map fun j => D (len + j)).length * P.bytesOf e) (by simp only [DataW.weights, hu, List.mem_cons, Nat.add_mul]; exact Or.inl trivial)
      have z2 := of_decide_eq_true z
      simp only [List.length_map, List.length_range] at z2
      exact Nat.le_trans (Nat.le_add_right _ _) z2
    have each : ∀ i, i < len → ∃ (b : α) (cs' : List Value), w.cells? 0 (a.add (i * P.cellsOf e)) (P.cellsOf e) = some cs' ∧ d.K w b cs' ∧ wf b := by
      intro i hi
      obtain ⟨cs', hcs, htr⟩ := hel i (by omega)
      obtain ⟨b, hk, hwf⟩ := h H enc w held n cs' (D i, Pl i) htr (by
        rw [List.all_eq_true]
        intro n hn
        exact decide_eq_true (hwt n (weightsAll_mem _ (D i) (List.mem_map.2 ⟨i, List.mem_range.2 hi, rfl⟩) n hn)))
      exact ⟨b, cs', hcs, hk, hwf⟩
    have all : ∀ k, k ≤ len → ∃ xs : List α, xs.length = k ∧ ∀ i b, xs[i]? = some b → ∃ cs', w.cells? 0 (a.add (i * P.cellsOf e)) (P.cellsOf e) = some cs' ∧ d.K w b cs' ∧ wf b := by
      intro k
      induction k with
      | zero => intro _; exact ⟨[], rfl, fun i b h => by simp at h⟩
      | succ k ih =>
        intro hk
        obtain ⟨xs, hlen, hxs⟩ := ih (by omega)
        obtain ⟨b, cs', h1, h2, h3⟩ := each k (by omega)
        refine ⟨xs ++ [b], by simp [hlen], fun i c hc' => ?_⟩
        rcases Nat.lt_trichotomy i k with hi | hi | hi
        · rw [List.getElem?_append_left (by omega)] at hc'
          exact hxs i c hc'
        · subst hi
          rw [List.getElem?_append_right (by omega), hlen] at hc'
          simp at hc'
          subst hc'
          exact ⟨cs', h1, h2, h3⟩
        · rw [List.getElem?_eq_none (by simp; omega)] at hc'
          simp at hc'
    obtain ⟨xs, hlen, hxs⟩ := all len (Nat.le_refl _)
    refine ⟨xs, ⟨some a, m, by rw [hlen], by omega, fun e => (by cases e), fun hm0 => ?_, fun a' ha' j p hp => ?_⟩, by rw [hlen]; exact hb, fun b hb' => ?_⟩
    · obtain ⟨cs', h1, _⟩ := hel 0 hm0
      obtain ⟨_, h3, h4⟩ := World.cells?_some h1
      have h5 := h4 0 (by rw [hc]; exact d.pos)
      rw [Nat.zero_mul] at h5
      have h6 : (a.add 0).add 0 = a := by simp [Addr.add]
      rw [h6] at h5
      have h7 : cs'[0]? ≠ none := by
        rw [List.getElem?_eq_getElem (by rw [h3, hc]; exact d.pos)]
        simp
      unfold World.cell? at h5
      split at h5
      · rename_i C e' fz hh
        split at h5
        · exact absurd h5.symm h7
        · rename_i hsp
          refine ⟨a, rfl, ?_, C, e', fz, hh, ?_⟩
          · cases hs : a.spot with
            | none => rfl
            | some k => rw [hs] at hsp; simp at hsp
          · rcases Nat.lt_or_ge a.off C.size with h | h
            · omega
            · rw [Array.getElem?_eq_none h] at h5
              exact absurd h5.symm h7
      · exact absurd h5.symm h7
    · cases ha'
      obtain ⟨cs', h1, h2, _⟩ := hxs j p hp
      obtain ⟨_, h3, h4⟩ := World.cells?_some h1
      refine ⟨cs', h2, fun i u hu' => ?_⟩
      have hi : i < P.cellsOf e := by
        rcases Nat.lt_or_ge i (P.cellsOf e) with hi | hi
        · exact hi
        · rw [List.getElem?_eq_none (by omega)] at hu'; simp at hu'
      have h5 := h4 i hi
      rw [hu'] at h5
      rw [← hc]
      rw [add_add'] at h5
      exact h5
    · obtain ⟨i, hi⟩ := List.getElem?_of_mem hb'
      obtain ⟨_, _, _, h3⟩ := hxs i b hi
      exact h3
/-- A struct's fields in line, from cell 'off' on. -/
def FieldsOpen {α : Type} (P : Program) (fs : List Field) (off : Nat) (d : AKd α) (wf : α → Prop) : Prop :=
  ∀ (H : Type) (enc : TypeId × Value → H) (w : World) (held : Bool) (n : Nat) (cs : List Value) (xs : List (DataW H × List MemPlace)),
    xs.length = fs.length → (∀ (i : Nat) (f : Field), fs[i]? = some f → DataW.trod enc P w 0 (fun _ => true) held n f.type ((cs.drop f.offset).take (P.cellsOf f.type)) = xs[i]?) →
    (DataW.weightsEach P (fs.map (·.type)) (xs.map (·.1))).all (· ≤ reachBytes) = true → cs.length = off + d.sz → ∃ a, d.K w a (cs.drop off) ∧ wf a
theorem fields_one {α : Type} {P : Program} {f : Field} {off : Nat} {d : AKd α} {wf : α → Prop} (h : Opens P f.type d wf) (ho : f.offset = off) (hc : P.cellsOf f.type = d.sz) : FieldsOpen P [f] off d wf := by
  intro H enc w held n cs xs hl hf hw hcs
  match xs, hl with
  | [x], _ =>
    have h0 := hf 0 f rfl
    simp only [List.map_cons, List.map_nil, DataW.weightsEach, List.append_nil] at hw
    obtain ⟨a, hk, hwf⟩ := h H enc w held n _ x h0 hw
    rw [ho, hc, List.take_of_length_le (by rw [List.length_drop]; omega)] at hk
    exact ⟨a, hk, hwf⟩
theorem fields_cons {α β : Type} {P : Program} {f : Field} {fs : List Field} {off : Nat} {d : AKd α} {d1 : AKd β} {wf : α → Prop} {wf1 : β → Prop} (h : Opens P f.type d wf) (ho : f.offset = off) (hc : P.cellsOf f.type = d.sz)
    (h1 : FieldsOpen P fs (off + d.sz) d1 wf1) : FieldsOpen P (f :: fs) off (AKd.pair d d1) (fun p => wf p.1 ∧ wf1 p.2) := by
  intro H enc w held n cs xs hl hf hw hcs
  match xs, hl with
  | x :: xs, hl =>
    have h0 := hf 0 f rfl
    simp only [List.map_cons, DataW.weightsEach, List.all_append, Bool.and_eq_true] at hw
    obtain ⟨a, hk, hwf⟩ := h H enc w held n _ x h0 hw.1
    obtain ⟨b, hk1, hwf1⟩ := h1 H enc w held n cs xs (by simpa using hl) (fun i g hg => by simpa using hf (i + 1) g (by simpa using hg)) hw.2 (by rw [hcs]; show off + (d.sz + d1.sz) = _; omega)
    refine ⟨(a, b), ⟨_, _, ?_, hk, hk1⟩, hwf, hwf1⟩
    rw [ho, hc, ← List.drop_drop]
    exact (List.take_append_drop _ _).symm
theorem opens_struct {α : Type} {P : Program} {t : TypeId} {fs : Array Field} {d : AKd α} {wf : α → Prop} (hu : P.underlying t = some (.struct fs)) (hc : P.cellsOf t = d.sz) (h : FieldsOpen P fs.toList 0 d wf) : Opens P t d wf := by
  intro H enc w held fuel cs x hx hw
  obtain ⟨xs, n, _, rfl, hl, hlen, hf⟩ := DataW.trod_struct hu hx
  simp only [DataW.weights, hu] at hw
  obtain ⟨a, hk, hwf⟩ := h H enc w held n cs xs (by simpa using hlen) (fun i f hfi => hf i f (by simpa using hfi)) hw (by rw [hl, hc]; omega)
  exact ⟨a, by simpa using hk, hwf⟩
theorem opens_array2 {α : Type} {P : Program} {t e : TypeId} {d : AKd α} {wf : α → Prop} (hu : P.underlying t = some (.array 2 e)) (hc : P.cellsOf t = 2 * d.sz) (he : P.cellsOf e = d.sz) (h : Opens P e d wf) :
    Opens P t (AKd.pair d d) (fun p => wf p.1 ∧ wf p.2) := by
  intro H enc w held fuel cs x hx hw
  obtain ⟨xs, m, _, rfl, hl, hlen, hf⟩ := DataW.trod_array hu hx
  simp only [DataW.weights, hu] at hw
  match xs, hlen with
  | [x0, x1], _ =>
    simp only [List.map_cons, List.map_nil, DataW.weightsAll, List.append_nil, List.all_append, Bool.and_eq_true] at hw
    have f0 := hf 0 (by omega)
    have f1 := hf 1 (by omega)
    obtain ⟨a, hk, hwf⟩ := h H enc w held m _ x0 f0 hw.1
    obtain ⟨b, hk1, hwf1⟩ := h H enc w held m _ x1 f1 hw.2
    refine ⟨(a, b), ⟨_, _, ?_, hk, hk1⟩, hwf, hwf1⟩
    rw [he] at *
    simp only [Nat.zero_mul, Nat.one_mul, List.drop_zero]
    rw [List.take_of_length_le (i := d.sz) (l := List.drop d.sz cs) (by rw [List.length_drop, hl, hc]; omega)]
    exact (List.take_append_drop _ _).symm
/-- A whole argument. -/
theorem arg_kd {α : Type} {P : Program} {t : TypeId} {d : AKd α} {wf : α → Prop} (h : Opens P t d wf) {H : Type} {enc : TypeId × Value → H} {W : World} {v : Value} {x : DataW H} {ps : List MemPlace} {ts : List TypeId} {ds : List (DataW H)} {j : Nat}
    (hsz : (DataW.weightsEach P ts ds).all (· ≤ reachBytes) = true) (ht : ts[j]? = some t) (hd : ds[j]? = some x) (hr : DataW.Trod enc P W 0 (fun _ => true) true t v x ps) : ∃ a, d.K W a v.cells.toList ∧ wf a := by
  obtain ⟨fuel, hf⟩ := hr
  exact h H enc W _ fuel _ (x, ps) hf (by
    rw [List.all_eq_true]
    intro n hn
    exact List.all_eq_true.1 hsz n (DataW.weights_mem_each ht hd n hn))
theorem agg_of' {P : Program} {W : World} {b : Nat} {t : TypeId} {v : Value} {fs : Array Field} (hu : P.underlying t = some (.struct fs)) (h : Value.okWide P W .any b t v) : ∃ cs : Array Value, v = .agg cs := by
  obtain ⟨cs, rfl, _⟩ := okWide_struct hu h
  exact ⟨cs, rfl⟩
theorem agg_of_array {P : Program} {W : World} {b : Nat} {t : TypeId} {v : Value} {n : Nat} {e : TypeId} (hu : P.underlying t = some (.array n e)) (h : Value.okWide P W .any b t v) : ∃ cs : Array Value, v = .agg cs := by
  simp only [Value.okWide, hu] at h
  obtain ⟨cs, h1, _⟩ := h
  exact ⟨cs, h1⟩
/-- One argument more, of a struct or an array. -/
theorem arg_agg {α : Type} {d : AKd α} {W : World} {γ : Gam} {h : Hp} {a : α} {cs : Array Value} (s : Sim W.heap.size W γ h W) (hk : d.K W a (Value.agg cs).cells.toList) :
    ∃ γ' h' cs', Sim W.heap.size W γ' h' W ∧ Sub γ γ' ∧ Ex h h' ∧ d.A h' a cs' ∧ VRel γ' (.agg cs'.toArray) (.agg cs) := by
  obtain ⟨γ', h', cs', s', u, x, ha, r⟩ := d.build s hk
  exact ⟨γ', h', cs', s', u, x, ha, by have := VRel.agg_of r; rw [show (Value.agg cs).cells = cs from rfl] at this; simpa using this⟩
/-- One argument more, of one cell. -/
theorem arg_one {α : Type} {d : AKd α} {W : World} {γ : Gam} {h : Hp} {a : α} {v : Value} (s : Sim W.heap.size W γ h W) (hs : d.sz = 1) (hv : v.cells.toList = [v]) (hk : d.K W a v.cells.toList) :
    ∃ γ' h' u, Sim W.heap.size W γ' h' W ∧ Sub γ γ' ∧ Ex h h' ∧ d.A h' a [u] ∧ VRel γ' u v := by
  rw [hv] at hk
  obtain ⟨γ', h', cs', s', u, x, ha, r⟩ := d.build s hk
  obtain ⟨u', rfl⟩ : ∃ u', cs' = [u'] := by
    have := d.alen ha
    rw [hs] at this
    match cs', this with
    | [u'], _ => exact ⟨u', rfl⟩
  exact ⟨γ', h', u', s', u, x, ha, r.2 0 (by simp) (by simp)⟩
/-- A slice of numbers. -/
theorem AKd.ints {k : IntKind} {h : Hp} {xs : List Int} {u : Value} (ha : (AKd.slice (AKd.int k)).A h xs [u]) : ∃ oa c, u = .slice oa xs.length c ∧ Rd h 1 oa xs.length (xs.map (Value.int k)) := by
  obtain ⟨oa, c, r, e, h1, h2, _⟩ := ha
  cases e
  rw [AKd.Row.int h2] at h1
  exact ⟨oa, c, rfl, h1⟩
theorem AKd.intsC {k : IntKind} {h : Hp} {xs : List Int} {u : Value} (ha : (AKd.slice (AKd.int k)).A h xs [u]) : ∃ oa c, u = .slice oa xs.length c ∧ Rd h 1 oa xs.length (xs.map (Value.int k)) ∧ xs.length ≤ c := by
  obtain ⟨oa, c, r, e, h1, h2, hc⟩ := ha
  cases e
  rw [AKd.Row.int h2] at h1
  exact ⟨oa, c, rfl, h1, hc⟩
end Go.Proofs.Ytbfbgkhlngkifaa.Am
