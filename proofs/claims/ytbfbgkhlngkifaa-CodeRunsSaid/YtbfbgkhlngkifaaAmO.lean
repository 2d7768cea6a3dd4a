/- A region whose order is drawn: one order for all. Plain theorems over the kit's laws on orders.
   Conditions: none. -/
import Derived.Test.YtbfbgkhlngkifaaAmN
import Derived.OrdersHeld
namespace Go.Proofs.Ytbfbgkhlngkifaa.Am
open Go Go.RowKit
set_option linter.unusedVariables false
set_option linter.unusedSimpArgs false

section
variable {P : Program} {ops : Array Oper} {Q : Exit → Act → World → Prop} {af : Nat → Nat → Bool}

/-- What is listed is closed under the edges. -/
def Closed (ops : Array Oper) (L : Array Bool) : Prop := ∀ j oj, ops[j]? = some oj → L.getD j false = true → ∀ e ∈ oj.after, Region.binds .any e = true → L.getD e.on false = true
theorem Closed.set {L : Array Bool} {i : Nat} (h : Closed ops L) (hi : i ∈ Region.ready .any ops L) : Closed ops (L.setIfInBounds i true) := by
  obtain ⟨_, oi, hoi, hall⟩ := mem_ready.1 hi
  intro j oj hj hl e he hb
  by_cases hij : i = j
  · subst hij
    have : oj = oi := Option.some.inj (hj.symm.trans hoi)
    subst this
    exact getD_set_true (hall e he hb)
  · rw [getD_set_ne false hij] at hl
    exact getD_set_true (h j oj hj hl e he hb)

/-- Whatever order is picked from here on; behind each operation what the loads that were taken ahead have read reads so still (but for those that wait for the load). -/
def wpT (P : Program) (ops : Array Oper) (Q : Exit → Act → World → Prop) (af : Nat → Nat → Bool) : Nat → List (Nat × (World → Prop)) → Array Bool → Act → World → Prop
  | 0, _, L, a, w => Region.ready .any ops L = [] ∧ Q .normal a w
  | f + 1, ps, L, a, w => (Region.ready .any ops L = [] → Q .normal a w) ∧
    ∀ j ∈ Region.ready .any ops L, wpOp P ops Q j (fun a' w' => (∀ p ∈ ps, af p.1 j = false → p.2 w') ∧ wpT P ops Q af f (ps.filter fun p => !af p.1 j) (L.setIfInBounds j true) a' w') a w

theorem wpAny_of_T : ∀ (f : Nat) (ps : List (Nat × (World → Prop))) (L : Array Bool) (a : Act) (w : World), wpT P ops Q af f ps L a w → wpAny P .any ops Q f L a w
  | 0, _, _, _, _, h => h
  | f + 1, ps, L, a, w, h => ⟨h.1, fun i hi => wpOp_mono (fun a' w' h' => wpAny_of_T f _ _ a' w' h'.2) (h.2 i hi)⟩

theorem wpT_sub : ∀ (f : Nat) (ps qs : List (Nat × (World → Prop))) (L : Array Bool) (a : Act) (w : World), (∀ p ∈ ps, p ∈ qs) → wpT P ops Q af f qs L a w → wpT P ops Q af f ps L a w
  | 0, _, _, _, _, _, _, h => h
  | f + 1, ps, qs, L, a, w, hs, h => ⟨h.1, fun j hj => wpOp_mono (fun a' w' h' => ⟨fun p hp => h'.1 p (hs p hp), wpT_sub f _ _ _ a' w' (fun p hp => by
      rw [List.mem_filter] at hp ⊢
      exact ⟨hs p hp.1, hp.2⟩) h'.2⟩) (h.2 j hj)⟩

theorem wpT_done {L : Array Bool} {a : Act} {w : World} {ps : List (Nat × (World → Prop))} (hr : Region.ready .any ops L = []) (h : Q .normal a w) : ∀ f, wpT P ops Q af f ps L a w
  | 0 => ⟨hr, h⟩
  | _ + 1 => ⟨fun _ => h, by rw [hr]; simp⟩

/-- What waits for i does not come up before i is listed. -/
def AfOk (ops : Array Oper) (af : Nat → Nat → Bool) : Prop := ∀ L i j, Closed ops L → j ∈ Region.ready .any ops L → af i j = true → L.getD i false = true

/-- A load (or what only computes) is taken first. -/
theorem wpT_first (haf : AfOk ops af) {S : World → Prop} {i : Nat} {oi : Oper} {v : Value} (hi : ops[i]? = some oi) (hsel : ∀ (j : Nat) (o : Oper) cs b, ops[j]? = some o → o.op ≠ .select cs b)
    (hQ : ∀ c a w, Q (.panic c) (a.put oi.dst v) w → Q (.panic c) a w) :
    ∀ (f : Nat) (ps : List (Nat × (World → Prop))) (L : Array Bool) (a : Act) (w : World),
      (∀ j oj, ops[j]? = some oj → j ≠ i → L.getD j true = false → (∀ e ∈ oj.after, Region.binds .any e = true → e.on ≠ i) → oi.apart ops oj = true) →
      Closed ops L → i ∈ Region.ready .any ops L → YieldsIf P ops S oi v a → S w → (∀ p ∈ ps, p.2 w) →
      wpT P ops Q af f ((i, S) :: ps) (L.setIfInBounds i true) (a.put oi.dst v) w → wpT P ops Q af (f + 1) ps L a w := by
  intro f
  induction f with
  | zero =>
    intro ps L a w _ _ hr hy hS hps H
    refine ⟨fun h => (by rw [h] at hr; cases hr), fun j hj => ?_⟩
    by_cases hji : j = i
    · subst hji
      exact hy.wpOp hi hS ⟨fun p hp _ => hps p hp, H⟩
    · have := ready_mono hj hji
      rw [H.1] at this
      cases this
  | succ f ih =>
    intro ps L a w hfree hc hr hy hS hps H
    refine ⟨fun h => (by rw [h] at hr; cases hr), fun j hj => ?_⟩
    by_cases hji : j = i
    · subst hji
      refine hy.wpOp hi hS ⟨fun p hp _ => hps p hp, wpT_sub _ _ _ _ _ _ (fun p hp => ?_) H⟩
      exact List.mem_cons_of_mem _ (List.mem_filter.1 hp).1
    · have h1 := H.2 j (ready_mono hj hji)
      obtain ⟨hjun, oj, hoj, hall⟩ := mem_ready.1 hj
      have hiun := (mem_ready.1 hr).1
      have hiun' : L.getD i false = false := by
        rcases Nat.lt_or_ge i L.size with h' | h'
        · simp [h'] at hiun ⊢; exact hiun
        · simp [Array.getElem?_eq_none h'] at hiun
      have hnot : ∀ e ∈ oj.after, Region.binds .any e = true → e.on ≠ i := fun e he hb heq => by
        have h1 := hall e he hb
        rw [heq, hiun'] at h1
        cases h1
      have hafij : af i j = false := by
        cases hb : af i j
        · rfl
        · have := haf L i j hc hj hb
          rw [hiun'] at this
          cases this
      have h2 := wpOp_putIf hoj (hfree j oj hoj hji hjun hnot) (fun cs b => hsel i oi cs b hi) (fun cs b => hsel j oj cs b hoj) hQ hy h1
      have hfree' : ∀ k ok, ops[k]? = some ok → k ≠ i → (L.setIfInBounds j true).getD k true = false →
          (∀ e ∈ ok.after, Region.binds .any e = true → e.on ≠ i) → oi.apart ops ok = true := fun k ok hk hki hun hno => by
        refine hfree k ok hk hki ?_ hno
        by_cases hjk : j = k
        · subst hjk; exact hjun
        · rw [getD_set_ne true hjk] at hun; exact hun
      refine wpOp_mono (fun a' w' h3 => ?_) h2
      obtain ⟨hy', hp', hT⟩ := h3
      refine ⟨fun p hp hpj => hp' p (List.mem_cons_of_mem _ hp) hpj, ?_⟩
      refine ih _ (L.setIfInBounds j true) a' w' hfree' (hc.set hj) (ready_mono hr (Ne.symm hji)) hy' (hp' (i, S) List.mem_cons_self hafij) (fun p hp => ?_) ?_
      · obtain ⟨hp1, hp2⟩ := List.mem_filter.1 hp
        exact hp' p (List.mem_cons_of_mem _ hp1) (by simpa using hp2)
      · rw [Array.setIfInBounds_comm _ _ hji]
        refine wpT_sub _ _ _ _ _ _ (fun p hp => ?_) hT
        rcases List.mem_cons.1 hp with rfl | hp
        · exact List.mem_filter.2 ⟨List.mem_cons_self, by simpa using hafij⟩
        · obtain ⟨hp1, hp2⟩ := List.mem_filter.1 hp
          exact List.mem_filter.2 ⟨List.mem_cons_of_mem _ hp1, hp2⟩
end

/-! ### which waits for which, by masks -/
def depsOf (o : Oper) : List Nat := o.after.toList.filterMap fun e => if Region.binds .any e then some e.on else none
def orAll : List Nat → Nat
  | [] => 0
  | x :: r => x ||| orAll r
/-- The mask of all that each operation waits for. -/
def maskStep (acc : List Nat) (ds : List Nat) : List Nat := acc ++ [orAll (ds.map fun d => 2 ^ d ||| acc.getD d 0)]
def masks (ds : List (List Nat)) : List Nat := ds.foldl maskStep []
theorem orAll_bit {i : Nat} : ∀ {l : List Nat}, (orAll l).testBit i = true → ∃ x ∈ l, x.testBit i = true
  | [], h => by simp [orAll] at h
  | x :: l, h => by
    simp only [orAll, Nat.testBit_or, Bool.or_eq_true] at h
    rcases h with h | h
    · exact ⟨x, by simp, h⟩
    · obtain ⟨y, hy, hb⟩ := orAll_bit h
      exact ⟨y, by simp [hy], hb⟩
theorem getD_app {α : Type} (a b : List α) (i : Nat) (d : α) (h : i < a.length) : (a ++ b).getD i d = a.getD i d := by
  simp [List.getD, List.getElem?_append_left h]
theorem masks_len : ∀ (ds : List (List Nat)) (acc : List Nat), (ds.foldl maskStep acc).length = acc.length + ds.length
  | [], acc => by simp
  | d :: ds, acc => by simp only [List.foldl_cons, masks_len ds, maskStep, List.length_append, List.length_cons, List.length_nil]; omega
/-- Each entry speaks of its own edges and of entries before it. -/
def MaskOk (D : List (List Nat)) (M : List Nat) : Prop := ∀ j i, j < M.length → (M.getD j 0).testBit i = true → ∃ d ∈ D.getD j [], i = d ∨ (d < j ∧ (M.getD d 0).testBit i = true)
theorem masks_ok : ∀ (ds D0 : List (List Nat)) (acc : List Nat), acc.length = D0.length → MaskOk D0 acc → MaskOk (D0 ++ ds) (ds.foldl maskStep acc)
  | [], D0, acc, hl, h => by simpa using h
  | d :: ds, D0, acc, hl, h => by
    have key : MaskOk (D0 ++ [d]) (maskStep acc d) := by
      intro j i hj hb
      simp only [maskStep, List.length_append, List.length_cons, List.length_nil] at hj
      by_cases hlt : j < acc.length
      · have e1 : (maskStep acc d).getD j 0 = acc.getD j 0 := by rw [maskStep, getD_app _ _ _ _ hlt]
        rw [e1] at hb
        obtain ⟨x, hx, hor⟩ := h j i hlt hb
        refine ⟨x, by rw [getD_app _ _ _ _ (hl ▸ hlt)]; exact hx, ?_⟩
        rcases hor with rfl | ⟨hxj, hxb⟩
        · exact .inl rfl
        · refine .inr ⟨hxj, ?_⟩
          have : (maskStep acc d).getD x 0 = acc.getD x 0 := by rw [maskStep, getD_app _ _ _ _ (show x < acc.length by omega)]
          rw [this]; exact hxb
      · have hje : j = acc.length := by omega
        subst hje
        have e1 : (maskStep acc d).getD acc.length 0 = orAll (d.map fun d => 2 ^ d ||| acc.getD d 0) := by simp [maskStep, List.getD]
        rw [e1] at hb
        obtain ⟨y, hy, hyb⟩ := orAll_bit hb
        obtain ⟨x, hx, rfl⟩ := List.mem_map.1 hy
        have e2 : (D0 ++ [d]).getD acc.length [] = d := by rw [hl]; simp [List.getD]
        refine ⟨x, by rw [e2]; exact hx, ?_⟩
        simp only [Nat.testBit_or, Bool.or_eq_true] at hyb
        rcases hyb with hyb | hyb
        · exact .inl (by simpa [Nat.testBit_two_pow, eq_comm] using hyb)
        · have hxl : x < acc.length := by
            rcases Nat.lt_or_ge x acc.length with h' | h'
            · exact h'
            · rw [show acc.getD x 0 = 0 by simp [List.getD, List.getElem?_eq_none h']] at hyb
              simp at hyb
          refine .inr ⟨hxl, ?_⟩
          have : (maskStep acc d).getD x 0 = acc.getD x 0 := by rw [maskStep, getD_app _ _ _ _ hxl]
          rw [this]; exact hyb
    have := masks_ok ds (D0 ++ [d]) (maskStep acc d) (by simp [maskStep, hl]) key
    simpa using this
def afOf (ops : Array Oper) : List Nat := masks (ops.toList.map depsOf)
theorem mem_depsOf {o : Oper} {d : Nat} : d ∈ depsOf o ↔ ∃ e ∈ o.after, Region.binds .any e = true ∧ e.on = d := by
  simp only [depsOf, List.mem_filterMap, Array.mem_toList_iff]
  constructor
  · rintro ⟨e, he, h⟩
    split at h
    · rename_i hb
      cases h
      exact ⟨e, he, hb, rfl⟩
    · cases h
  · rintro ⟨e, he, hb, rfl⟩
    exact ⟨e, he, by simp [hb]⟩
theorem afOk_masks (ops : Array Oper) : AfOk ops (fun i j => ((afOf ops).getD j 0).testBit i) := by
  have hm : MaskOk (ops.toList.map depsOf) (afOf ops) := by
    have := masks_ok (ops.toList.map depsOf) [] [] rfl (fun j i hj => by simp at hj)
    simpa [afOf, masks] using this
  have hlen : (afOf ops).length = ops.size := by
    have := masks_len (ops.toList.map depsOf) []
    simpa [afOf, masks] using this
  have hD : ∀ j o, ops[j]? = some o → (ops.toList.map depsOf).getD j [] = depsOf o := fun j o ho => by
    have : ops.toList[j]? = some o := by simpa using ho
    simp [List.getD, List.getElem?_map, this]
  intro L i j hc hj hb
  have key : ∀ n j, j < n → (∀ d ∈ (ops.toList.map depsOf).getD j [], L.getD d false = true) → ((afOf ops).getD j 0).testBit i = true → L.getD i false = true := by
    intro n
    induction n with
    | zero => intro j hj; omega
    | succ n ih =>
      intro j hj hall hb
      have hjl : j < (afOf ops).length := by
        rcases Nat.lt_or_ge j (afOf ops).length with h' | h'
        · exact h'
        · rw [show (afOf ops).getD j 0 = 0 by simp [List.getD, List.getElem?_eq_none h']] at hb
          simp at hb
      obtain ⟨d, hd, hor⟩ := hm j i hjl hb
      have hLd := hall d hd
      rcases hor with rfl | ⟨hdj, hdb⟩
      · exact hLd
      · refine ih d (by omega) (fun x hx => ?_) hdb
        have hds : d < ops.size := by
          rcases Nat.lt_or_ge d ops.size with h' | h'
          · exact h'
          · rw [show (afOf ops).getD d 0 = 0 by simp [List.getD, List.getElem?_eq_none (hlen ▸ h')]] at hdb
            simp at hdb
        have hod : ops[d]? = some ops[d] := Array.getElem?_eq_getElem hds
        rw [hD d _ hod] at hx
        obtain ⟨e, he, heb, rfl⟩ := mem_depsOf.1 hx
        exact hc d _ hod hLd e he heb
  obtain ⟨_, oj, hoj, hall⟩ := mem_ready.1 hj
  refine key (j + 1) j (Nat.lt_succ_self j) (fun d hd => ?_) hb
  rw [hD j oj hoj] at hd
  obtain ⟨e, he, heb, rfl⟩ := mem_depsOf.1 hd
  exact hall e he heb
end Go.Proofs.Ytbfbgkhlngkifaa.Am
