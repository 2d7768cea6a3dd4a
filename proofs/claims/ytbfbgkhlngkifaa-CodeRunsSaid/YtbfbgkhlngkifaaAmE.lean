/- The abstract steps, sound in the world (more). Plain theorems.
   Conditions: none. -/
import Derived.Test.YtbfbgkhlngkifaaAmD
import Derived.Great.BuildSlice
namespace Go.Proofs.Ytbfbgkhlngkifaa.Am
open Go Go.RowKit
set_option linter.unusedVariables false
set_option linter.unusedSimpArgs false

section
variable {P : Program} {n base : Nat} {w0 : World} {γ : Gam} {h : Hp} {w : World} {t : Tm} {a : Act} {K : Option Value → Hp → Prop} {o : Oper}

/-- A pointer's place in the world. -/
theorem ptr_of {x : Operand} {b i : Nat} (rv : VRel γ (.pointer (some ⟨b, i, none⟩)) (a.eval x)) : ∃ c σ E, γ b = some (c, σ, E) ∧ a.eval x = .pointer (some ⟨c, i + σ, none⟩) := by
  generalize a.eval x = v at rv ⊢
  cases rv with
  | ptr hg => exact ⟨_, _, _, hg, rfl⟩

theorem run_isAgg_true {ty : TypeId} {d : TypeDesc} (hd : P.underlying ty = some d) {b : Bool} (hagg : aggD d = b) (w : World) : (isAgg ty).run P w = .ok b w := by
  unfold isAgg
  rw [Sem.run_bind, run_underlying hd]
  simp only [Result.andThen_ok]
  cases d <;> simp_all [aggD]
theorem run_size {ty : TypeId} {i : TypeInfo} (hi : P.info? ty = some i) (w : World) : (sizeOf ty).run P w = .ok i.size w := by simp [sizeOf, typeInfo, hi]

theorem rdN_of {b i z : Nat} {cs : List Value} (hr : h.rdN b i z = some cs) : ∃ ob, h.get b = some ob ∧ i + z ≤ ob.cs.length ∧ cs = (ob.cs.drop i).take z := by
  unfold Hp.rdN at hr
  split at hr
  · rename_i ob hob
    split at hr
    · rename_i hz
      cases hr
      exact ⟨ob, hob, hz, rfl⟩
    · cases hr
  · cases hr

theorem s_ldN (r : TRel γ n t a) (s : Sim base w0 γ h w) {m z : Nat} {x : Operand} {ty : TypeId} {d : TypeDesc} {ti : TypeInfo} (ho : o.op = .load ty x) (hx : okO m x = true)
    (hd : P.underlying ty = some d) (hagg : aggD d = true) (hi : P.info? ty = some ti) (hz : ti.size = z)
    (hs : (AK.ldN z x).step t h K) : Got P base w0 γ w ((execOp a.eval o).run P w) K := by
  simp only [AK.step] at hs
  split at hs
  · rename_i b i hv
    obtain ⟨cs, hrd, hk⟩ := hs
    obtain ⟨c, σ, E, hg, hax⟩ := ptr_of (r.ev hx hv)
    obtain ⟨ob, hget, hle, rfl⟩ := rdN_of hrd
    obtain ⟨C, e, lo, hi', l⟩ := s.at hg hget
    obtain ⟨ys, hrel, _, _, hrun⟩ := l.run (P := P) hle
    refine Got.pure s hk ?_ (VRel.agg_of hrel)
    simp [execOp, ho, hax, Instr.loadAt, Instr.sureAddr, loadVar, Sem.run_bind, run_isAgg_true hd hagg, run_size hi, hz, hrun]
  · exact hs.elim

theorem s_alloc (r : TRel γ n t a) (s : Sim base w0 γ h w) {zl : List Value} {ty : TypeId} {ti : TypeInfo} {z : Value} (ho : o.op = .alloc ty) (hi : P.info? ty = some ti) (hz : ti.zero = some z)
    (hzl : cellsOf z = zl) (hp : zl.all plainV = true) (hs : (AK.alloc zl).step t h K) : Got P base w0 γ w ((execOp a.eval o).run P w) K := by
  simp only [AK.step] at hs
  have hrel : LRel γ zl zl := ⟨rfl, fun i hi _ => plainV_rel (List.all_eq_true.1 hp _ (List.getElem_mem hi))⟩
  obtain ⟨s', hsub⟩ := s.alloc ty hrel (fun v hv => plainV_cell (List.all_eq_true.1 hp v hv))
  refine ⟨_, _, _, _, _, hs, hsub, Fr.new (by simp) (fun k hk => Below.heap_alloc _ _ _ hk) (s.top _ (Nat.le_refl _)).1, s', ?_, .inr ⟨.pointer (some ⟨w.heap.size, 0, none⟩), rfl, fun u hu => ?_⟩⟩
  · have hc : z.cells.toList = zl := by rw [cellsOf_eq, hzl]
    have hc' : z.cells = zl.toArray := by rw [← hc]
    simp [execOp, ho, Instr.alloc, zeroValue, typeInfo, hi, hz, newVar, newRow, hc']
  · cases hu
    exact VRel.ptr (off := 0) Gam.add_self

/-! ### composite values -/
theorem foldl_zip (cs : List Value) : ∀ (off j : Nat) (C : Array Value), off + j + cs.length ≤ C.size →
    ((cs.zipIdx j).foldl (fun acc x => acc.setIfInBounds (off + x.2) x.1) C).toList = spl C.toList (off + j) cs := by
  induction cs with
  | nil => intro off j C _; simp [spl_nil]
  | cons c cs ih =>
    intro off j C hl
    have hl' : off + j + (cs.length + 1) ≤ C.size := by simpa using hl
    simp only [List.zipIdx_cons, List.foldl_cons]
    rw [ih off (j + 1) (C.setIfInBounds (off + j) c) (by simp; omega)]
    apply List.ext_getElem?
    intro k
    rw [spl_get (by simp; omega), spl_get (by simp; omega)]
    simp only [Array.toList_setIfInBounds, List.getElem?_set, List.length_cons, Array.length_toList]
    by_cases h1 : k = off + j
    · subst h1
      rw [if_neg (by omega), if_pos rfl, if_pos (by omega), if_pos ⟨by omega, by omega⟩]
      simp
    · by_cases h2 : off + (j + 1) ≤ k ∧ k < off + (j + 1) + cs.length
      · rw [if_pos h2, if_pos ⟨by omega, by omega⟩]
        have : k - (off + j) = (k - (off + (j + 1))) + 1 := by omega
        rw [this, List.getElem?_cons_succ]
      · rw [if_neg h2, if_neg (by omega), if_neg (by omega)]

theorem LRel.spl {xs ys us vs : List Value} (hx : LRel γ xs ys) (hu : LRel γ us vs) (i : Nat) : LRel γ (Am.spl xs i us) (Am.spl ys i vs) := by
  unfold Am.spl
  rw [hu.1]
  exact ((hx.take i).append hu).append (hx.drop _)

def Fits (place : Nat → Option (Nat × Nat)) (ps : List (Nat × Operand)) (qs : List (Nat × Nat × Operand)) : Prop :=
  ps.map (fun (p : Nat × Operand) => (place p.1, p.2)) = qs.map (fun (q : Nat × Nat × Operand) => (some (q.1, q.2.1), q.2.2))
theorem fill_rel (r : TRel γ n t a) {m : Nat} (place : Nat → Option (Nat × Nat)) : ∀ (ps : List (Nat × Operand)) (qs : List (Nat × Nat × Operand)) (cs cs' : List Value) (C : Array Value),
    (ps.all fun p => okO m p.2) = true → Fits place ps qs →
    fillA t cs qs = some cs' → LRel γ cs C.toList → ∃ C', Instr.fill place C (ps.map fun p => (p.1, a.eval p.2)) = some C' ∧ LRel γ cs' C'.toList
  | [], qs, cs, cs', C, _, hq, hf, hr => by
    have : qs = [] := by
      cases qs with
      | nil => rfl
      | cons q qs => simp [Fits] at hq
    subst this
    simp only [fillA] at hf
    cases hf
    exact ⟨C, by simp [Instr.fill], hr⟩
  | (i, x) :: ps, qs, cs, cs', C, hok, hq, hf, hr => by
    cases qs with
    | nil => simp [Fits] at hq
    | cons q qs =>
      obtain ⟨off, size, x'⟩ := q
      simp only [Fits, List.map_cons, List.cons.injEq, Prod.mk.injEq] at hq
      obtain ⟨⟨hpl, rfl⟩, hq'⟩ := hq
      simp only [List.all_cons, Bool.and_eq_true] at hok
      simp only [fillA] at hf
      cases hv : ev t x with
      | none => rw [hv] at hf; cases hf
      | some v =>
        rw [hv] at hf
        simp only at hf
        split at hf
        · rename_i h1 h2 h3
          have h2' := Nat.eq_of_beq_eq_true h2
          have h3' := Nat.le_of_ble_eq_true h3
          have hvr := (r.ev hok.1 hv).cells
          have hlen : (a.eval x).cells.size = size := by rw [← Array.length_toList, cellsOf_eq, ← hvr.1, h2']
          have hC : off + size ≤ C.size := by have := hr.1; simp at this; omega
          obtain ⟨C', hf', hr'⟩ := fill_rel r place ps qs _ _ ((a.eval x).cells.toList.zipIdx.foldl (fun acc y => acc.setIfInBounds (off + y.2) y.1) C) hok.2 hq' hf (by
            rw [foldl_zip _ off 0 C (by rw [Array.length_toList, hlen]; omega), Nat.add_zero, cellsOf_eq]
            exact LRel.spl hr hvr off)
          refine ⟨C', ?_, hr'⟩
          simp only [List.map_cons, Instr.fill, hpl]
          rw [if_neg (by simp [hlen]; omega)]
          rw [← hf']
          congr 1
          rw [← Array.foldl_toList, Array.toList_zipIdx]
        · cases hf

theorem s_build (r : TRel γ n t a) {m : Nat} {ty : TypeId} {ti : TypeInfo} {z : Value} {zl : List Value} {ps : Array (Nat × Operand)} {qs : List (Nat × Nat × Operand)} {place : Nat → Option (Nat × Nat)}
    (ho : o.op = .build ty ps) (hok : (ps.toList.all fun p => okO m p.2) = true) (hi : P.info? ty = some ti) (hz : ti.zero = some z) (hzl : cellsOf z = zl) (hp : zl.all plainV = true)
    (hpl : ∀ parts, P.built ty parts = Instr.fill place z.cells parts) (hq : Fits place ps.toList qs)
    (hs : (AK.build zl qs).step t h K) : PG P γ o a h K := by
  simp only [AK.step] at hs
  split at hs
  · rename_i cs hf
    have hrel : LRel γ zl z.cells.toList := by rw [cellsOf_eq, hzl]; exact ⟨rfl, fun i hi _ => plainV_rel (List.all_eq_true.1 hp _ (List.getElem_mem hi))⟩
    obtain ⟨C', hC, hr'⟩ := fill_rel r place ps.toList qs zl cs z.cells hok hq hf hrel
    refine PG.of hs (fun w => ?_) (by have := VRel.agg_of hr'; simpa using this)
    simp only [execOp, ho, Sem.run_bind]
    rw [run_build w ty _ C' (by rw [hpl]; simpa using hC)]
    simp
  · exact hs.elim

theorem s_bslice (r : TRel γ n t a) (s : Sim base w0 γ h w) {m len : Nat} {ty e : TypeId} {ie : TypeInfo} {z : Value} {zl : List Value} {ps : Array (Nat × Operand)} {qs : List (Nat × Nat × Operand)}
    (ho : o.op = .buildSlice ty len ps) (hok : (ps.toList.all fun p => okO m p.2) = true) (hu : P.underlying ty = some (.slice e)) (hie : P.info? e = some ie) (hz : ie.zero = some z) (hsmall : ¬ len * ie.size > 2 ^ 24) (hpos : ¬ len * ie.size = 0)
    (hzl : ((Array.range (len * ie.size)).map (z.cells[· % z.cells.size]!)).toList = zl) (hp : zl.all plainV = true) (hok1 : ∀ cs, fillA t zl qs = some cs → ∀ v ∈ cs, cell1 v = true)
    (hq : Fits (fun i => some (i * ie.size, ie.size)) ps.toList qs)
    (hs : (AK.bslice zl len qs).step t h K) : Got P base w0 γ w ((execOp a.eval o).run P w) K := by
  simp only [AK.step] at hs
  split at hs
  · rename_i cs hf
    have hrel : LRel γ zl ((Array.range (len * ie.size)).map (z.cells[· % z.cells.size]!)).toList := by rw [hzl]; exact ⟨rfl, fun i hi _ => plainV_rel (List.all_eq_true.1 hp _ (List.getElem_mem hi))⟩
    obtain ⟨C', hC, hr'⟩ := fill_rel r (fun i => some (i * ie.size, ie.size)) ps.toList qs zl cs _ hok hq hf hrel
    obtain ⟨s', hsub⟩ := s.alloc e hr' (hok1 cs hf)
    refine ⟨_, _, _, _, _, hs, hsub, Fr.new (by simp) (fun k hk => Below.heap_alloc _ _ _ hk) (s.top _ (Nat.le_refl _)).1, s', ?_, .inr ⟨.slice (some ⟨w.heap.size, 0, none⟩) len len, rfl, fun u hu => ?_⟩⟩
    · simp only [execOp, ho, Sem.run_bind]
      rw [run_buildSlice w ty e len _ C' ie z hu hie hz hsmall hpos (by simpa using hC)]
      simp
    · cases hu
      exact VRel.slice (off := 0) Gam.add_self
  · exact hs.elim

theorem s_bslice0 (r : TRel γ n t a) (s : Sim base w0 γ h w) {ty e : TypeId} {ie : TypeInfo} {ps : Array (Nat × Operand)} (hps : ps.toList = [])
    (ho : o.op = .buildSlice ty 0 ps) (hu : P.underlying ty = some (.slice e)) (hie : P.info? e = some ie)
    (hs : (AK.bslice [] 0 []).step t h K) : Got P base w0 γ w ((execOp a.eval o).run P w) K := by
  simp only [AK.step, fillA] at hs
  have e0 : ps = #[] := by apply Array.ext'; simpa using hps
  obtain ⟨s', hsub⟩ := s.alloc e (cs := []) (cs' := []) (by exact LRel.nil) (fun v hv => by cases hv)
  refine ⟨_, _, _, _, _, hs, hsub, Fr.new (by simp) (fun k hk => Below.heap_alloc _ _ _ hk) (s.top _ (Nat.le_refl _)).1, s', ?_, .inr ⟨.slice (some ⟨w.heap.size, 0, none⟩) 0 0, rfl, fun u hu => ?_⟩⟩
  · have e2 : ∀ (n : Nat) (f : Fin n → Value), n = 0 → Array.ofFn f = #[] := fun n f h => by subst h; simp
    have e1 : (Instr.buildSlice ty 0 #[]).run P w = .ok (.slice (some ⟨w.heap.size, 0, none⟩) 0 0) (w.alloc (.cells #[] e)) := by simp [Instr.buildSlice, run_underlying hu, sizeOf, typeInfo, hie, newRow, Instr.fill, Array.range]; exact congrArg (fun x => w.alloc (Obj.cells x e)) (e2 _ _ (by simp))
    subst e0
    simp only [execOp, ho, Sem.run_bind]
    rw [show (Array.map (fun x : Nat × Operand => (x.fst, a.eval x.snd)) #[]) = #[] by simp, e1]
    rfl
  · cases hu
    exact VRel.slice (off := 0) Gam.add_self

theorem fillA_cell : ∀ (qs : List (Nat × Nat × Operand)) (cs cs' : List Value), fillA t cs qs = some cs' → (∀ v ∈ cs, cell1 v = true) → ∀ v ∈ cs', cell1 v = true
  | [], cs, cs', h, h1 => by simp only [fillA] at h; cases h; exact h1
  | (off, size, x) :: qs, cs, cs', h, h1 => by
    simp only [fillA] at h
    split at h
    · rename_i v hv
      split at h
      · rename_i a1 a2 a3
        refine fillA_cell qs _ cs' h fun u hu => ?_
        simp only [spl, List.mem_append] at hu
        rcases hu with (hu | hu) | hu
        · exact h1 u (List.mem_of_mem_take hu)
        · exact okStore_cells a1 u hu
        · exact h1 u (List.mem_of_mem_drop hu)
      · cases h
    · cases h

/-! ### a store -/
theorem s_st (r : TRel γ n t a) (s : Sim base w0 γ h w) {m z : Nat} {x y : Operand} {ty : TypeId} {ti : TypeInfo} (ho : o.op = .store ty x y) (hx : okO m x = true) (hy : okO m y = true) (hi : P.info? ty = some ti) (hz : ti.size = z)
    (hs : (AK.st z x y).step t h K) : Got P base w0 γ w ((execOp a.eval o).run P w) K := by
  simp only [AK.step] at hs
  split at hs
  · rename_i b i v hv hw
    obtain ⟨ob, hget, hmd, hst, hlen, hfit, hk⟩ := hs
    obtain ⟨c, σ, E, hg, hax⟩ := ptr_of (r.ev hx hv)
    obtain ⟨C, e, lo, hi', l⟩ := s.at hg hget
    have rv := r.ev hy hw
    have hcs := rv.cells
    have hC : σ + ob.cs.length ≤ C.size := Nat.le_trans (Nat.le_add_right _ _) l.size
    have hcell : ∀ u ∈ cellsOf (a.eval y), cell1 u = true := fun u hu => by
      obtain ⟨j, hj, rfl⟩ := List.getElem_of_mem hu
      have hj' : j < (cellsOf v).length := by rw [hcs.1]; exact hj
      rw [(hcs.2 j hj' hj).cell1]
      exact okStore_cells hst _ (List.getElem_mem hj')
    obtain ⟨w', C', hrun, hu, hsz, hgt⟩ := run_storeN (P := P) (cellsOf (a.eval y)) (i + σ) 0 C w l.heap (l.own hmd).2 (by rw [← hcs.1, hlen]; omega) hcell
    have s' := s.put hget hmd hg l hu hsz (cs := spl ob.cs i (cellsOf v)) (by rw [spl_length (by omega)]) (fun j u hj => by
      rw [spl_get (by omega)] at hj
      rw [hgt]
      by_cases hc : i ≤ j ∧ j < i + (cellsOf v).length
      · rw [if_pos hc] at hj
        have hjm := List.mem_of_getElem? hj
        refine ⟨okStore_cells hst _ hjm, ?_⟩
        rw [if_pos (by rw [← hcs.1]; omega)]
        obtain ⟨u', h1, h2⟩ := hcs.get? hj
        exact ⟨u', by rw [show σ + j - (i + σ + 0) = j - i by omega]; exact h1, h2⟩
      · rw [if_neg hc] at hj
        rw [if_neg (by rw [← hcs.1]; omega)]
        exact l.cells j u hj)
    refine ⟨_, _, _, _, _, hk, Sub.refl _, Fr.upd hg hu, s', ?_, .inl ⟨rfl, rfl⟩⟩
    have hsize : (a.eval y).cells.size = ti.size := by rw [← Array.length_toList, cellsOf_eq, ← hcs.1, hlen, hz]
    simp [execOp, ho, hax, Instr.storeAt, Instr.sureAddr, storeVar, Sem.run_bind, run_size hi, hsize, cellsOf_eq, hrun]
  · exact hs.elim
end
end Go.Proofs.Ytbfbgkhlngkifaa.Am
