/- A region whose order is drawn: what is shown of one order holds of all. Plain theorems.
   Conditions: none. -/
import Derived.Test.YtbfbgkhlngkifaaAmP
import Derived.RegionTactic
namespace Go.Proofs.Ytbfbgkhlngkifaa.Am
open Go Go.RowKit
set_option linter.unusedVariables false
set_option linter.unusedSimpArgs false

def cnt (L : Array Bool) : Nat := L.toList.count false
theorem cnt_set {L : Array Bool} {i : Nat} (hi : i < L.size) (hf : L.getD i false = false) : cnt (L.setIfInBounds i true) + 1 = cnt L := by
  have h1 : L.toList[i]'(by simpa using hi) = false := by simpa [hi] using hf
  have hpos : 0 < L.toList.count false := List.count_pos_iff.2 (h1 ▸ List.getElem_mem _)
  unfold cnt
  rw [Array.toList_setIfInBounds, List.count_set (by simpa using hi), h1]
  have e1 : ((false == false) = true) := rfl
  have e2 : ¬ ((true == false) = true) := by decide
  rw [if_pos e1, if_neg e2]
  omega

/-- A block that is made whenever: what is known of it: its value, and its contents by what stands in the temporaries. -/
structure Flo (P : Program) (n : Nat) (ops : Array Oper) (f : Nat) (o : Oper) (ty : TypeId) (df : Nat) (R : Nat → Value) (C : Act → Option (Array Value)) : Prop where
  at_ : ops[f]? = some o
  dst : o.dst = some df
  lt : df < n
  guard : o.guard = none
  only : ∀ j oj, ops[j]? = some oj → j ≠ f → oj.dst ≠ some df
  run : ∀ (a : Act) (w : World) (C' : Array Value), C a = some C' → (execOp a.eval o).run P w = .ok (.value (R w.heap.size)) (w.alloc (.cells C' ty))
  loc : ∀ (a : Act) (j : Nat) (oj : Oper) (v : Value), ops[j]? = some oj → j ∉ depsOf o → C (a.put oj.dst v) = C a
  rdy : ∀ (γ : Gam) (t : Tm) (a : Act) (ao : AO), TRel γ n t a → cO P n ops o = some ao → prOk ao t → ∃ C', C a = some C'
  bs : isBs ops f = false → ∀ ao t, cO P n ops o = some ao → prOk ao t
  ado : ∀ (γ : Gam) (t : Tm) (a : Act) (ao : AO) (h : Hp) (K : Tm → Hp → Prop) (C' : Array Value), TRel γ n t a → cO P n ops o = some ao → ao.go P t h K → C a = some C' →
    ∃ (cs : List Value) (rv : Nat → Value), cs.length ≤ C'.size ∧ (∀ (i : Nat) (v : Value), cs[i]? = some v → cell1 v = true ∧ ∃ v', C'[i]? = some v' ∧ VRel γ v v') ∧ (∀ (γ' : Gam) (b c : Nat), γ' b = some (c, 0, 0) → VRel γ' (rv b) (R c)) ∧
      prOk ao t ∧ K (tput t (some df) (some (rv h.size))) (h.new ⟨cs, .own⟩)

section
variable {P : Program} {n base : Nat} {w0 : World} {ops : Array Oper} {Qc : Exit → Act → World → Prop} {K : Tm → Hp → Prop} {γs : Gam} {ws : World} {F : Nat}

/-- A float that has come up in the world, and not yet here. -/
structure Gb (P : Program) (n : Nat) (ops : Array Oper) (base : Nat) (ws : World) (γ : Gam) (w : World) (a : Act) (f c : Nat) : Prop where
  ge : ws.heap.size ≤ c
  lt : c < w.heap.size
  out : Out γ c
  what : ∃ o ty df R C C', Flo P n ops f o ty df R C ∧ C a = some C' ∧ w.heap[c]? = some (.cells C' ty (0, 0)) ∧ a.tmps[df]? = some (R c)

structure Inv (P : Program) (n base : Nat) (w0 : World) (ops : Array Oper) (K : Tm → Hp → Prop) (γs : Gam) (ws : World) (F : Nat) (fuel : Nat) (rest : List DO) (m : Nat) (S : List (Nat × Nat)) (L : Array Bool) (γ : Gam) (h : Hp) (w : World) (t : Tm) (a : Act)
    (ps : List Pd) (pC : List (Nat × (World → Prop))) : Prop where
  size : L.size = ops.size
  closed : Closed ops L
  mlt : ∀ i, m.testBit i = true → i < ops.size
  lis : ∀ i, i < ops.size → (L.getD i false = true ↔ m.testBit i = true ∨ ∃ c, (i, c) ∈ S)
  fuel : cnt L ≤ fuel
  sim : Sim base w0 γ h w
  sub : Sub γs γ
  fr : Fr γs ws γ w
  tr : TRel γ n t a
  wd : Wd P rest t h ps K
  chk : chkD ops (ops.toList.map dmask) ops.size F rest m = true
  comp : ∀ d ∈ rest, ∃ o, ops[d.i]? = some o ∧ cO P n ops o = some d.o ∧ kindOk d.kind d.o = true ∧ d.b = (afOf ops).getD d.i 0
  link : ∀ q ∈ pC, (∀ w, q.2 w) ∨ ∃ p ∈ ps, p.i = q.1 ∧ Link base w0 γ p q.2
  now : ∀ p ∈ ps, ldOk h p
  garb : ∀ f c, (f, c) ∈ S → F.testBit f = true ∧ m.testBit f = false ∧ Gb P n ops base ws γ w a f c
  inj : ∀ f c f' c', (f, c) ∈ S → (f', c') ∈ S → c = c' → f = f'
  unk : ∀ f o ty df R C, F.testBit f = true → Flo P n ops f o ty df R C → m.testBit f = false → tget t df = none

theorem tget_put_ne {t : Tm} {d : Option Nat} {v : Option Value} {i : Nat} (h : d ≠ some i) : tget (tput t d v) i = tget t i := by
  cases d with
  | none => rfl
  | some j =>
    have : Nat.beq i j = false := by
      cases hb : Nat.beq i j
      · rfl
      · exact absurd (congrArg some (Nat.eq_of_beq_eq_true hb).symm) h
    simp only [tput, tget, this]
theorem tmps_put_ne {a : Act} {d : Option Nat} {v : Value} {i : Nat} (h : d ≠ some i) : (a.put d v).tmps[i]? = a.tmps[i]? := by
  cases d with
  | none => rfl
  | some j => simp [Act.put, Array.getElem?_setIfInBounds_ne (show j ≠ i from fun e => h (by rw [e]))]
theorem TRel.put_unk {γ : Gam} {t : Tm} {a : Act} (r : TRel γ n t a) {d : Nat} (hd : tget t d = none) (v : Value) : TRel γ n t (a.put (some d) v) := by
  refine ⟨by simp [Act.put, r.size], r.defers, fun i u hu => ?_⟩
  have hne : d ≠ i := fun e => by subst e; rw [hd] at hu; cases hu
  obtain ⟨v', h1, h2⟩ := r.get i u hu
  exact ⟨v', by rw [tmps_put_ne (by simpa using hne)]; exact h1, h2⟩
theorem ldOk_new {h : Hp} {p : Pd} {base : Nat} {w0 : World} {γ : Gam} {w : World} (s : Sim base w0 γ h w) (o : Ob) (hp : ldOk h p) : ldOk (h.new o) p := by
  have key : ∀ b ob, h.get b = some ob → (h.new o).get b = some ob := fun b ob hb => by
    have : b ≠ h.size := fun e => by rw [e, (s.top _ (Nat.le_refl _)).2] at hb; cases hb
    simp [Hp.new, this, hb]
  unfold ldOk at hp ⊢
  split at hp
  · unfold Hp.rd at hp ⊢
    split at hp
    · rename_i ob hob; rw [key _ _ hob]; exact hp
    · cases hp
  · obtain ⟨cs, h1, h2⟩ := hp
    refine ⟨cs, ?_, h2⟩
    unfold Hp.rdN at h1 ⊢
    split at h1
    · rename_i ob hob; rw [key _ _ hob]; exact h1
    · cases h1
  · exact hp

/-- A float comes up in the world. -/
theorem Inv.float {fuel : Nat} {rest : List DO} {m : Nat} {S : List (Nat × Nat)} {L : Array Bool} {γ : Gam} {h : Hp} {w : World} {t : Tm} {a : Act} {ps : List Pd} {pC : List (Nat × (World → Prop))} {o : Oper} {ty : TypeId} {df : Nat} {R : Nat → Value} {C : Act → Option (Array Value)}
    (I : Inv P n base w0 ops K γs ws F (fuel + 1) rest m S L γ h w t a ps pC) {f : Nat} (fl : Flo P n ops f o ty df R C) {C' : Array Value} (hC : C a = some C') (hf : F.testBit f = true) (hr : f ∈ Region.ready .any ops L)
    (IH : ∀ S L w a pC, Inv P n base w0 ops K γs ws F fuel rest m S L γ h w t a ps pC → wpT P ops Qc (fun i j => ((afOf ops).getD j 0).testBit i) fuel pC L a w) :
    wpOp P ops Qc f (fun a' w' => (∀ p ∈ pC, ((afOf ops).getD f 0).testBit p.1 = false → p.2 w') ∧ wpT P ops Qc (fun i j => ((afOf ops).getD j 0).testBit i) fuel (pC.filter fun p => !((afOf ops).getD f 0).testBit p.1) (L.setIfInBounds f true) a' w') a w := by
  have hfs : f < ops.size := (Array.getElem?_eq_some_iff.1 fl.at_).1
  obtain ⟨hun, of, hof, hdeps⟩ := mem_ready.1 hr
  have hun' : L.getD f false = false := by simp [I.size, hfs] at hun ⊢; exact hun
  have hnm : m.testBit f = false := by
    cases hb : m.testBit f
    · rfl
    · have := (I.lis f hfs).2 (.inl hb); rw [hun'] at this; cases this
  have hns : ∀ c, (f, c) ∉ S := fun c hc => by have := (I.lis f hfs).2 (.inr ⟨c, hc⟩); rw [hun'] at this; cases this
  have hself : f ∉ depsOf o := fun hd => by
    obtain ⟨e, he, hb, hon⟩ := mem_depsOf.1 hd
    have hoo : of = o := Option.some.inj (hof.symm.trans fl.at_)
    subst hoo
    have := hdeps e he hb
    rw [hon, hun'] at this
    cases this
  have hunk := I.unk f o ty df R C hf fl hnm
  have sim' : Sim base w0 γ h (w.alloc (.cells C' ty)) := I.sim.garb _
  have hpt : ∀ q ∈ pC, q.2 (w.alloc (.cells C' ty)) := fun q hq => by
    rcases I.link q hq with h1 | ⟨p, hp, _, hl⟩
    · exact h1 _
    · exact hl γ h _ (Sub.refl _) sim' (I.now p hp)
  have hnew := heap_alloc_new w (.cells C' ty)
  refine wpOp_step fl.at_ fun K' hK' => ?_
  rw [if_pos (by simp [Region.wanted, fl.guard])]
  unfold Oper.wp
  rw [fl.run a w C' hC, Oper.upon_value]
  refine hK' _ _ ⟨fun q hq _ => hpt q hq, ?_⟩
  rw [fl.dst]
  refine IH ((f, w.heap.size) :: S) _ _ _ _ ?_
  have outNew : Out γ w.heap.size := fun b x σ E hg e => by have := I.sim.low b x σ E hg; omega
  exact {
    size := by simp [I.size]
    closed := I.closed.set hr
    mlt := I.mlt
    lis := fun i hi => by
      by_cases hif : f = i
      · subst hif
        refine ⟨fun _ => .inr ⟨w.heap.size, by simp⟩, fun _ => ?_⟩
        simp [I.size, hfs]
      · rw [getD_set_ne false hif, I.lis i hi]
        constructor
        · rintro (h1 | ⟨c, hc⟩)
          · exact .inl h1
          · exact .inr ⟨c, by simp [hc]⟩
        · rintro (h1 | ⟨c, hc⟩)
          · exact .inl h1
          · rcases List.mem_cons.1 hc with hc | hc
            · exact absurd (Prod.mk.inj hc).1.symm hif
            · exact .inr ⟨c, hc⟩
    fuel := by have := cnt_set (L := L) (i := f) (by rw [I.size]; exact hfs) hun'; have := I.fuel; omega
    sim := sim'
    sub := I.sub
    fr := I.fr.trans Fr.garb
    tr := I.tr.put_unk hunk _
    wd := I.wd
    chk := I.chk
    comp := I.comp
    link := fun q hq => I.link q (List.mem_filter.1 hq).1
    now := I.now
    garb := fun f' c hc => by
      rcases List.mem_cons.1 hc with hc | hc
      · obtain ⟨rfl, rfl⟩ := Prod.mk.inj hc
        exact ⟨hf, hnm, ⟨I.fr.1, by simp, outNew, o, ty, df, R, C, C', fl, by have := fl.loc a _ o (R w.heap.size) fl.at_ hself; rw [fl.dst] at this; rw [this]; exact hC, hnew, by simp [Act.put, Array.getElem?_setIfInBounds_self_of_lt (show df < a.tmps.size by rw [I.tr.size]; exact fl.lt)]⟩⟩
      · obtain ⟨h1, h2, g⟩ := I.garb f' c hc
        obtain ⟨o', ty', df', R', C1, C1', fl', hc1, hh, ht⟩ := g.what
        have hff : f' ≠ f := fun e => hns c (e ▸ hc)
        refine ⟨h1, h2, ⟨g.ge, by have := g.lt; simp; omega, g.out, o', ty', df', R', C1, C1', fl', ?_, (Below.heap_alloc w _ c g.lt).trans hh, ?_⟩⟩
        · have hnd : f ∉ depsOf o' := fun hd => by
            obtain ⟨e, he, hb, hon⟩ := mem_depsOf.1 hd
            have hl := (I.lis f' (Array.getElem?_eq_some_iff.1 fl'.at_).1).2 (.inr ⟨c, hc⟩)
            have := I.closed f' o' fl'.at_ hl e he hb
            rw [hon, hun'] at this
            cases this
          have := fl'.loc a f o (R w.heap.size) fl.at_ hnd
          rw [fl.dst] at this
          rw [this]
          exact hc1
        rw [tmps_put_ne (fun e => fl'.only f o fl.at_ (Ne.symm hff) (by rw [fl.dst]; exact e))]
        exact ht
    inj := fun f1 c1 f2 c2 h1 h2 hc => by
      rcases List.mem_cons.1 h1 with h1 | h1 <;> rcases List.mem_cons.1 h2 with h2 | h2
      · rw [(Prod.mk.inj h1).1, (Prod.mk.inj h2).1]
      · have e1 := (Prod.mk.inj h1).2
        have := (I.garb f2 c2 h2).2.2.lt
        omega
      · have e1 := (Prod.mk.inj h2).2
        have := (I.garb f1 c1 h1).2.2.lt
        omega
      · exact I.inj f1 c1 f2 c2 h1 h2 hc
    unk := I.unk }
end
end Go.Proofs.Ytbfbgkhlngkifaa.Am
