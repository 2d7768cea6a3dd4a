/- A region whose order is drawn: what is shown of one order holds of all (the proof). Plain theorems.
   Conditions: none. -/
import Derived.Test.YtbfbgkhlngkifaaAmQ
namespace Go.Proofs.Ytbfbgkhlngkifaa.Am
open Go Go.RowKit
set_option linter.unusedVariables false
set_option linter.unusedSimpArgs false

section
variable {P : Program} {n base : Nat} {w0 : World} {ops : Array Oper} {Qc : Exit → Act → World → Prop} {K : Tm → Hp → Prop} {γs : Gam} {ws : World} {F : Nat}

theorem alloc_step {k : AK} {t : Tm} {h : Hp} {K : Option Value → Hp → Prop} (ha : k.isAlloc = true) (hs : k.step t h K) : ∃ rv o, K rv (h.new o) := by
  cases k <;> simp only [AK.isAlloc, Bool.false_eq_true] at ha <;> simp only [AK.step] at hs
  case box x => split at hs <;> first | exact ⟨_, _, hs.2⟩ | exact hs.elim
  case alloc z => exact ⟨_, _, hs⟩
  case bslice z m ps => split at hs <;> first | exact ⟨_, _, hs⟩ | exact hs.elim
  case mks z b l c => split at hs <;> first | exact ⟨_, _, hs.2⟩ | exact hs.elim
  case sob x => split at hs <;> first | exact ⟨_, _, hs⟩ | exact hs.elim

/-- What holds of a heap with a new block, or of the heap itself, may be asked behind a step that makes one. -/
theorem alloc_go {ao : AO} {t : Tm} {h : Hp} {K : Tm → Hp → Prop} (ha : ao.k.isAlloc = true) (hg : ao.go P t h K) : ao.go P t h fun t' h' => K t' h' ∧ (h' = h ∨ ∃ o, h' = h.new o) := by
  have runIt : ao.run P t h K → ao.run P t h fun t' h' => K t' h' ∧ (h' = h ∨ ∃ o, h' = h.new o) := fun hr => by
    unfold AO.run at hr ⊢
    cases hk : ao.k <;> rw [hk] at ha hr <;> simp only [AK.isAlloc, Bool.false_eq_true] at ha <;> simp only [AK.step] at hr ⊢
    case box x => split at hr <;> first | exact ⟨hr.1, hr.2, .inr ⟨_, rfl⟩⟩ | exact hr.elim
    case alloc z => exact ⟨hr, .inr ⟨_, rfl⟩⟩
    case bslice z m ps => split at hr <;> first | exact ⟨hr, .inr ⟨_, rfl⟩⟩ | exact hr.elim
    case mks z b l c => split at hr <;> first | exact ⟨hr.1, hr.2, .inr ⟨_, rfl⟩⟩ | exact hr.elim
    case sob x => split at hr <;> first | exact ⟨hr, .inr ⟨_, rfl⟩⟩ | exact hr.elim
  unfold AO.go at hg ⊢
  split at hg
  · exact runIt hg
  · split at hg
    · split at hg
      · rename_i hb
        rw [if_pos hb]
        exact runIt hg
      · rename_i hb
        rw [if_neg hb]
        exact ⟨hg, .inl rfl⟩
    · exact ⟨hg, .inl rfl⟩
    · exact hg.elim

theorem wchk_mem {h : Hp} {X : Prop} : ∀ {ps : List Pd}, WChk ps h X → X ∧ ∀ p ∈ ps, ldOk h p
  | [], hk => ⟨hk, fun p hp => by cases hp⟩
  | q :: ps, hk => by
    obtain ⟨h1, h2⟩ := hk
    obtain ⟨h3, h4⟩ := wchk_mem h2
    exact ⟨h3, fun p hp => by rcases List.mem_cons.1 hp with rfl | hp; exact h1; exact h4 p hp⟩

theorem alloc_inv {op : Op} {zl : List Value} (hc : cK P n op = some (.alloc zl)) : ∃ ty ti z, op = .alloc ty ∧ P.info? ty = some ti ∧ ti.zero = some z ∧ zl = cellsOf z ∧ zl.all plainV = true := by
  replace hc := (cK_of hc).resolve_right (by intro h0; cases h0)
  cases op <;> simp only [cK0] at hc
  case alloc ty =>
    split at hc
    · rename_i ti z hz
      obtain ⟨hi, hz⟩ := zeroOf_some hz
      obtain ⟨h1, h2⟩ := gd_some hc
      cases h2
      exact ⟨_, _, _, rfl, hi, hz, rfl, h1⟩
    · cases hc
  case call c =>
    unfold cCall at hc
    (repeat' split at hc) <;> first | (obtain ⟨_, h2⟩ := gd_some hc; cases h2; done) | cases hc
  case build => unfold cBuild at hc; (repeat' split at hc) <;> first | (obtain ⟨_, h2⟩ := gd_some hc; cases h2; done) | cases hc
  case buildSlice => unfold cBslice at hc; (repeat' split at hc) <;> first | (obtain ⟨_, h2⟩ := gd_some hc; cases h2; done) | cases hc
  case binOp => unfold cBin at hc; (repeat' split at hc) <;> first | (obtain ⟨_, h2⟩ := gd_some hc; cases h2; done) | cases hc
  case convert => unfold cConv at hc; (repeat' split at hc) <;> first | (obtain ⟨_, h2⟩ := gd_some hc; cases h2; done) | cases hc
  case slice => unfold cSlice at hc; (repeat' split at hc) <;> first | (obtain ⟨_, h2⟩ := gd_some hc; cases h2; done) | cases hc
  case field => unfold cField at hc; (repeat' split at hc) <;> first | (obtain ⟨_, h2⟩ := gd_some hc; cases h2; done) | cases hc
  case index => unfold cIndex at hc; (repeat' split at hc) <;> first | (obtain ⟨_, h2⟩ := gd_some hc; cases h2; done) | cases hc
  case mapUpdate => simp only [cUpd, cMap] at hc; (repeat' split at hc) <;> first | (obtain ⟨_, h2⟩ := gd_some hc; cases h2; done) | cases hc
  case insert => simp only [cUpd, cMap] at hc; (repeat' split at hc) <;> first | (obtain ⟨_, h2⟩ := gd_some hc; cases h2; done) | cases hc
  case lookup => simp only [cLkp, cMap] at hc; (repeat' split at hc) <;> first | (obtain ⟨_, h2⟩ := gd_some hc; cases h2; done) | cases hc
  case typeAssert => simp only [cTas] at hc; (repeat' split at hc) <;> first | (obtain ⟨_, h2⟩ := gd_some hc; cases h2; done) | cases hc
  case makeFunc fn us vs => cases fn <;> simp only [cK0] at hc <;> first | (obtain ⟨_, h2⟩ := gd_some hc; cases h2; done) | cases hc
  all_goals (repeat' split at hc) <;> first | (obtain ⟨_, h2⟩ := gd_some hc; cases h2; done) | cases hc

theorem kind_cases (k : Nat) : k = 0 ∨ k = 1 ∨ k = 2 ∨ k = 3 ∨ (k ≠ 0 ∧ k ≠ 1 ∧ k ≠ 2 ∧ k ≠ 3) := by omega

section steps
variable {fuel : Nat} {rest : List DO} {d : DO} {m : Nat} {S : List (Nat × Nat)} {L : Array Bool} {γ : Gam} {h : Hp} {w : World} {t : Tm} {a : Act} {ps : List Pd} {pC : List (Nat × (World → Prop))}

theorem Inv.done (hQ : ∀ γ h t w a, Sub γs γ → Fr γs ws γ w → Sim base w0 γ h w → TRel γ n t a → K t h → Qc .normal a w) (I : Inv P n base w0 ops K γs ws F fuel [] m S L γ h w t a ps pC) :
    wpT P ops Qc (fun i j => ((afOf ops).getD j 0).testBit i) fuel pC L a w := by
  refine wpT_done ?_ (hQ γ h t w a I.sub I.fr I.sim I.tr I.wd) fuel
  cases hr : Region.ready .any ops L with
  | nil => rfl
  | cons i r =>
    exfalso
    have hi : i ∈ Region.ready .any ops L := by rw [hr]; simp
    obtain ⟨hun, o, ho, _⟩ := mem_ready.1 hi
    have his : i < ops.size := (Array.getElem?_eq_some_iff.1 ho).1
    have hm := List.all_eq_true.1 I.chk i (List.mem_range.2 his)
    have hl := (I.lis i his).2 (.inl hm)
    simp [I.size, his] at hun hl
    rw [hun] at hl
    cases hl

theorem chk_cons (hc : chkD ops (ops.toList.map dmask) ops.size F (d :: rest) m = true) : d.i < ops.size ∧ m.testBit d.i = false ∧ subM ((ops.toList.map dmask).getD d.i 0) m = true ∧ chkD ops (ops.toList.map dmask) ops.size F rest (m ||| 2 ^ d.i) = true ∧
    ((d.kind = 0 ∨ d.kind = 1) → F.testBit d.i = false ∧ ∀ j, j < ops.size → (m.testBit j || Nat.beq j d.i || ((ops.toList.map dmask).getD j 0).testBit d.i || apartB ops d.i j) = true) ∧
    (d.kind = 3 → (F.testBit d.i = true ∧ ∀ j, j < ops.size → (m.testBit j || F.testBit j || !subM ((ops.toList.map dmask).getD j 0) (m ||| F) || ((ops.toList.map dmask).getD j 0).testBit d.i) = true) ∧ ∀ j, j < ops.size → (!F.testBit j || m.testBit j || Nat.beq j d.i || !isBs ops j) = true) ∧
    ((d.kind ≠ 0 ∧ d.kind ≠ 1 ∧ d.kind ≠ 3) → (F.testBit d.i = false ∧ ∀ j, j < ops.size → (m.testBit j || F.testBit j || !subM ((ops.toList.map dmask).getD j 0) (m ||| F) || Nat.beq j d.i) = true) ∧ (d.kind ≠ 6 → ∀ j, j < ops.size → (!F.testBit j || m.testBit j || !isBs ops j) = true)) := by
  simp only [chkD, Bool.and_eq_true] at hc
  obtain ⟨⟨⟨⟨h1, h2⟩, h3⟩, h4⟩, h5⟩ := hc
  have h1' : Nat.ble (d.i + 1) ops.size = true := h1
  refine ⟨Nat.le_of_ble_eq_true h1', by simpa using h2, h3, h5, fun hk => ?_, fun hk => ?_, fun hk => ?_⟩
  · rcases hk with hk | hk <;> rw [hk] at h4 <;> simp only [Bool.and_eq_true, Bool.not_eq_true'] at h4 <;> exact ⟨h4.1, fun j hj => List.all_eq_true.1 h4.2 j (List.mem_range.2 hj)⟩
  · rw [hk] at h4
    simp only [Bool.and_eq_true] at h4
    exact ⟨⟨h4.1.1, fun j hj => List.all_eq_true.1 h4.1.2 j (List.mem_range.2 hj)⟩, fun j hj => List.all_eq_true.1 h4.2 j (List.mem_range.2 hj)⟩
  · split at h4
    · exact absurd ‹_› hk.1
    · exact absurd ‹_› hk.2.1
    · exact absurd ‹_› hk.2.2
    · simp only [Bool.and_eq_true, Bool.not_eq_true'] at h4
      exact ⟨⟨h4.1, fun j hj => List.all_eq_true.1 h4.2 j (List.mem_range.2 hj)⟩, fun h6 => absurd ‹_› h6⟩
    · simp only [Bool.and_eq_true, Bool.not_eq_true'] at h4
      exact ⟨⟨h4.1.1, fun j hj => List.all_eq_true.1 h4.1.2 j (List.mem_range.2 hj)⟩, fun _ j hj => List.all_eq_true.1 h4.2 j (List.mem_range.2 hj)⟩

theorem Inv.unl (I : Inv P n base w0 ops K γs ws F fuel rest m S L γ h w t a ps pC) {i : Nat} (hi : i < ops.size) (hm : m.testBit i = false) (hs : ∀ c, (i, c) ∉ S) : L.getD i false = false ∧ L.getD i true = false := by
  have h1 : L.getD i false = false := by
    cases hb : L.getD i false
    · rfl
    · rcases (I.lis i hi).1 hb with h | ⟨c, h⟩
      · rw [hm] at h; cases h
      · exact absurd h (hs c)
  refine ⟨h1, ?_⟩
  simp [I.size, hi] at h1 ⊢
  exact h1

/-- What may come up waits for nothing but what is done and for floats. -/
theorem Inv.cover (I : Inv P n base w0 ops K γs ws F fuel rest m S L γ h w t a ps pC) {j : Nat} (hj : j ∈ Region.ready .any ops L) : j < ops.size ∧ m.testBit j = false ∧ (∀ c, (j, c) ∉ S) ∧ subM ((ops.toList.map dmask).getD j 0) (m ||| F) = true := by
  obtain ⟨hun, o, ho, hall⟩ := mem_ready.1 hj
  have hjs : j < ops.size := (Array.getElem?_eq_some_iff.1 ho).1
  have hun' : L.getD j false = false := by simp [I.size, hjs] at hun ⊢; exact hun
  refine ⟨hjs, ?_, fun c hc => ?_, ?_⟩
  · cases hb : m.testBit j
    · rfl
    · have := (I.lis j hjs).2 (.inl hb); rw [hun'] at this; cases this
  · have := (I.lis j hjs).2 (.inr ⟨c, hc⟩); rw [hun'] at this; cases this
  · rw [dms_at ho]
    refine subM_of fun i hi => ?_
    obtain ⟨e, he, hb, rfl⟩ := mem_depsOf.1 (dmask_bit.1 hi)
    have hl := hall e he hb
    have hes : e.on < ops.size := by
      rcases Nat.lt_or_ge e.on ops.size with h' | h'
      · exact h'
      · rw [← I.size] at h'
        simp [Array.getElem?_eq_none h'] at hl
    rw [Nat.testBit_or, Bool.or_eq_true]
    rcases (I.lis e.on hes).1 hl with h1 | ⟨c, hc⟩
    · exact .inl h1
    · exact .inr (I.garb e.on c hc).1

/-- The head may come up. -/
theorem Inv.head_ready (I : Inv P n base w0 ops K γs ws F fuel (d :: rest) m S L γ h w t a ps pC) {o : Oper} (ho : ops[d.i]? = some o) (hs : ∀ c, (d.i, c) ∉ S) : d.i ∈ Region.ready .any ops L ∧ L.getD d.i false = false := by
  obtain ⟨h1, h2, h3, _⟩ := chk_cons I.chk
  obtain ⟨u1, u2⟩ := I.unl h1 h2 hs
  refine ⟨mem_ready.2 ⟨u2, o, ho, fun e he hb => ?_⟩, u1⟩
  rw [dms_at ho] at h3
  have hm := subM_bit h3 (dmask_bit.2 (mem_depsOf.2 ⟨e, he, hb, rfl⟩))
  exact (I.lis e.on (I.mlt _ hm)).2 (.inl hm)

theorem Inv.pos (I : Inv P n base w0 ops K γs ws F fuel rest m S L γ h w t a ps pC) {i : Nat} (hi : i < ops.size) (hu : L.getD i false = false) : 0 < fuel := by
  have h1 : L.toList[i]'(by rw [Array.length_toList, I.size]; exact hi) = false := by simpa [I.size, hi] using hu
  have hpos : 0 < L.toList.count false := List.count_pos_iff.2 (h1 ▸ List.getElem_mem _)
  have := I.fuel
  unfold cnt at this
  omega

theorem mlt_or (hm : ∀ i, m.testBit i = true → i < ops.size) {k : Nat} (hk : k < ops.size) : ∀ i, (m ||| 2 ^ k).testBit i = true → i < ops.size := fun i hi => by
  rcases bit_or_pow.1 hi with h | h
  · exact hm i h
  · omega
theorem not_or {i k : Nat} (h : (m ||| 2 ^ k).testBit i = false) : m.testBit i = false ∧ i ≠ k := by
  refine ⟨?_, fun e => ?_⟩
  · cases hb : m.testBit i
    · rfl
    · rw [bit_or_pow.2 (.inl hb)] at h; cases h
  · rw [bit_or_pow.2 (.inr e)] at h; cases h

/-- What is listed behind the head. -/
theorem Inv.lis_set (I : Inv P n base w0 ops K γs ws F fuel rest m S L γ h w t a ps pC) {k : Nat} (hk : k < ops.size) : ∀ i, i < ops.size → ((L.setIfInBounds k true).getD i false = true ↔ (m ||| 2 ^ k).testBit i = true ∨ ∃ c, (i, c) ∈ S) := fun i hi => by
  by_cases hik : k = i
  · subst hik
    refine ⟨fun _ => .inl (bit_or_pow.2 (.inr rfl)), fun _ => by simp [I.size, hk]⟩
  · rw [getD_set_ne false hik, I.lis i hi]
    constructor
    · rintro (h1 | h1)
      · exact .inl (bit_or_pow.2 (.inl h1))
      · exact .inr h1
    · rintro (h1 | h1)
      · rcases bit_or_pow.1 h1 with h2 | h2
        · exact .inl h2
        · exact absurd h2.symm hik
      · exact .inr h1

/-- What is taken now is no part of what was made ahead. -/
theorem Inv.nodep (I : Inv P n base w0 ops K γs ws F fuel rest m S L γ h w t a ps pC) {i f c : Nat} {o' : Oper} {ty : TypeId} {df : Nat} {R : Nat → Value} {C : Act → Option (Array Value)} (hu : L.getD i false = false) (hfc : (f, c) ∈ S) (fl : Flo P n ops f o' ty df R C) : i ∉ depsOf o' := fun hd => by
  obtain ⟨e, he, hb, hon⟩ := mem_depsOf.1 hd
  have hl := (I.lis f (Array.getElem?_eq_some_iff.1 fl.at_).1).2 (.inr ⟨c, hfc⟩)
  have := I.closed f o' fl.at_ hl e he hb
  rw [hon, hu] at this
  cases this
/-- A float that is not yet here stands in the rest. -/
theorem chk_rest : ∀ {rest : List DO} {m : Nat}, chkD ops (ops.toList.map dmask) ops.size F rest m = true → ∀ f, f < ops.size → m.testBit f = false → F.testBit f = true → ∃ d ∈ rest, d.i = f ∧ d.kind = 3
  | [], m, hc, f, hf, hm, _ => by
    have := List.all_eq_true.1 hc f (List.mem_range.2 hf)
    rw [hm] at this
    cases this
  | d :: rest, m, hc, f, hf, hm, hF => by
    obtain ⟨h1, h2, h3, h4, h5, h6, h7⟩ := chk_cons hc
    by_cases e : d.i = f
    · refine ⟨d, by simp, e, ?_⟩
      rcases kind_cases d.kind with h | h | h | h | h
      · rw [← e, (h5 (.inl h)).1] at hF; cases hF
      · rw [← e, (h5 (.inr h)).1] at hF; cases hF
      · rw [← e, (h7 (by omega)).1.1] at hF; cases hF
      · exact h
      · rw [← e, (h7 (by omega)).1.1] at hF; cases hF
    · obtain ⟨d', hd', h8⟩ := chk_rest h4 f hf (by
        cases hb : (m ||| 2 ^ d.i).testBit f
        · rfl
        · rcases bit_or_pow.1 hb with h | h
          · rw [hm] at h; cases h
          · exact absurd h.symm e) hF
      exact ⟨d', by simp [hd'], h8⟩
theorem PR_mem : ∀ {rest : List DO} {t : Tm}, PR rest t → ∀ d ∈ rest, d.kind = 3 → prOk d.o t
  | [], _, _, d, hd, _ => by cases hd
  | d :: rest, t, hp, e, he, hk => by
    rcases List.mem_cons.1 he with rfl | he
    · unfold PR at hp
      rw [hk] at hp
      exact hp.1
    · refine PR_mem ?_ e he hk
      unfold PR at hp
      split at hp
      · exact hp.2
      · exact hp
theorem Inv.pure_step (hQp : ∀ c a w, ¬ Qc (.panic c) a w) (hsel : ∀ (j : Nat) (o : Oper) cs b, ops[j]? = some o → o.op ≠ .select cs b) (hF : ∀ f, F.testBit f = true → ∃ o ty df R C, Flo P n ops f o ty df R C) (hk : d.kind = 0 ∨ d.kind = 1)
    (I : Inv P n base w0 ops K γs ws F (fuel + 1) (d :: rest) m S L γ h w t a ps pC)
    (IH : ∀ (rest : List DO) (m : Nat) (S : List (Nat × Nat)) (L : Array Bool) (γ : Gam) (h : Hp) (w : World) (t : Tm) (a : Act) (ps : List Pd) (pC : List (Nat × (World → Prop))),
      Inv P n base w0 ops K γs ws F fuel rest m S L γ h w t a ps pC → wpT P ops Qc (fun i j => ((afOf ops).getD j 0).testBit i) fuel pC L a w) :
    wpT P ops Qc (fun i j => ((afOf ops).getD j 0).testBit i) (fuel + 1) pC L a w := by
  obtain ⟨h1, h2, h3, h4, h5, _⟩ := chk_cons I.chk
  obtain ⟨hnF, hap⟩ := h5 hk
  obtain ⟨o, ho, hc, hkind, hb⟩ := I.comp d (by simp)
  have hs : ∀ c, (d.i, c) ∉ S := fun c hc => by rw [(I.garb d.i c hc).1] at hnF; cases hnF
  obtain ⟨hr, hu⟩ := I.head_ready ho hs
  have hps : ∀ q ∈ pC, q.2 w := fun q hq => by
    rcases I.link q hq with h1 | ⟨p, hp, _, hl⟩
    · exact h1 w
    · exact hl γ h w (Sub.refl _) I.sim (I.now p hp)
  have step : ∀ (v' : Value) (rv : Option Value) (S' : World → Prop) (ps' : List Pd), YieldsIf P ops S' o v' a → S' w → TRel γ n (tput t d.o.d rv) (a.put o.dst v') → d.o.d = o.dst → Wd P rest (tput t d.o.d rv) h ps' K →
      ((∀ w, S' w) ∨ ∃ p ∈ ps', p.i = d.i ∧ Link base w0 γ p S') → (∀ p ∈ ps, p ∈ ps') → (∀ p ∈ ps', ldOk h p) → wpT P ops Qc (fun i j => ((afOf ops).getD j 0).testBit i) (fuel + 1) pC L a w := by
    intro v' rv S' ps' hy hS htr hdd hwd hlk hsub hnow
    refine wpT_first (afOk_masks ops) ho hsel (fun c a w hq => absurd hq (hQp c _ w)) fuel pC L a w (fun j oj hj hji hun hno => ?_) I.closed hr hy hS hps ?_
    · have hjs : j < ops.size := (Array.getElem?_eq_some_iff.1 hj).1
      have hun' : L.getD j false = false := by simp [I.size, hjs] at hun ⊢; exact hun
      have := hap j hjs
      simp only [Bool.or_eq_true] at this
      rcases this with ((h | h) | h) | h
      · have := (I.lis j hjs).2 (.inl h); rw [hun'] at this; cases this
      · exact absurd (Nat.eq_of_beq_eq_true h) hji
      · rw [dms_at hj] at h
        obtain ⟨e, he, hb, hon⟩ := mem_depsOf.1 (dmask_bit.1 h)
        exact absurd hon (hno e he hb)
      · unfold apartB at h
        rw [ho, hj] at h
        exact h
    · refine IH rest (m ||| 2 ^ d.i) S _ γ h w (tput t d.o.d rv) _ ps' _ ?_
      exact {
        size := by simp [I.size]
        closed := I.closed.set hr
        mlt := mlt_or I.mlt h1
        lis := I.lis_set h1
        fuel := by have := cnt_set (L := L) (i := d.i) (by rw [I.size]; exact h1) hu; have := I.fuel; omega
        sim := I.sim
        sub := I.sub
        fr := I.fr
        tr := htr
        wd := hwd
        chk := h4
        comp := fun x hx => I.comp x (by simp [hx])
        link := fun q hq => by
          rcases List.mem_cons.1 hq with rfl | hq
          · exact hlk
          · rcases I.link q hq with h1 | ⟨p, hp, h2, hl⟩
            · exact .inl h1
            · exact .inr ⟨p, hsub p hp, h2, hl⟩
        now := hnow
        garb := fun f c hfc => by
          obtain ⟨g1, g2, g3⟩ := I.garb f c hfc
          obtain ⟨o', ty', df', R', C1, C1', fl', hc1, hh, ht⟩ := g3.what
          have hff : d.i ≠ f := fun e => hs c (e ▸ hfc)
          refine ⟨g1, ?_, ⟨g3.ge, g3.lt, g3.out, o', ty', df', R', C1, C1', fl', (fl'.loc a d.i o _ ho (I.nodep hu hfc fl')).trans hc1, hh, ?_⟩⟩
          · cases hb : (m ||| 2 ^ d.i).testBit f
            · rfl
            · rcases bit_or_pow.1 hb with h | h
              · rw [g2] at h; cases h
              · exact absurd h.symm hff
          · rw [tmps_put_ne (fl'.only d.i o ho hff)]
            exact ht
        inj := I.inj
        unk := fun f o' ty df R C hf fl hm => by
          obtain ⟨hm1, hm2⟩ := not_or hm
          rw [tget_put_ne (by rw [hdd]; exact fl.only d.i o ho (Ne.symm hm2))]
          exact I.unk f o' ty df R C hf fl hm1 }
  have hwd := I.wd
  rcases hk with hk | hk
  · simp only [Wd, hk] at hwd
    rw [hk] at hkind
    obtain ⟨v', rv, hy, hK, htr, hdd⟩ := pure_go hc hkind I.tr hwd
    exact step v' rv (fun _ => True) ps hy trivial htr hdd hK (.inl fun _ => trivial) (fun p hp => hp) I.now
  · simp only [Wd, hk] at hwd
    rw [hk] at hkind
    simp only [kindOk, Bool.and_eq_true] at hkind
    obtain ⟨v', rv, S', hy, hS, hK, htr, hdd, hlk, hnow⟩ := load_go hc hkind.1 hkind.2 I.tr I.sim hwd
    refine step v' rv S' _ hy hS htr hdd hK ?_ (fun p hp => by simp [hp]) (fun p hp => ?_)
    · rcases hlk with h | ⟨p, hp, h2⟩
      · exact .inl h
      · exact .inr ⟨p, by simp [hp], h2⟩
    · rcases List.mem_append.1 hp with hp | hp
      · exact hnow p hp
      · exact I.now p hp

theorem Inv.eff_step (hsel : ∀ (j : Nat) (o : Oper) cs b, ops[j]? = some o → o.op ≠ .select cs b) (hF : ∀ f, F.testBit f = true → ∃ o ty df R C, Flo P n ops f o ty df R C) (hk : d.kind ≠ 0 ∧ d.kind ≠ 1 ∧ d.kind ≠ 3)
    (I : Inv P n base w0 ops K γs ws F (fuel + 1) (d :: rest) m S L γ h w t a ps pC)
    (IH : ∀ (rest : List DO) (m : Nat) (S : List (Nat × Nat)) (L : Array Bool) (γ : Gam) (h : Hp) (w : World) (t : Tm) (a : Act) (ps : List Pd) (pC : List (Nat × (World → Prop))),
      Inv P n base w0 ops K γs ws F fuel rest m S L γ h w t a ps pC → wpT P ops Qc (fun i j => ((afOf ops).getD j 0).testBit i) fuel pC L a w) :
    wpT P ops Qc (fun i j => ((afOf ops).getD j 0).testBit i) (fuel + 1) pC L a w := by
  obtain ⟨h1, h2, h3, h4, _, _, h5⟩ := chk_cons I.chk
  obtain ⟨⟨hnF, hall⟩, hnb⟩ := h5 hk
  obtain ⟨o, ho, hc, hkind, hb⟩ := I.comp d (by simp)
  have hs : ∀ c, (d.i, c) ∉ S := fun c hc => by rw [(I.garb d.i c hc).1] at hnF; cases hnF
  obtain ⟨hr, hu⟩ := I.head_ready ho hs
  have hdd : d.o.d = o.dst := by
    unfold cO at hc
    split at hc
    · split at hc
      · cases hc' : d.o; rw [hc'] at hc; simp only [Option.some.injEq, AO.mk.injEq] at hc; exact hc.1.symm
      · split at hc
        · cases hc' : d.o; rw [hc'] at hc; simp only [Option.some.injEq, AO.mk.injEq] at hc; exact hc.1.symm
        · cases hc
    · cases hc
  refine ⟨fun h0 => (by rw [h0] at hr; cases hr), fun j hj => ?_⟩
  obtain ⟨hjs, hjm, hjS, hjsub⟩ := I.cover hj
  have hcase := hall j hjs
  simp only [Bool.or_eq_true, hjm, hjsub, Bool.not_true, Bool.false_eq_true, false_or, or_false] at hcase
  rcases hcase with hjF | hje
  · obtain ⟨oj, tyj, dfj, Rj, Cj, flj⟩ := hF j hjF
    obtain ⟨C', hC⟩ : ∃ C', Cj a = some C' := by
      obtain ⟨d', hd', hdi, hdk⟩ := chk_rest I.chk j hjs hjm hjF
      obtain ⟨o2, ho2, hc2, _⟩ := I.comp d' hd'
      rw [hdi] at ho2
      have hoo : o2 = oj := Option.some.inj (ho2.symm.trans flj.at_)
      subst hoo
      refine flj.rdy γ t a d'.o I.tr hc2 ?_
      by_cases h6 : d.kind = 6
      · have hwd := I.wd
        simp only [Wd, h6] at hwd
        rcases List.mem_cons.1 hd' with rfl | hd'
        · rw [h6] at hdk; cases hdk
        · exact PR_mem hwd.1 d' hd' hdk
      · have := hnb h6 j hjs
        simp only [hjF, hjm, Bool.not_true, Bool.false_or, Bool.not_eq_true'] at this
        exact flj.bs this _ t hc2
    exact I.float flj hC hjF hj (fun S L w a pC I' => IH _ m S L γ h w t a ps pC I')
  · have hje := Nat.eq_of_beq_eq_true hje
    subst hje
    refine wpOp_step ho fun K' hK' => ?_
    -- what is known behind the step
    have key : ∀ K1 : Tm → Hp → Prop, (∀ t' h', K1 t' h' → Wd P rest t' h' (flt d.b ps) K ∧ ∀ p ∈ flt d.b ps, ldOk h' p) → d.o.go P t h K1 → if Region.wanted o (yielded ops a.tmps) = true then o.wp P a w K' Qc else K' (a.put o.dst undef) w := by
      intro K1 hK1 hg
      refine go_sound hc I.sim I.tr hg fun γ' h' rv w' v' hsub hfr hsim htr hKK => hK' _ _ ?_
      obtain ⟨hwd, hld⟩ := hK1 _ _ hKK
      have hmem : ∀ p ∈ ps, ((afOf ops).getD d.i 0).testBit p.i = false → p ∈ flt d.b ps := fun p hp hbit => by
        unfold flt
        rw [List.mem_filter, hb]
        exact ⟨hp, by rw [hbit]; rfl⟩
      refine ⟨fun q hq hbit => ?_, ?_⟩
      · rcases I.link q hq with h1 | ⟨p, hp, h2, hl⟩
        · exact h1 w'
        · exact hl γ' h' w' hsub hsim (hld p (hmem p hp (by rw [h2]; exact hbit)))
      · refine IH rest (m ||| 2 ^ d.i) S _ γ' h' w' (tput t d.o.d rv) (a.put o.dst v') (flt d.b ps) _ ?_
        exact {
          size := by simp [I.size]
          closed := I.closed.set hr
          mlt := mlt_or I.mlt h1
          lis := I.lis_set h1
          fuel := by have := cnt_set (L := L) (i := d.i) (by rw [I.size]; exact h1) hu; have := I.fuel; omega
          sim := hsim
          sub := I.sub.trans hsub
          fr := I.fr.trans hfr
          tr := htr
          wd := hwd
          chk := h4
          comp := fun x hx => I.comp x (by simp [hx])
          link := fun q hq => by
            obtain ⟨hq1, hq2⟩ := List.mem_filter.1 hq
            rcases I.link q hq1 with h1 | ⟨p, hp, h2, hl⟩
            · exact .inl h1
            · exact .inr ⟨p, hmem p hp (by rw [h2]; simpa using hq2), h2, fun γ2 h2' w2 hs2 s2 hl2 => hl γ2 h2' w2 (hsub.trans hs2) s2 hl2⟩
          now := hld
          garb := fun f c hfc => by
            obtain ⟨g1, g2, g3⟩ := I.garb f c hfc
            obtain ⟨o', ty', df', R', C1, C1', fl', hc1, hh, ht⟩ := g3.what
            have hff : d.i ≠ f := fun e => hs c (e ▸ hfc)
            obtain ⟨f1, f2⟩ := hfr.2 c g3.lt g3.out
            refine ⟨g1, ?_, ⟨g3.ge, Nat.lt_of_lt_of_le g3.lt hfr.1, f2, o', ty', df', R', C1, C1', fl', (fl'.loc a d.i o _ ho (I.nodep hu hfc fl')).trans hc1, f1.trans hh, ?_⟩⟩
            · cases hb : (m ||| 2 ^ d.i).testBit f
              · rfl
              · rcases bit_or_pow.1 hb with h | h
                · rw [g2] at h; cases h
                · exact absurd h.symm hff
            · rw [tmps_put_ne (fl'.only d.i o ho hff)]
              exact ht
          inj := I.inj
          unk := fun f o' ty df R C hf fl hm => by
            obtain ⟨hm1, hm2⟩ := not_or hm
            rw [tget_put_ne (by rw [hdd]; exact fl.only d.i o ho (Ne.symm hm2))]
            exact I.unk f o' ty df R C hf fl hm1 }
    have hwd := I.wd
    rcases kind_cases d.kind with h | h | h | h | h
    · exact absurd h hk.1
    · exact absurd h hk.2.1
    · simp only [Wd, h] at hwd
      rw [h] at hkind
      refine key _ (fun t' h' hh => ⟨hh.1, fun p hp => ?_⟩) (alloc_go hkind hwd)
      have hn := I.now p (List.mem_filter.1 hp).1
      rcases hh.2 with rfl | ⟨ob, rfl⟩
      · exact hn
      · exact ldOk_new I.sim ob hn
    · exact absurd h hk.2.2
    · refine key _ (fun t' h' hh => wchk_mem hh) ?_
      unfold Wd at hwd
      split at hwd
      · exact absurd ‹_› h.1
      · exact absurd ‹_› h.2.1
      · exact absurd ‹_› h.2.2.1
      · exact absurd ‹_› h.2.2.2
      · exact hwd.2
      · exact hwd

theorem go_prOk {ao : AO} {t : Tm} {h : Hp} {K : Tm → Hp → Prop} (hk : kindOk 3 ao = true) (hg : ao.go P t h K) : prOk ao t := by
  obtain ⟨dd, dg, k⟩ := ao
  simp only [kindOk] at hk
  unfold prOk
  split at hk
  · exact trivial
  · simp only [AO.go, AO.run, AK.step] at hg
    dsimp only
    split at hg
    · rename_i cs hf
      rw [hf]
      trivial
    · exact hg.elim
  · cases hk
theorem Inv.float_head (hF : ∀ f, F.testBit f = true → ∃ o ty df R C, Flo P n ops f o ty df R C) (hk : d.kind = 3) (hs : ∀ c, (d.i, c) ∉ S)
    (I : Inv P n base w0 ops K γs ws F (fuel + 1) (d :: rest) m S L γ h w t a ps pC)
    (IH : ∀ (rest : List DO) (m : Nat) (S : List (Nat × Nat)) (L : Array Bool) (γ : Gam) (h : Hp) (w : World) (t : Tm) (a : Act) (ps : List Pd) (pC : List (Nat × (World → Prop))),
      Inv P n base w0 ops K γs ws F fuel rest m S L γ h w t a ps pC → wpT P ops Qc (fun i j => ((afOf ops).getD j 0).testBit i) fuel pC L a w) :
    wpT P ops Qc (fun i j => ((afOf ops).getD j 0).testBit i) (fuel + 1) pC L a w := by
  obtain ⟨h1, h2, h3, h4, _, h5, _⟩ := chk_cons I.chk
  obtain ⟨⟨hyF, hall⟩, hnb⟩ := h5 hk
  obtain ⟨o, ho, hc, hkind, hb⟩ := I.comp d (by simp)
  obtain ⟨hr, hu⟩ := I.head_ready ho hs
  refine ⟨fun h0 => (by rw [h0] at hr; cases hr), fun j hj => ?_⟩
  obtain ⟨hjs, hjm, hjS, hjsub⟩ := I.cover hj
  have hcase := hall j hjs
  simp only [Bool.or_eq_true, hjm, hjsub, Bool.not_true, Bool.false_eq_true, false_or, or_false] at hcase
  rcases hcase with hjF | hje
  · obtain ⟨oj, tyj, dfj, Rj, Cj, flj⟩ := hF j hjF
    obtain ⟨C', hC⟩ : ∃ C', Cj a = some C' := by
      obtain ⟨d', hd', hdi, hdk⟩ := chk_rest I.chk j hjs hjm hjF
      obtain ⟨o2, ho2, hc2, _⟩ := I.comp d' hd'
      rw [hdi] at ho2
      have hoo : o2 = oj := Option.some.inj (ho2.symm.trans flj.at_)
      subst hoo
      refine flj.rdy γ t a d'.o I.tr hc2 ?_
      have := hnb j hjs
      simp only [hjF, hjm, Bool.not_true, Bool.false_or, Bool.or_eq_true] at this
      rcases this with this | this
      · have hje := Nat.eq_of_beq_eq_true this
        subst hje
        have hoo : o = o2 := Option.some.inj (ho.symm.trans flj.at_)
        subst hoo
        have e : d'.o = d.o := Option.some.inj (hc2.symm.trans hc)
        rw [e]
        have hwd := I.wd
        simp only [Wd, hk] at hwd
        exact go_prOk (by rw [hk] at hkind; exact hkind) hwd
      · exact flj.bs (by simpa using this) _ t hc2
    exact I.float flj hC hjF hj (fun S L w a pC I' => IH _ m S L γ h w t a ps pC I')
  · exfalso
    obtain ⟨_, oj, hoj, hdeps⟩ := mem_ready.1 hj
    rw [dms_at hoj] at hje
    obtain ⟨e, he, heb, hon⟩ := mem_depsOf.1 (dmask_bit.1 hje)
    have := hdeps e he heb
    rw [hon, hu] at this
    cases this

theorem TRel.know {γ : Gam} {t : Tm} {a : Act} (r : TRel γ n t a) {df : Nat} {v v' : Value} (ha : a.tmps[df]? = some v') (hv : VRel γ v v') : TRel γ n (tput t (some df) (some v)) a := by
  refine ⟨r.size, r.defers, fun i u hu => ?_⟩
  by_cases e : i = df
  · subst e
    rw [tget_put_self] at hu
    cases hu
    exact ⟨v', ha, hv⟩
  · rw [tget_put_ne (by simpa using Ne.symm e)] at hu
    exact r.get i u hu

theorem Inv.adopt (hbs : base ≤ ws.heap.size) (hk : d.kind = 3) {c : Nat} (hcS : (d.i, c) ∈ S) (I : Inv P n base w0 ops K γs ws F fuel (d :: rest) m S L γ h w t a ps pC) :
    ∃ S' γ' h' t', Inv P n base w0 ops K γs ws F fuel rest (m ||| 2 ^ d.i) S' L γ' h' w t' a ps pC := by
  obtain ⟨h1, h2, h3, h4, _⟩ := chk_cons I.chk
  obtain ⟨o, ho, hc, hkind, hb⟩ := I.comp d (by simp)
  obtain ⟨gF, gm, g⟩ := I.garb d.i c hcS
  obtain ⟨o', ty, df, R, C, C', fl, hC, hh, ht⟩ := g.what
  have hoo : o' = o := Option.some.inj (fl.at_.symm.trans ho)
  subst hoo
  have hwd := I.wd
  simp only [Wd, hk] at hwd
  obtain ⟨di, dk, db, ao⟩ := d
  simp only at hwd h1 h2 h3 h4 ho hc hcS g gm gF hb hk
  obtain ⟨cs, rv, hlen, hcs, hrv, _, hK⟩ := fl.ado γ t a ao h _ C' I.tr hc hwd hC
  obtain ⟨s', hsub⟩ := I.sim.adopt (o := ⟨cs, .own⟩) rfl hh (Nat.le_trans hbs g.ge) g.out hlen (fun i v hv => by
    obtain ⟨q1, v', q2, q3⟩ := hcs i v hv
    exact ⟨q1, v', q2, q3⟩)
  have hdst := fl.dst
  suffices hfin : True by
    have outOf : ∀ k, k ≠ c → Out γ k → Out (γ.add h.size (c, 0, 0)) k := fun k hkc ho y x σ E hy => by
      unfold Gam.add at hy
      split at hy
      · cases hy; exact fun e => hkc e.symm
      · exact ho y x σ E hy
    refine ⟨S.filter fun x => x.1 != di, γ.add h.size (c, 0, 0), h.new ⟨cs, .own⟩, tput t (some df) (some (rv h.size)), ?_⟩
    exact {
      size := I.size
      closed := I.closed
      mlt := mlt_or I.mlt h1
      lis := fun i his => by
        rw [I.lis i his]
        constructor
        · rintro (h5 | ⟨c5, h5⟩)
          · exact .inl (bit_or_pow.2 (.inl h5))
          · by_cases e : i = di
            · exact .inl (bit_or_pow.2 (.inr e))
            · exact .inr ⟨c5, List.mem_filter.2 ⟨h5, by simpa using e⟩⟩
        · rintro (h5 | ⟨c5, h5⟩)
          · rcases bit_or_pow.1 h5 with h6 | h6
            · exact .inl h6
            · exact .inr ⟨c, by rw [h6]; exact hcS⟩
          · exact .inr ⟨c5, (List.mem_filter.1 h5).1⟩
      fuel := I.fuel
      sim := s'
      sub := I.sub.trans hsub
      fr := ⟨I.fr.1, fun k hk ho => ⟨(I.fr.2 k hk ho).1, outOf k (fun e => by have := g.ge; omega) (I.fr.2 k hk ho).2⟩⟩
      tr := (I.tr.mono hsub).know ht (hrv _ _ _ Gam.add_self)
      wd := hK
      chk := h4
      comp := fun x hx => I.comp x (by simp [hx])
      link := fun q hq => by
        rcases I.link q hq with h1 | ⟨p, hp, h2, hl⟩
        · exact .inl h1
        · exact .inr ⟨p, hp, h2, fun γ2 h2' w2 hs2 s2 hl2 => hl γ2 h2' w2 (hsub.trans hs2) s2 hl2⟩
      now := fun p hp => ldOk_new I.sim _ (I.now p hp)
      garb := fun f c5 hfc => by
        obtain ⟨hfc1, hfc2⟩ := List.mem_filter.1 hfc
        have hfd : f ≠ di := by simpa using hfc2
        obtain ⟨g1, g2, g3⟩ := I.garb f c5 hfc1
        refine ⟨g1, ?_, ⟨g3.ge, g3.lt, outOf c5 (fun e => hfd (I.inj f c5 di c hfc1 hcS e)) g3.out, g3.what⟩⟩
        cases hb : (m ||| 2 ^ di).testBit f
        · rfl
        · rcases bit_or_pow.1 hb with h | h
          · rw [g2] at h; cases h
          · exact absurd h hfd
      inj := fun f1 c1 f2 c2 m1 m2 e => I.inj f1 c1 f2 c2 (List.mem_filter.1 m1).1 (List.mem_filter.1 m2).1 e
      unk := fun f o2 ty2 df2 R2 C2 hf fl2 hm => by
        obtain ⟨hm1, hm2⟩ := not_or hm
        rw [tget_put_ne (by have := fl2.only di o' ho (Ne.symm hm2); rw [hdst] at this; exact this)]
        exact I.unk f o2 ty2 df2 R2 C2 hf fl2 hm1 }
  trivial
end steps
theorem draw_main (hQ : ∀ γ h t w a, Sub γs γ → Fr γs ws γ w → Sim base w0 γ h w → TRel γ n t a → K t h → Qc .normal a w) (hQp : ∀ c a w, ¬ Qc (.panic c) a w) (hsel : ∀ (j : Nat) (o : Oper) cs b, ops[j]? = some o → o.op ≠ .select cs b) (hbs : base ≤ ws.heap.size)
    (hF : ∀ f, F.testBit f = true → ∃ o ty df R C, Flo P n ops f o ty df R C) :
    ∀ (fuel : Nat) (rest : List DO) (m : Nat) (S : List (Nat × Nat)) (L : Array Bool) (γ : Gam) (h : Hp) (w : World) (t : Tm) (a : Act) (ps : List Pd) (pC : List (Nat × (World → Prop))),
      Inv P n base w0 ops K γs ws F fuel rest m S L γ h w t a ps pC → wpT P ops Qc (fun i j => ((afOf ops).getD j 0).testBit i) fuel pC L a w := by
  intro fuel
  induction fuel with
  | zero =>
    intro rest
    induction rest with
    | nil => intro m S L γ h w t a ps pC I; exact I.done hQ
    | cons d rest ihr =>
      intro m S L γ h w t a ps pC I
      obtain ⟨h1, h2, h3, h4, h5, h6, h7⟩ := chk_cons I.chk
      obtain ⟨o, ho, _⟩ := I.comp d (by simp)
      have un : (∀ c, (d.i, c) ∉ S) → False := fun hs => by
        obtain ⟨_, hu⟩ := I.head_ready ho hs
        have := I.pos h1 hu
        omega
      by_cases hk : d.kind = 3
      · by_cases hs : ∃ c, (d.i, c) ∈ S
        · obtain ⟨c, hc⟩ := hs
          obtain ⟨S', γ', h', t', I'⟩ := I.adopt hbs hk hc
          exact ihr _ S' L γ' h' w t' a ps pC I'
        · exact (un fun c hc => hs ⟨c, hc⟩).elim
      · have hnF : F.testBit d.i = false := by
          by_cases h0 : d.kind = 0 ∨ d.kind = 1
          · exact (h5 h0).1
          · exact (h7 ⟨fun e => h0 (.inl e), fun e => h0 (.inr e), hk⟩).1.1
        exact (un fun c hc => by rw [(I.garb d.i c hc).1] at hnF; cases hnF).elim
  | succ fuel ih =>
    intro rest
    induction rest with
    | nil => intro m S L γ h w t a ps pC I; exact I.done hQ
    | cons d rest ihr =>
      intro m S L γ h w t a ps pC I
      by_cases hk : d.kind = 3
      · by_cases hs : ∃ c, (d.i, c) ∈ S
        · obtain ⟨c, hc⟩ := hs
          obtain ⟨S', γ', h', t', I'⟩ := I.adopt hbs hk hc
          exact ihr _ S' L γ' h' w t' a ps pC I'
        · exact I.float_head hF hk (fun c hc => hs ⟨c, hc⟩) ih
      · by_cases h0 : d.kind = 0 ∨ d.kind = 1
        · exact I.pure_step hQp hsel hF h0 ih
        · exact I.eff_step hsel hF ⟨fun e => h0 (.inl e), fun e => h0 (.inr e), hk⟩ ih
end
end Go.Proofs.Ytbfbgkhlngkifaa.Am
