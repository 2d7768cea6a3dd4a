/- Code over the abstract heap: blocks, loops, functions. Plain theorems.
   Conditions: none. -/
import Derived.Test.YtbfbgkhlngkifaaAmR
namespace Go.Proofs.Ytbfbgkhlngkifaa.Am
open Go Go.RowKit
set_option linter.unusedVariables false
set_option linter.unusedSimpArgs false

inductive AC where
  | skip
  | ops (l : List AO)
  | draw (l : List DO)
  | seq (a b : AC)
  | cut (live : List Nat) (a b : AC)
  | trim (live : List Nat) (a b : AC)
  | cond (c : Operand) (a b : AC)
  | block (id : Nat) (a : AC)
  | loop (live : List Nat) (a : AC)
  | exit (id : Nat)
  | ret
  /-- Never to be reached. -/
  | bad
inductive AX where
  | normal
  | exit (id : Nat)
  | ret
/-- What is to be shown of code. -/
def W (P : Program) : AC → Tm → Hp → (AX → Tm → Hp → Prop) → Prop
  | .skip, t, h, Q => Q .normal t h
  | .ops l, t, h, Q => Wops P l t h (Q .normal)
  | .draw l, t, h, Q => Wd P l (forget l t) h [] (Q .normal)
  | .seq x y, t, h, Q => W P x t h fun e t h => match e with
    | .normal => W P y t h Q
    | e => Q e t h
  | .cut live x y, t, h, Q => ∃ M : Tm → Hp → Prop, W P x t h (fun e t h => match e with
    | .normal => M (keep live t) h
    | e => Q e t h) ∧ ∀ t h, M t h → W P y t h Q
  | .trim live x y, t, h, Q => W P x t h fun e t h => match e with
    | .normal => W P y (keep live t) h Q
    | e => Q e t h
  | .cond c x y, t, h, Q => match ev t c with
    | some (.bool b) => (b = true → W P x t h Q) ∧ (b = false → W P y t h Q)
    | _ => False
  | .block id x, t, h, Q => W P x t h fun e t h => match e with
    | .exit i => if i = id then Q .normal t h else Q (.exit i) t h
    | e => Q e t h
  | .loop live x, t, h, Q => ∃ J : Nat → Tm → Hp → Prop, (∃ n, J n (keep live t) h) ∧ ∀ n t h, J n t h → W P x t h fun e t h => match e with
    | .normal => ∃ m, m < n ∧ J m (keep live t) h
    | e => Q e t h
  | .exit id, t, h, Q => Q (.exit id) t h
  | .ret, t, h, Q => Q .ret t h
  | .bad, t, h, Q => False

def cC (P : Program) (n : Nat) : AC → Code → Option AC
  | .skip, .skip => some .skip
  | .ops _, .region _ ops false => match cOps P n ops ops.toList with
    | some l => some (.ops l)
    | none => none
  | .draw sk, .region _ ops true => match cDraw P n ops sk with
    | some l => some (.draw l)
    | none => none
  | .seq a b, .seq x y => match cC P n a x, cC P n b y with
    | some a', some b' => some (.seq a' b')
    | _, _ => none
  | .cut live a b, .seq x y => match cC P n a x, cC P n b y with
    | some a', some b' => some (.cut live a' b')
    | _, _ => none
  | .trim live a b, .seq x y => match cC P n a x, cC P n b y with
    | some a', some b' => some (.trim live a' b')
    | _, _ => none
  | .cond _ a b, .cond c x y => match okO n c, cC P n a x, cC P n b y with
    | true, some a', some b' => some (.cond c a' b')
    | _, _, _ => none
  | .block _ a, .block id x => match cC P n a x with
    | some a' => some (.block id a')
    | none => none
  | .loop live a, .loop x => match cC P n a x with
    | some a' => some (.loop live a')
    | none => none
  | .exit _, .exit id => some (.exit id)
  | .ret, .ret => some .ret
  | .bad, _ => some .bad
  | _, _ => none

section
variable {P : Program} {n base : Nat} {w0 : World}

def Post (base : Nat) (w0 : World) (n : Nat) (γ0 : Gam) (ws : World) (Q : AX → Tm → Hp → Prop) : Exit → Act → World → Prop
  | .normal, a, w => ∃ t h γ, Q .normal t h ∧ Sub γ0 γ ∧ Fr γ0 ws γ w ∧ Sim base w0 γ h w ∧ TRel γ n t a
  | .exit id, a, w => ∃ t h γ, Q (.exit id) t h ∧ Sub γ0 γ ∧ Fr γ0 ws γ w ∧ Sim base w0 γ h w ∧ TRel γ n t a
  | .ret, a, w => ∃ t h γ, Q .ret t h ∧ Sub γ0 γ ∧ Fr γ0 ws γ w ∧ Sim base w0 γ h w ∧ TRel γ n t a
  | _, _, _ => False

theorem wp_loopN {c : Code} {Q : Exit → Act → World → Prop} (I : Nat → Act → World → Prop) {k : Nat} {a : Act} {w : World} (h₀ : I k a w)
    (round : ∀ k a w, I k a w → c.wp P (Exit.then (fun a' w' => ∃ m, m < k ∧ I m a' w') Q) a w) : (Code.loop c).wp P Q a w := by
  intro b kk cs
  have key : ∀ n a w, I n a w → ∃ e a' w', Q e a' w' ∧ Arrives P (lone (b.at a (.code c :: .inLoop c :: kk)) cs w) b kk cs e a' w' := by
    intro n
    induction n using Nat.strongRecOn with
    | _ n ih =>
      intro a w hI
      obtain ⟨e, a₁, w₁, hq, harr⟩ := round n a w hI b (.inLoop c :: kk) cs
      cases e with
      | normal =>
        obtain ⟨m, hlt, hI₁⟩ := hq
        obtain ⟨e₂, a₂, w₂, hq₂, harr₂⟩ := ih m hlt a₁ w₁ hI₁
        exact ⟨e₂, a₂, w₂, hq₂, .of_steps (Steps.trans harr (.one step_inLoop)) harr₂⟩
      | exit id => exact ⟨_, a₁, w₁, hq, .pass (x := .inLoop c) rfl (fun _ _ => .inl (by simp)) harr⟩
      | goto l => exact ⟨_, a₁, w₁, hq, .pass (x := .inLoop c) rfl (fun _ _ => .inl (by simp)) harr⟩
      | ret => exact ⟨_, a₁, w₁, hq, .pass (x := .inLoop c) rfl (fun _ _ => .inl (by simp)) harr⟩
      | panic ch => exact ⟨_, a₁, w₁, hq, .pass (x := .inLoop c) rfl (fun _ _ => .inl (by simp)) harr⟩
      | outgrown => exact ⟨_, a₁, w₁, hq, .pass (x := .inLoop c) rfl (fun _ _ => .inl (by simp)) harr⟩
  obtain ⟨e, a', w', hq, harr⟩ := key k a w h₀
  exact ⟨e, a', w', hq, .of_steps (.one step_loop) harr⟩

theorem cD1_spec {ops : Array Oper} {af : List Nat} : ∀ {sk l : List DO}, cD1 P n ops af sk = some l → ∀ d ∈ l, ∃ o, ops[d.i]? = some o ∧ cO P n ops o = some d.o ∧ kindOk d.kind d.o = true ∧ d.b = af.getD d.i 0
  | [], l, h => by cases h; intro d hd; cases hd
  | d :: r, l, h => by
    simp only [cD1] at h
    split at h
    · rename_i o ho
      split at h
      · rename_i ao hao
        split at h
        · rename_i l' hk hl
          cases h
          intro x hx
          rcases List.mem_cons.1 hx with rfl | hx
          · exact ⟨o, ho, hao, hk, rfl⟩
          · exact cD1_spec hl x hx
        · cases h
      · cases h
    · cases h

theorem floats_mem : ∀ {l : List DO} {f : Nat}, (floatsM l).testBit f = true → ∃ d ∈ l, d.kind = 3 ∧ d.i = f
  | [], f, h => by simp [floatsM] at h
  | d :: r, f, h => by
    simp only [floatsM] at h
    split at h
    · rename_i hk
      rw [Nat.testBit_or, Bool.or_eq_true, Nat.testBit_two_pow, decide_eq_true_eq] at h
      rcases h with h | h
      · exact ⟨d, by simp, hk, h⟩
      · obtain ⟨x, hx, h2⟩ := floats_mem h
        exact ⟨x, by simp [hx], h2⟩
    · obtain ⟨x, hx, h2⟩ := floats_mem h
      exact ⟨x, by simp [hx], h2⟩

theorem forget_rel {γ : Gam} {a : Act} : ∀ {l : List DO} {t : Tm}, TRel γ n t a → TRel γ n (forget l t) a
  | [], t, r => r
  | d :: l, t, r => by
    simp only [forget]
    split
    · refine forget_rel ⟨r.size, r.defers, fun i v hv => ?_⟩
      cases hd : d.o.d with
      | none => rw [hd] at hv; exact r.get i v hv
      | some j =>
        rw [hd] at hv
        by_cases e : i = j
        · subst e; rw [tget_put_self] at hv; cases hv
        · rw [tget_put_ne (by simpa using Ne.symm e)] at hv
          exact r.get i v hv
    · exact forget_rel r
theorem forget_keep : ∀ {l : List DO} {t : Tm} {i : Nat}, tget t i = none → tget (forget l t) i = none
  | [], t, i, h => h
  | d :: l, t, i, h => by
    simp only [forget]
    split
    · refine forget_keep ?_
      cases hd : d.o.d with
      | none => exact h
      | some j =>
        by_cases e : i = j
        · subst e; exact tget_put_self
        · rw [tget_put_ne (by simpa using Ne.symm e)]; exact h
    · exact forget_keep h
theorem forget_none {d : DO} {i : Nat} (hk : d.kind = 3) (hd : d.o.d = some i) : ∀ {l : List DO} {t : Tm}, d ∈ l → tget (forget l t) i = none := by
  intro l
  induction l with
  | nil => intro t hm; cases hm
  | cons x l ih =>
    intro t hm
    rcases List.mem_cons.1 hm with rfl | hm
    · have : forget (d :: l) t = forget l (tput t d.o.d none) := by simp [forget, hk]
      rw [this, hd]
      exact forget_keep tget_put_self
    · unfold forget
      split
      · exact ih hm
      · exact ih hm

theorem usesT_eval {o : Oper} {a : Act} {j : Nat} {v : Value} {x : Operand} (hx : x ∈ o.op.operands.toList) (hu : usesT o j = false) : (a.put (some j) v).eval x = a.eval x := by
  cases x with
  | tmp t =>
    have hne : j ≠ t := fun e => by
      subst e
      have : usesT o j = true := List.any_eq_true.2 ⟨_, hx, Nat.beq_refl j⟩
      rw [hu] at this
      cases this
    simp [Act.eval, Act.put, Array.getElem?_setIfInBounds_ne hne]
  | _ => rfl
theorem bslice_inv {op : Op} {z : List Value} {m : Nat} {qs : List (Nat × Nat × Operand)} (hc : cK P n op = some (.bslice z m qs)) : ∃ ty ps, op = .buildSlice ty m ps ∧ cBslice P n ty m ps = some (.bslice z m qs) := by
  replace hc := (cK_of hc).resolve_right (by intro h0; cases h0)
  cases op <;> simp only [cK0] at hc
  case call c =>
    unfold cCall at hc
    (repeat' split at hc) <;> first | (obtain ⟨_, h2⟩ := gd_some hc; cases h2; done) | cases hc
  case build => unfold cBuild at hc; (repeat' split at hc) <;> first | (obtain ⟨_, h2⟩ := gd_some hc; cases h2; done) | cases hc
  case buildSlice ty len ps =>
    have hm : len = m := by
      have hc0 := hc
      unfold cBslice at hc0
      split at hc0
      · split at hc0
        · cases hc0; rfl
        · split at hc0
          · split at hc0
            · obtain ⟨_, h2⟩ := gd_some hc0; cases h2; rfl
            · cases hc0
          · cases hc0
      · cases hc0
    subst hm
    exact ⟨_, _, rfl, hc⟩
  case binOp => unfold cBin at hc; (repeat' split at hc) <;> first | (obtain ⟨_, h2⟩ := gd_some hc; cases h2; done) | cases hc
  case convert => unfold cConv at hc; (repeat' split at hc) <;> first | (obtain ⟨_, h2⟩ := gd_some hc; cases h2; done) | cases hc
  case slice => unfold cSlice at hc; (repeat' split at hc) <;> first | (obtain ⟨_, h2⟩ := gd_some hc; cases h2; done) | cases hc
  case field => unfold cField at hc; (repeat' split at hc) <;> first | (obtain ⟨_, h2⟩ := gd_some hc; cases h2; done) | cases hc
  case index => unfold cIndex at hc; (repeat' split at hc) <;> first | (obtain ⟨_, h2⟩ := gd_some hc; cases h2; done) | cases hc
  case mapUpdate => simp only [cUpd, cMap] at hc; (repeat' split at hc) <;> first | (obtain ⟨_, h2⟩ := gd_some hc; cases h2; done) | cases hc
  case insert => simp only [cUpd, cMap] at hc; (repeat' split at hc) <;> first | (obtain ⟨_, h2⟩ := gd_some hc; cases h2; done) | cases hc
  case lookup => simp only [cLkp, cMap] at hc; (repeat' split at hc) <;> first | (obtain ⟨_, h2⟩ := gd_some hc; cases h2; done) | cases hc
  case typeAssert => simp only [cTas] at hc; (repeat' split at hc) <;> first | (obtain ⟨_, h2⟩ := gd_some hc; cases h2; done) | cases hc
  case makeFunc fn us vs => cases fn <;> simp only [cK0] at hc <;> first | (obtain ⟨_, h2⟩ := gd_some hc; cases h2; done) | cases hc
  all_goals (repeat' split at hc) <;> first | (obtain ⟨_, h2⟩ := gd_some hc; cases h2; done) | cases hc
theorem cO_inv {ops : Array Oper} {o : Oper} {dd : Option Nat} {k : AK} (hco : cO P n ops o = some ⟨dd, none, k⟩) : cK P n o.op = some k ∧ o.dst = dd ∧ o.guard = none ∧ okD n o.dst = true := by
  unfold cO at hco
  split at hco
  · split at hco
    · simp only [Option.some.injEq, AO.mk.injEq] at hco
      exact ⟨by rw [← hco.2.2]; assumption, hco.1, ‹_›, ‹_›⟩
    · split at hco
      · simp only [Option.some.injEq, AO.mk.injEq] at hco
        cases hco.2.1
      · cases hco
  · cases hco
theorem flo_of {ops : Array Oper} {f : Nat} {o : Oper} {ao : AO} (ho : ops[f]? = some o) (hco : cO P n ops o = some ao) (hkind : kindOk 3 ao = true) (hfo : floatOk ops f = true) : ∃ o ty df R C, Flo P n ops f o ty df R C := by
  simp only [floatOk, ho, Bool.and_eq_true] at hfo
  obtain ⟨⟨hdep, honly⟩, hsrc⟩ := hfo
  obtain ⟨dd, dg, k⟩ := ao
  have only : ∀ {df : Nat}, o.dst = some df → ∀ j oj, ops[j]? = some oj → j ≠ f → oj.dst ≠ some df := fun hdst j oj hj hji he => by
    have := List.all_eq_true.1 honly j (List.mem_range.2 (Array.getElem?_eq_some_iff.1 hj).1)
    simp only [Bool.or_eq_true, hj, he, hdst] at this
    rcases this with h1 | h1
    · exact hji (Nat.eq_of_beq_eq_true h1)
    · simp at h1
  have src : ∀ j oj d, ops[j]? = some oj → oj.dst = some d → j ∉ depsOf o → usesT o d = false := fun j oj d hj hd hn => by
    have := List.all_eq_true.1 hsrc j (List.mem_range.2 (Array.getElem?_eq_some_iff.1 hj).1)
    simp only [hj, hd, Bool.or_eq_true, Bool.not_eq_true'] at this
    rcases this with h1 | h1
    · exact h1
    · exact absurd (dmask_bit.1 h1) hn
  simp only [kindOk] at hkind
  split at hkind
  · rename_i _ _ zl d1
    obtain ⟨hck, hdst, hgd, hok⟩ := cO_inv hco
    obtain ⟨ty, ti, z, hop, hi, hz, rfl, hpl⟩ := alloc_inv hck
    refine ⟨o, ty, d1, fun c => .pointer (some ⟨c, 0, none⟩), fun _ => some z.cells, ?_⟩
    exact {
      at_ := ho
      dst := hdst
      lt := okD_lt hok d1 hdst
      guard := hgd
      only := only hdst
      run := fun a w C' hC => by
        cases hC
        simp [execOp, hop, Instr.alloc, zeroValue, typeInfo, hi, hz, newVar, newRow]
      loc := fun _ _ _ _ _ _ => rfl
      rdy := fun _ _ _ _ _ _ _ => ⟨_, rfl⟩
      bs := fun _ ao t hc => by rw [hco] at hc; cases hc; trivial
      ado := fun γ t a ao h K C' r hc hg hC => by
        rw [hco] at hc
        cases hc
        cases hC
        simp only [AO.go, AO.run, AK.step] at hg
        refine ⟨cellsOf z, fun b => .pointer (some ⟨b, 0, none⟩), by rw [← Array.length_toList, cellsOf_eq]; exact Nat.le_refl _, fun i v hv => ?_, fun γ' b c hb => by have := VRel.ptr (off := 0) hb; simpa using this, trivial, hg⟩
        have hv' := List.mem_of_getElem? hv
        exact ⟨plainV_cell (List.all_eq_true.1 hpl v hv'), v, by rw [← Array.getElem?_toList, cellsOf_eq]; exact hv, plainV_rel (List.all_eq_true.1 hpl v hv')⟩ }
  · rename_i _ _ z0 zs m qs d1
    obtain ⟨hck, hdst, hgd, hok⟩ := cO_inv hco
    obtain ⟨ty, ps, hop, hcb⟩ := bslice_inv hck
    have hisb : isBs ops f = true := by simp only [isBs, ho, hop]
    have key : ∃ (e : TypeId) (ie : TypeInfo) (z : Value), P.underlying ty = some (.slice e) ∧ P.info? e = some ie ∧ ie.zero = some z ∧ (ps.toList.all fun p => okO n p.2) = true ∧ ¬ m * ie.size > 2 ^ 24 ∧ ¬ m * ie.size = 0 ∧
        (z0 :: zs).all plainV = true ∧ ((Array.range (m * ie.size)).map (z.cells[· % z.cells.size]!)).toList = (z0 :: zs) ∧ Fits (fun i => some (i * ie.size, ie.size)) ps.toList qs := by
      unfold cBslice at hcb
      split at hcb
      · rename_i e hu
        split at hcb
        · cases hcb
        split at hcb
        · rename_i ie z hz
          obtain ⟨hi, hz⟩ := zeroOf_some hz
          split at hcb
          · rename_i qs' hq
            obtain ⟨hc, h9⟩ := gd_some hcb
            simp only [Bool.and_eq_true, decide_eq_true_eq] at hc
            obtain ⟨⟨⟨⟨h1, h2⟩, h3⟩, h4⟩, h5⟩ := hc
            have h5 := Nat.eq_of_beq_eq_true h5
            have hzc : z.cells.toList = cellsOf z := cellsOf_eq z
            have hpos : 0 < ie.size := Nat.pos_of_ne_zero fun e => by rw [e] at h2; simp at h2
            simp only [AK.bslice.injEq] at h9
            obtain ⟨h9, -, rfl⟩ := h9
            refine ⟨e, ie, z, hu, hi, hz, h1, by omega, by omega, ?_, ?_, placed_fits hq⟩
            · rw [h9]
              exact List.all_eq_true.2 fun v hv => List.all_eq_true.1 h4 v (rep_mem hv)
            · rw [h9, ← range_rep (cellsOf z) (by omega) _, h5, Array.toList_map, Array.toList_range]
              have hsz : z.cells.size = ie.size := by rw [← Array.length_toList, hzc, h5]
              apply List.map_congr_left
              intro x _
              rw [hsz, show z.cells = (cellsOf z).toArray by rw [← hzc]]
              simp
          · cases hcb
        · cases hcb
      · cases hcb
    obtain ⟨e, ie, z, hu, hie, hz, hall, hsmall, hpos, hplain, hzl, hfits⟩ := key
    have hrel : ∀ γ : Gam, LRel γ (z0 :: zs) ((Array.range (m * ie.size)).map (z.cells[· % z.cells.size]!)).toList := fun γ => by
      rw [hzl]; exact ⟨rfl, fun i hi _ => plainV_rel (List.all_eq_true.1 hplain _ (List.getElem_mem hi))⟩
    refine ⟨o, e, d1, fun c => .slice (some ⟨c, 0, none⟩) m m, fun a => Instr.fill (fun i => some (i * ie.size, ie.size)) ((Array.range (m * ie.size)).map (z.cells[· % z.cells.size]!)) (ps.toList.map fun p => (p.1, a.eval p.2)), ?_⟩
    exact {
      at_ := ho
      dst := hdst
      lt := okD_lt hok d1 hdst
      guard := hgd
      only := only hdst
      run := fun a w C' hC => by
        simp only [execOp, hop, Sem.run_bind]
        rw [run_buildSlice w ty e m _ C' ie z hu hie hz hsmall hpos (by simpa using hC)]
        simp
      loc := fun a j oj v hj hn => by
        cases hd : oj.dst with
        | none => rfl
        | some d =>
          have hs := src j oj d hj hd hn
          congr 1
          apply List.map_congr_left
          intro p hp
          have hpo : p.2 ∈ o.op.operands.toList := by
            rw [hop]
            simp only [Op.operands]
            simpa using ⟨p.1, Array.mem_toList_iff.1 hp⟩
          rw [usesT_eval hpo hs]
      rdy := fun γ t a ao r hc hp => by
        rw [hco] at hc
        cases hc
        have hp : (match fillA t (z0 :: zs) qs with
          | some _ => True
          | none => False) := hp
        cases hf : fillA t (z0 :: zs) qs with
        | none => rw [hf] at hp; exact hp.elim
        | some cs =>
          obtain ⟨C', hC, -⟩ := fill_rel r (fun i => some (i * ie.size, ie.size)) ps.toList qs _ cs _ hall hfits hf (hrel γ)
          exact ⟨C', hC⟩
      bs := fun hb => by rw [hisb] at hb; cases hb
      ado := fun γ t a ao h K C' r hc hg hC => by
        rw [hco] at hc
        cases hc
        have hpr := go_prOk (P := P) (ao := ⟨some d1, none, .bslice (z0 :: zs) m qs⟩) rfl hg
        simp only [AO.go, AO.run, AK.step] at hg
        split at hg
        · rename_i cs hf
          obtain ⟨C1, hC1, hr1⟩ := fill_rel r (fun i => some (i * ie.size, ie.size)) ps.toList qs _ cs _ hall hfits hf (hrel γ)
          have hCC : C1 = C' := Option.some.inj (hC1.symm.trans hC)
          subst hCC
          refine ⟨cs, fun b => .slice (some ⟨b, 0, none⟩) m m, by rw [← Array.length_toList, hr1.1]; exact Nat.le_refl _, fun i v hv => ?_, fun γ' b c hb => by have := VRel.slice (len := m) (cap := m) (off := 0) hb; simpa using this, hpr, hg⟩
          have hm := List.mem_of_getElem? hv
          refine ⟨fillA_cell _ _ _ hf (fun v hv => plainV_cell (List.all_eq_true.1 hplain v hv)) v hm, ?_⟩
          obtain ⟨v', h1, h2⟩ := hr1.get? hv
          exact ⟨v', by rw [← Array.getElem?_toList]; exact h1, h2⟩
        · exact hg.elim }
  · cases hkind
theorem draw_sound (hm : P.follows .mixedOrders = true) {id : Nat} {ops : Array Oper} {sk l : List DO} (hc : cDraw P n ops sk = some l) {γ : Gam} {h : Hp} {w : World} {t : Tm} {a : Act} {Q : AX → Tm → Hp → Prop}
    (hw : Wd P l (forget l t) h [] (Q .normal)) (s : Sim base w0 γ h w) (r : TRel γ n t a) : (Code.region id ops true).wp P (Post base w0 n γ w Q) a w := by
  unfold cDraw at hc
  split at hc
  · rename_i l' hl
    split at hc
    · rename_i hchk
      cases hc
      simp only [Bool.and_eq_true] at hchk
      obtain ⟨⟨hsel, hfl⟩, hck⟩ := hchk
      have spec := cD1_spec hl
      have hF : ∀ f, (floatsM l).testBit f = true → ∃ o ty df R C, Flo P n ops f o ty df R C := fun f hf => by
        obtain ⟨d, hd, hk, rfl⟩ := floats_mem hf
        obtain ⟨o, ho, hco, hkind, _⟩ := spec d hd
        have hfo := List.all_eq_true.1 hfl d hd
        rw [hk] at hkind hfo
        exact flo_of ho hco hkind (by simpa [show Nat.beq 3 3 = true from rfl] using hfo)
      refine wp_region_any hm (wpAny_of_T _ _ _ _ _ (draw_main (K := Q .normal) (γs := γ) (ws := w) (F := floatsM l) (fun γ' h' t' w' a' hs hf hsim ht hk => ⟨t', h', γ', hk, hs, hf, hsim, ht⟩) (fun c a w hq => hq) (Region.noSelect_spec hsel) s.wsz hF ops.size l 0 [] (Array.replicate ops.size false) γ h _ (forget l t) a [] [] ?_))
      exact {
        size := by simp
        closed := fun j oj hj hl => by
          exfalso
          by_cases hjs : j < ops.size
          · simp [hjs] at hl
          · simp [hjs] at hl
        mlt := fun i hi => by simp at hi
        lis := fun i hi => by simp [hi]
        fuel := by unfold cnt; rw [Array.toList_replicate]; exact Nat.le_trans List.count_le_length (by simp)
        sim := s.drew
        sub := Sub.refl _
        fr := Fr.drew
        tr := forget_rel r
        wd := hw
        chk := hck
        comp := spec
        link := fun q hq => by cases hq
        now := fun p hp => by cases hp
        garb := fun f c hc => by cases hc
        inj := fun f c f' c' h1 => by cases h1
        unk := fun f o ty df R C hf fl _ => by
          obtain ⟨d, hd, hk, rfl⟩ := floats_mem hf
          obtain ⟨o2, ho2, hco, hkind, _⟩ := spec d hd
          have hoo : o2 = o := Option.some.inj (ho2.symm.trans fl.at_)
          subst hoo
          refine forget_none hk ?_ hd
          rw [← fl.dst]
          unfold cO at hco
          split at hco
          · split at hco
            · cases hc' : d.o; rw [hc'] at hco; simp only [Option.some.injEq, AO.mk.injEq] at hco; exact hco.1.symm
            · split at hco
              · cases hc' : d.o; rw [hc'] at hco; simp only [Option.some.injEq, AO.mk.injEq] at hco; exact hco.1.symm
              · cases hco
          · cases hco }
    · cases hc
  · cases hc

theorem Post.mono {γ0 γ1 : Gam} {ws w1 : World} {Q Q' : AX → Tm → Hp → Prop} (hs : Sub γ0 γ1) (hf : Fr γ0 ws γ1 w1) (hq : ∀ e t h, Q e t h → Q' e t h) {e : Exit} {a : Act} {w : World} (h : Post base w0 n γ1 w1 Q e a w) : Post base w0 n γ0 ws Q' e a w := by
  cases e <;> simp only [Post] at h ⊢
  all_goals
    obtain ⟨t, hh, γ, a1, a2, a3, a4, a5⟩ := h
    exact ⟨t, hh, γ, hq _ _ _ a1, hs.trans a2, hf.trans a3, a4, a5⟩

theorem W_sound (hm : P.follows .mixedOrders = true) : ∀ (c : Code) (ac ac' : AC) (γ : Gam) (h : Hp) (w : World) (t : Tm) (a : Act) (Q : AX → Tm → Hp → Prop), cC P n ac c = some ac' → W P ac' t h Q → Sim base w0 γ h w → TRel γ n t a → c.wp P (Post base w0 n γ w Q) a w := by
  intro c
  induction c with
  | skip =>
    intro ac ac' γ h w t a Q hc hw s r
    cases ac <;> simp only [cC] at hc <;> cases hc <;> first | exact False.elim hw | exact wp_skip ⟨t, h, γ, hw, Sub.refl _, Fr.refl _ _, s, r⟩
  | region id ops draw =>
    intro ac ac' γ h w t a Q hc hw s r
    cases draw
    · cases ac <;> simp only [cC] at hc <;> try (cases hc; first | done | exact False.elim hw)
      split at hc
      · rename_i l hl
        cases hc
        exact wp_region_list (ops_sound ops.toList l γ h w t a (Q .normal) hl s r hw fun γ' h' t' w' a' hs hf hsim ht hk => ⟨t', h', γ', hk, hs, hf, hsim, ht⟩)
      · cases hc
    · cases ac <;> simp only [cC] at hc <;> try (cases hc; first | done | exact False.elim hw)
      split at hc
      · rename_i l hl
        cases hc
        exact draw_sound hm hl hw s r
      · cases hc
  | seq x y ihx ihy =>
    intro ac ac' γ h w t a Q hc hw s r
    cases ac <;> simp only [cC] at hc <;> try (cases hc; first | done | exact False.elim hw)
    · split at hc
      · rename_i a' b' ha hb
        cases hc
        simp only [W] at hw
        refine wp_seq (wp_mono (ihx _ _ γ h w t a _ ha hw s r) fun e a1 w1 hp => ?_)
        cases e <;> simp only [Post] at hp <;> simp only [Exit.then]
        · obtain ⟨t1, h1, γ1, hq, hs, hf, hsim, ht⟩ := hp
          exact wp_mono (ihy _ _ γ1 h1 w1 t1 a1 Q hb hq hsim ht) fun e a w hp => Post.mono hs hf (fun _ _ _ h => h) hp
        · exact hp
        · exact hp
      · cases hc
    · split at hc
      · rename_i live _ _ a' b' ha hb
        cases hc
        simp only [W] at hw
        obtain ⟨M, hw1, hw2⟩ := hw
        refine wp_seq (wp_mono (ihx _ _ γ h w t a _ ha hw1 s r) fun e a1 w1 hp => ?_)
        cases e <;> simp only [Post] at hp <;> simp only [Exit.then]
        · obtain ⟨t1, h1, γ1, hq, hs, hf, hsim, ht⟩ := hp
          exact wp_mono (ihy _ _ γ1 h1 w1 _ a1 Q hb (hw2 _ _ hq) hsim (ht.keep _)) fun e a w hp => Post.mono hs hf (fun _ _ _ h => h) hp
        · exact hp
        · exact hp
      · cases hc
    · split at hc
      · rename_i live _ _ a' b' ha hb
        cases hc
        simp only [W] at hw
        refine wp_seq (wp_mono (ihx _ _ γ h w t a _ ha hw s r) fun e a1 w1 hp => ?_)
        cases e <;> simp only [Post] at hp <;> simp only [Exit.then]
        · obtain ⟨t1, h1, γ1, hq, hs, hf, hsim, ht⟩ := hp
          exact wp_mono (ihy _ _ γ1 h1 w1 _ a1 Q hb hq hsim (ht.keep _)) fun e a w hp => Post.mono hs hf (fun _ _ _ h => h) hp
        · exact hp
        · exact hp
      · cases hc
  | cond c x y ihx ihy =>
    intro ac ac' γ h w t a Q hc hw s r
    cases ac <;> simp only [cC] at hc <;> try (cases hc; first | done | exact False.elim hw)
    split at hc
    · rename_i a' b' hok ha hb
      cases hc
      simp only [W] at hw
      split at hw
      · rename_i b hv
        have hb' := bool_of (r.ev hok hv)
        refine wp_cond hb' ?_
        cases b
        · exact ihy _ _ γ h w t a Q hb (hw.2 rfl) s r
        · exact ihx _ _ γ h w t a Q ha (hw.1 rfl) s r
      · exact hw.elim
    · cases hc
  | block id x ih =>
    intro ac ac' γ h w t a Q hc hw s r
    cases ac <;> simp only [cC] at hc <;> try (cases hc; first | done | exact False.elim hw)
    split at hc
    · rename_i a' ha
      cases hc
      simp only [W] at hw
      refine wp_block (wp_mono (ih _ _ γ h w t a _ ha hw s r) fun e a1 w1 hp => ?_)
      cases e <;> simp only [Post] at hp <;> simp only [Exit.inBlock]
      · exact hp
      · rename_i i
        obtain ⟨t1, h1, γ1, hq, rest⟩ := hp
        split at hq
        · rename_i hi
          rw [if_pos hi]
          exact ⟨t1, h1, γ1, hq, rest⟩
        · rename_i hi
          rw [if_neg hi]
          exact ⟨t1, h1, γ1, hq, rest⟩
      · exact hp
    · cases hc
  | loop x ih =>
    intro ac ac' γ h w t a Q hc hw s r
    cases ac <;> simp only [cC] at hc <;> try (cases hc; first | done | exact False.elim hw)
    split at hc
    · rename_i live _ a' ha
      cases hc
      simp only [W] at hw
      obtain ⟨J, ⟨k, h0⟩, hround⟩ := hw
      refine wp_loopN (fun k a1 w1 => ∃ t1 h1 γ1, J k t1 h1 ∧ Sub γ γ1 ∧ Fr γ w γ1 w1 ∧ Sim base w0 γ1 h1 w1 ∧ TRel γ1 n t1 a1) (k := k) ⟨_, h, γ, h0, Sub.refl _, Fr.refl _ _, s, r.keep _⟩ ?_
      rintro k a1 w1 ⟨t1, h1, γ1, hj, hs, hf, hsim, ht⟩
      refine wp_mono (ih _ _ γ1 h1 w1 t1 a1 _ ha (hround k t1 h1 hj) hsim ht) fun e a2 w2 hp => ?_
      cases e <;> simp only [Post] at hp <;> simp only [Exit.then]
      · obtain ⟨t2, h2, γ2, ⟨m, hlt, hj2⟩, hs2, hf2, hsim2, ht2⟩ := hp
        exact ⟨m, hlt, _, h2, γ2, hj2, hs.trans hs2, hf.trans hf2, hsim2, ht2.keep _⟩
      · obtain ⟨t2, h2, γ2, hq, hs2, hf2, rest⟩ := hp
        exact ⟨t2, h2, γ2, hq, hs.trans hs2, hf.trans hf2, rest⟩
      · obtain ⟨t2, h2, γ2, hq, hs2, hf2, rest⟩ := hp
        exact ⟨t2, h2, γ2, hq, hs.trans hs2, hf.trans hf2, rest⟩
    · cases hc
  | exit id =>
    intro ac ac' γ h w t a Q hc hw s r
    cases ac <;> simp only [cC] at hc <;> cases hc <;> first | exact False.elim hw | exact wp_exit ⟨t, h, γ, hw, Sub.refl _, Fr.refl _ _, s, r⟩
  | ret =>
    intro ac ac' γ h w t a Q hc hw s r
    cases ac <;> simp only [cC] at hc <;> cases hc <;> first | exact False.elim hw | exact wp_ret ⟨t, h, γ, hw, Sub.refl _, Fr.refl _ _, s, r⟩
  | rangeFunc f ps x y _ _ => intro ac ac' γ h w t a Q hc hw s r; cases ac <;> simp only [cC] at hc <;> cases hc <;> exact False.elim hw
  | scope x _ => intro ac ac' γ h w t a Q hc hw s r; cases ac <;> simp only [cC] at hc <;> cases hc <;> exact False.elim hw
  | label l => intro ac ac' γ h w t a Q hc hw s r; cases ac <;> simp only [cC] at hc <;> cases hc <;> exact False.elim hw
  | goto l => intro ac ac' γ h w t a Q hc hw s r; cases ac <;> simp only [cC] at hc <;> cases hc <;> exact False.elim hw
  | refuse y => intro ac ac' γ h w t a Q hc hw s r; cases ac <;> simp only [cC] at hc <;> cases hc <;> exact False.elim hw
end
end Go.Proofs.Ytbfbgkhlngkifaa.Am
