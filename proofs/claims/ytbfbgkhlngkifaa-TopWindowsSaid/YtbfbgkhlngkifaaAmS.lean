/- Code over the abstract heap: blocks, loops, functions. Plain theorems.
   Conditions: none. -/
import Derived.Test.YtbfbgkhlngkifaaAmR
namespace Go.Proofs.Ytbfbgkhlngkifaa.Am
open Go Go.RowKit
set_option linter.unusedVariables false
set_option linter.unusedSimpArgs false

inductive AC where
  | skip
  | ops (l : List AO)
  | draw (l : List DO)
  | seq (a b : AC)
  | cut (live : List Nat) (a b : AC)
  | trim (live : List Nat) (a b : AC)
  | cond (c : Operand) (a b : AC)
  | block (id : Nat) (a : AC)
  | loop (live : List Nat) (a : AC)
  | exit (id : Nat)
  | ret
  /-- Never to be reached. -/
  | bad
inductive AX where
  | normal
  | exit (id : Nat)
  | ret
/-- What is to be shown of code. -/
def W (P : Program) : AC → Tm → Hp → (AX → Tm → Hp → Prop) → Prop
  | .skip, t, h, Q => Q .normal t h
  | .ops l, t, h, Q => Wops P l t h (Q .normal)
  | .draw l, t, h, Q => Wd P l (forget l t) h [] (Q .normal)
  | .seq x y, t, h, Q => W P x t h fun e t h => match e with
    | .normal => W P y t h Q
    | e => Q e t h
  | .cut live x y, t, h, Q => ∃ M : Tm → Hp → Prop, W P x t h (fun e t h => match e with
    | .normal => M (keep live t) h
    | e => Q e t h) ∧ ∀ t h, M t h → W P y t h Q
  | .trim live x y, t, h, Q => W P x t h fun e t h => match e with
    | .normal => W P y (keep live t) h Q
    | e => Q e t h
  | .cond c x y, t, h, Q => match ev t c with
    | some (.bool b) => (b = true → W P x t h Q) ∧ (b = false → W P y t h Q)
    | _ => False
  | .block id x, t, h, Q => W P x t h fun e t h => match e with
    | .exit i => if i = id then Q .normal t h else Q (.exit i) t h
    | e => Q e t h
  | .loop live x, t, h, Q => ∃ J : Nat → Tm → Hp → Prop, (∃ n, J n (keep live t) h) ∧ ∀ n t h, J n t h → W P x t h fun e t h => match e with
    | .normal => ∃ m, m < n ∧ J m (keep live t) h
    | e => Q e t h
  | .exit id, t, h, Q => Q (.exit id) t h
  | .ret, t, h, Q => Q .ret t h
  | .bad, t, h, Q => False

def cC (P : Program) (n : Nat) : AC → Code → Option AC
  | .skip, .skip => some .skip
  | .ops _, .region _ ops false => match cOps P n ops ops.toList with
    | some l => some (.ops l)
    | none => none
  | .draw sk, .region _ ops true => match cDraw P n ops sk with
    | some l => some (.draw l)
    | none => none
  | .seq a b, .seq x y => match cC P n a x, cC P n b y with
    | some a', some b' => some (.seq a' b')
    | _, _ => none
  | .cut live a b, .seq x y => match cC P n a x, cC P n b y with
    | some a', some b' => some (.cut live a' b')
    | _, _ => none
  | .trim live a b, .seq x y => match cC P n a x, cC P n b y with
    | some a', some b' => some (.trim live a' b')
    | _, _ => none
  | .cond _ a b, .cond c x y => match okO n c, cC P n a x, cC P n b y with
    | true, some a', some b' => some (.cond c a' b')
    | _, _, _ => none
  | .block _ a, .block id x => match cC P n a x with
    | some a' => some (.block id a')
    | none => none
  | .loop live a, .loop x => match cC P n a x with
    | some a' => some (.loop live a')
    | none => none
  | .exit _, .exit id => some (.exit id)
  | .ret, .ret => some .ret
  | .bad, _ => some .bad
  | _, _ => none

section
variable {P : Program} {n base : Nat} {w0 : World}

def Post (base : Nat) (w0 : World) (n : Nat) (γ0 : Gam) (ws : World) (Q : AX → Tm → Hp → Prop) : Exit → Act → World → Prop
  | .normal, a, w => ∃ t h γ, Q .normal t h ∧ Sub γ0 γ ∧ Fr γ0 ws γ w ∧ Sim base w0 γ h w ∧ TRel γ n t a
  | .exit id, a, w => ∃ t h γ, Q (.exit id) t h ∧ Sub γ0 γ ∧ Fr γ0 ws γ w ∧ Sim base w0 γ h w ∧ TRel γ n t a
  | .ret, a, w => ∃ t h γ, Q .ret t h ∧ Sub γ0 γ ∧ Fr γ0 ws γ w ∧ Sim base w0 γ h w ∧ TRel γ n t a
  | _, _, _ => False

theorem wp_loopN {c : Code} {Q : Exit → Act → World → Prop} (I : Nat → Act → World → Prop) {k : Nat} {a : Act} {w : World} (h₀ : I k a w)
    (round : ∀ k a w, I k a w → c.wp P (Exit.then (fun a' w' => ∃ m, m < k ∧ I m a' w') Q) a w) : (Code.loop c).wp P Q a w := by
  intro b kk cs
  have key : ∀ n a w, I n a w → ∃ e a' w', Q e a' w' ∧ Arrives P (lone (b.at a (.code c :: .inLoop c :: kk)) cs w) b kk cs e a' w' := by
    intro n
    induction n using Nat.strongRecOn with
    | _ n ih =>
      intro a w hI
      obtain ⟨e, a₁, w₁, hq, harr⟩ := round n a w hI b (.inLoop c :: kk) cs
      cases e with
      | normal =>
        obtain ⟨m, hlt, hI₁⟩ := hq
        obtain ⟨e₂, a₂, w₂, hq₂, harr₂⟩ := ih m hlt a₁ w₁ hI₁
        exact ⟨e₂, a₂, w₂, hq₂, .of_steps (Steps.trans harr (.one step_inLoop)) harr₂⟩
      | exit id => exact ⟨_, a₁, w₁, hq, .pass (x := .inLoop c) rfl (fun _ _ => .inl (by simp)) harr⟩
      | goto l => exact ⟨_, a₁, w₁, hq, .pass (x := .inLoop c) rfl (fun _ _ => .inl (by simp)) harr⟩
      | ret => exact ⟨_, a₁, w₁, hq, .pass (x := .inLoop c) rfl (fun _ _ => .inl (by simp)) harr⟩
      | panic ch => exact ⟨_, a₁, w₁, hq, .pass (x := .inLoop c) rfl (fun _ _ => .inl (by simp)) harr⟩
      | outgrown => exact ⟨_, a₁, w₁, hq, .pass (x := .inLoop c) rfl (fun _ _ => .inl (by simp)) harr⟩
  obtain ⟨e, a', w', hq, harr⟩ := key k a w h₀
  exact ⟨e, a', w', hq, .of_steps (.one step_loop) harr⟩

theorem cD1_spec {ops : Array Oper} {af : List Nat} : ∀ {sk l : List DO}, cD1 P n ops af sk = some l → ∀ d ∈ l, ∃ o, ops[d.i]? = some o ∧ cO P n ops o = some d.o ∧ kindOk d.kind d.o = true ∧ d.b = af.getD d.i 0
  | [], l, h => by cases h; intro d hd; cases hd
  | d :: r, l, h => by
    simp only [cD1] at h
    split at h
    · rename_i o ho
      split at h
      · rename_i ao hao
        split at h
        · rename_i l' hk hl
          cases h
          intro x hx
          rcases List.mem_cons.1 hx with rfl | hx
          · exact ⟨o, ho, hao, hk, rfl⟩
          · exact cD1_spec hl x hx
        · cases h
      · cases h
    · cases h

theorem floats_mem : ∀ {l : List DO} {f : Nat}, (floatsM l).testBit f = true → ∃ d ∈ l, d.kind = 3 ∧ d.i = f
  | [], f, h => by simp [floatsM] at h
  | d :: r, f, h => by
    simp only [floatsM] at h
    split at h
    · rename_i hk
      rw [Nat.testBit_or, Bool.or_eq_true, Nat.testBit_two_pow, decide_eq_true_eq] at h
      rcases h with h | h
      · exact ⟨d, by simp, hk, h⟩
      · obtain ⟨x, hx, h2⟩ := floats_mem h
        exact ⟨x, by simp [hx], h2⟩
    · obtain ⟨x, hx, h2⟩ := floats_mem h
      exact ⟨x, by simp [hx], h2⟩

theorem forget_rel {γ : Gam} {a : Act} : ∀ {l : List DO} {t : Tm}, TRel γ n t a → TRel γ n (forget l t) a
  | [], t, r => r
  | d :: l, t, r => by
    simp only [forget]
    split
    · refine forget_rel ⟨r.size, r.defers, fun i v hv => ?_⟩
      cases hd : d.o.d with
      | none => rw [hd] at hv; exact r.get i v hv
      | some j =>
        rw [hd] at hv
        by_cases e : i = j
        · subst e; rw [tget_put_self] at hv; cases hv
        · rw [tget_put_ne (by simpa using Ne.symm e)] at hv
          exact r.get i v hv
    · exact forget_rel r
theorem forget_keep : ∀ {l : List DO} {t : Tm} {i : Nat}, tget t i = none → tget (forget l t) i = none
  | [], t, i, h => h
  | d :: l, t, i, h => by
    simp only [forget]
    split
    · refine forget_keep ?_
      cases hd : d.o.d with
      | none => exact h
      | some j =>
        by_cases e : i = j
        · subst e; exact tget_put_self
        · rw [tget_put_ne (by simpa using Ne.symm e)]; exact h
    · exact forget_keep h
theorem forget_none {d : DO} {i : Nat} (hk : d.kind = 3) (hd : d.o.d = some i) : ∀ {l : List DO} {t : Tm}, d ∈ l → tget (forget l t) i = none := by
  intro l
  induction l with
  | nil => intro t hm; cases hm
  | cons x l ih =>
    intro t hm
    rcases List.mem_cons.1 hm with rfl | hm
    · have : forget (d :: l) t = forget l (tput t d.o.d none) := by simp [forget, hk]
      rw [this, hd]
      exact forget_keep tget_put_self
    · unfold forget
      split
      · exact ih hm
      · exact ih hm

theorem draw_sound (hm : P.follows .mixedOrders = true) {id : Nat} {ops : Array Oper} {sk l : List DO} (hc : cDraw P n ops sk = some l) {γ : Gam} {h : Hp} {w : World} {t : Tm} {a : Act} {Q : AX → Tm → Hp → Prop}
    (hw : Wd P l (forget l t) h [] (Q .normal)) (s : Sim base w0 γ h w) (r : TRel γ n t a) : (Code.region id ops true).wp P (Post base w0 n γ w Q) a w := by
  unfold cDraw at hc
  split at hc
  · rename_i l' hl
    split at hc
    · rename_i hchk
      cases hc
      simp only [Bool.and_eq_true] at hchk
      obtain ⟨⟨hsel, hfl⟩, hck⟩ := hchk
      have spec := cD1_spec hl
      have hF : ∀ f, (floatsM l).testBit f = true → ∃ o ty z df, Flo P n ops f o ty z df := fun f hf => by
        obtain ⟨d, hd, hk, rfl⟩ := floats_mem hf
        obtain ⟨o, ho, hco, hkind, _⟩ := spec d hd
        have hfo := List.all_eq_true.1 hfl d hd
        rw [hk] at hkind hfo
        simp only [show Nat.beq 3 3 = true from rfl, Bool.not_true, Bool.false_or, floatOk, ho, Bool.and_eq_true] at hfo
        obtain ⟨hdep, honly⟩ := hfo
        obtain ⟨di, dk, db, ⟨dd, dg, dkk⟩⟩ := d
        simp only [kindOk] at hkind
        split at hkind
        · rename_i _ _ zl d1 hx
          simp only at hco ho hdep honly
          have hinv : cK P n o.op = some (.alloc zl) ∧ o.dst = some d1 ∧ o.guard = none ∧ okD n o.dst = true := by
            unfold cO at hco
            split at hco
            · split at hco
              · simp only [Option.some.injEq, AO.mk.injEq] at hco
                exact ⟨by rw [← hco.2.2]; assumption, hco.1, ‹_›, ‹_›⟩
              · split at hco
                · simp only [Option.some.injEq, AO.mk.injEq] at hco
                  cases hco.2.1
                · cases hco
            · cases hco
          obtain ⟨hck, hdst, hgd, hok⟩ := hinv
          obtain ⟨ty, ti, z, hop, hi, hz, rfl, hpl⟩ := alloc_inv hck
          refine ⟨o, ty, z, d1, ho, hop, ⟨ti, hi, hz⟩, hpl, hdst, okD_lt hok d1 hdst, hgd, List.length_eq_zero_iff.1 (Nat.eq_of_beq_eq_true hdep), fun j oj hj hji he => ?_⟩
          have := List.all_eq_true.1 honly j (List.mem_range.2 (Array.getElem?_eq_some_iff.1 hj).1)
          simp only [Bool.or_eq_true, hj, he, hdst] at this
          rcases this with h1 | h1
          · exact hji (Nat.eq_of_beq_eq_true h1)
          · simp at h1
        · cases hkind
      refine wp_region_any hm (wpAny_of_T _ _ _ _ _ (draw_main (K := Q .normal) (γs := γ) (ws := w) (F := floatsM l) (fun γ' h' t' w' a' hs hf hsim ht hk => ⟨t', h', γ', hk, hs, hf, hsim, ht⟩) (fun c a w hq => hq) (Region.noSelect_spec hsel) s.wsz hF ops.size l 0 [] (Array.replicate ops.size false) γ h _ (forget l t) a [] [] ?_))
      exact {
        size := by simp
        closed := fun j oj hj hl => by
          exfalso
          by_cases hjs : j < ops.size
          · simp [hjs] at hl
          · simp [hjs] at hl
        mlt := fun i hi => by simp at hi
        lis := fun i hi => by simp [hi]
        fuel := by unfold cnt; rw [Array.toList_replicate]; exact Nat.le_trans List.count_le_length (by simp)
        sim := s.drew
        sub := Sub.refl _
        fr := Fr.drew
        tr := forget_rel r
        wd := hw
        chk := hck
        comp := spec
        link := fun q hq => by cases hq
        now := fun p hp => by cases hp
        garb := fun f c hc => by cases hc
        inj := fun f c f' c' h1 => by cases h1
        unk := fun f o ty z df hf fl _ => by
          obtain ⟨d, hd, hk, rfl⟩ := floats_mem hf
          obtain ⟨o2, ho2, hco, hkind, _⟩ := spec d hd
          have hoo : o2 = o := Option.some.inj (ho2.symm.trans fl.at_)
          subst hoo
          refine forget_none hk ?_ hd
          rw [← fl.dst]
          unfold cO at hco
          split at hco
          · split at hco
            · cases hc' : d.o; rw [hc'] at hco; simp only [Option.some.injEq, AO.mk.injEq] at hco; exact hco.1.symm
            · split at hco
              · cases hc' : d.o; rw [hc'] at hco; simp only [Option.some.injEq, AO.mk.injEq] at hco; exact hco.1.symm
              · cases hco
          · cases hco }
    · cases hc
  · cases hc

theorem Post.mono {γ0 γ1 : Gam} {ws w1 : World} {Q Q' : AX → Tm → Hp → Prop} (hs : Sub γ0 γ1) (hf : Fr γ0 ws γ1 w1) (hq : ∀ e t h, Q e t h → Q' e t h) {e : Exit} {a : Act} {w : World} (h : Post base w0 n γ1 w1 Q e a w) : Post base w0 n γ0 ws Q' e a w := by
  cases e <;> simp only [Post] at h ⊢
  all_goals
    obtain ⟨t, hh, γ, a1, a2, a3, a4, a5⟩ := h
    exact ⟨t, hh, γ, hq _ _ _ a1, hs.trans a2, hf.trans a3, a4, a5⟩

theorem W_sound (hm : P.follows .mixedOrders = true) : ∀ (c : Code) (ac ac' : AC) (γ : Gam) (h : Hp) (w : World) (t : Tm) (a : Act) (Q : AX → Tm → Hp → Prop), cC P n ac c = some ac' → W P ac' t h Q → Sim base w0 γ h w → TRel γ n t a → c.wp P (Post base w0 n γ w Q) a w := by
  intro c
  induction c with
  | skip =>
    intro ac ac' γ h w t a Q hc hw s r
    cases ac <;> simp only [cC] at hc <;> cases hc <;> first | exact False.elim hw | exact wp_skip ⟨t, h, γ, hw, Sub.refl _, Fr.refl _ _, s, r⟩
  | region id ops draw =>
    intro ac ac' γ h w t a Q hc hw s r
    cases draw
    · cases ac <;> simp only [cC] at hc <;> try (cases hc; first | done | exact False.elim hw)
      split at hc
      · rename_i l hl
        cases hc
        exact wp_region_list (ops_sound ops.toList l γ h w t a (Q .normal) hl s r hw fun γ' h' t' w' a' hs hf hsim ht hk => ⟨t', h', γ', hk, hs, hf, hsim, ht⟩)
      · cases hc
    · cases ac <;> simp only [cC] at hc <;> try (cases hc; first | done | exact False.elim hw)
      split at hc
      · rename_i l hl
        cases hc
        exact draw_sound hm hl hw s r
      · cases hc
  | seq x y ihx ihy =>
    intro ac ac' γ h w t a Q hc hw s r
    cases ac <;> simp only [cC] at hc <;> try (cases hc; first | done | exact False.elim hw)
    · split at hc
      · rename_i a' b' ha hb
        cases hc
        simp only [W] at hw
        refine wp_seq (wp_mono (ihx _ _ γ h w t a _ ha hw s r) fun e a1 w1 hp => ?_)
        cases e <;> simp only [Post] at hp <;> simp only [Exit.then]
        · obtain ⟨t1, h1, γ1, hq, hs, hf, hsim, ht⟩ := hp
          exact wp_mono (ihy _ _ γ1 h1 w1 t1 a1 Q hb hq hsim ht) fun e a w hp => Post.mono hs hf (fun _ _ _ h => h) hp
        · exact hp
        · exact hp
      · cases hc
    · split at hc
      · rename_i live _ _ a' b' ha hb
        cases hc
        simp only [W] at hw
        obtain ⟨M, hw1, hw2⟩ := hw
        refine wp_seq (wp_mono (ihx _ _ γ h w t a _ ha hw1 s r) fun e a1 w1 hp => ?_)
        cases e <;> simp only [Post] at hp <;> simp only [Exit.then]
        · obtain ⟨t1, h1, γ1, hq, hs, hf, hsim, ht⟩ := hp
          exact wp_mono (ihy _ _ γ1 h1 w1 _ a1 Q hb (hw2 _ _ hq) hsim (ht.keep _)) fun e a w hp => Post.mono hs hf (fun _ _ _ h => h) hp
        · exact hp
        · exact hp
      · cases hc
    · split at hc
      · rename_i live _ _ a' b' ha hb
        cases hc
        simp only [W] at hw
        refine wp_seq (wp_mono (ihx _ _ γ h w t a _ ha hw s r) fun e a1 w1 hp => ?_)
        cases e <;> simp only [Post] at hp <;> simp only [Exit.then]
        · obtain ⟨t1, h1, γ1, hq, hs, hf, hsim, ht⟩ := hp
          exact wp_mono (ihy _ _ γ1 h1 w1 _ a1 Q hb hq hsim (ht.keep _)) fun e a w hp => Post.mono hs hf (fun _ _ _ h => h) hp
        · exact hp
        · exact hp
      · cases hc
  | cond c x y ihx ihy =>
    intro ac ac' γ h w t a Q hc hw s r
    cases ac <;> simp only [cC] at hc <;> try (cases hc; first | done | exact False.elim hw)
    split at hc
    · rename_i a' b' hok ha hb
      cases hc
      simp only [W] at hw
      split at hw
      · rename_i b hv
        have hb' := bool_of (r.ev hok hv)
        refine wp_cond hb' ?_
        cases b
        · exact ihy _ _ γ h w t a Q hb (hw.2 rfl) s r
        · exact ihx _ _ γ h w t a Q ha (hw.1 rfl) s r
      · exact hw.elim
    · cases hc
  | block id x ih =>
    intro ac ac' γ h w t a Q hc hw s r
    cases ac <;> simp only [cC] at hc <;> try (cases hc; first | done | exact False.elim hw)
    split at hc
    · rename_i a' ha
      cases hc
      simp only [W] at hw
      refine wp_block (wp_mono (ih _ _ γ h w t a _ ha hw s r) fun e a1 w1 hp => ?_)
      cases e <;> simp only [Post] at hp <;> simp only [Exit.inBlock]
      · exact hp
      · rename_i i
        obtain ⟨t1, h1, γ1, hq, rest⟩ := hp
        split at hq
        · rename_i hi
          rw [if_pos hi]
          exact ⟨t1, h1, γ1, hq, rest⟩
        · rename_i hi
          rw [if_neg hi]
          exact ⟨t1, h1, γ1, hq, rest⟩
      · exact hp
    · cases hc
  | loop x ih =>
    intro ac ac' γ h w t a Q hc hw s r
    cases ac <;> simp only [cC] at hc <;> try (cases hc; first | done | exact False.elim hw)
    split at hc
    · rename_i live _ a' ha
      cases hc
      simp only [W] at hw
      obtain ⟨J, ⟨k, h0⟩, hround⟩ := hw
      refine wp_loopN (fun k a1 w1 => ∃ t1 h1 γ1, J k t1 h1 ∧ Sub γ γ1 ∧ Fr γ w γ1 w1 ∧ Sim base w0 γ1 h1 w1 ∧ TRel γ1 n t1 a1) (k := k) ⟨_, h, γ, h0, Sub.refl _, Fr.refl _ _, s, r.keep _⟩ ?_
      rintro k a1 w1 ⟨t1, h1, γ1, hj, hs, hf, hsim, ht⟩
      refine wp_mono (ih _ _ γ1 h1 w1 t1 a1 _ ha (hround k t1 h1 hj) hsim ht) fun e a2 w2 hp => ?_
      cases e <;> simp only [Post] at hp <;> simp only [Exit.then]
      · obtain ⟨t2, h2, γ2, ⟨m, hlt, hj2⟩, hs2, hf2, hsim2, ht2⟩ := hp
        exact ⟨m, hlt, _, h2, γ2, hj2, hs.trans hs2, hf.trans hf2, hsim2, ht2.keep _⟩
      · obtain ⟨t2, h2, γ2, hq, hs2, hf2, rest⟩ := hp
        exact ⟨t2, h2, γ2, hq, hs.trans hs2, hf.trans hf2, rest⟩
      · obtain ⟨t2, h2, γ2, hq, hs2, hf2, rest⟩ := hp
        exact ⟨t2, h2, γ2, hq, hs.trans hs2, hf.trans hf2, rest⟩
    · cases hc
  | exit id =>
    intro ac ac' γ h w t a Q hc hw s r
    cases ac <;> simp only [cC] at hc <;> cases hc <;> first | exact False.elim hw | exact wp_exit ⟨t, h, γ, hw, Sub.refl _, Fr.refl _ _, s, r⟩
  | ret =>
    intro ac ac' γ h w t a Q hc hw s r
    cases ac <;> simp only [cC] at hc <;> cases hc <;> first | exact False.elim hw | exact wp_ret ⟨t, h, γ, hw, Sub.refl _, Fr.refl _ _, s, r⟩
  | rangeFunc f ps x y _ _ => intro ac ac' γ h w t a Q hc hw s r; cases ac <;> simp only [cC] at hc <;> cases hc <;> exact False.elim hw
  | scope x _ => intro ac ac' γ h w t a Q hc hw s r; cases ac <;> simp only [cC] at hc <;> cases hc <;> exact False.elim hw
  | label l => intro ac ac' γ h w t a Q hc hw s r; cases ac <;> simp only [cC] at hc <;> cases hc <;> exact False.elim hw
  | goto l => intro ac ac' γ h w t a Q hc hw s r; cases ac <;> simp only [cC] at hc <;> cases hc <;> exact False.elim hw
  | refuse y => intro ac ac' γ h w t a Q hc hw s r; cases ac <;> simp only [cC] at hc <;> cases hc <;> exact False.elim hw
end
end Go.Proofs.Ytbfbgkhlngkifaa.Am
