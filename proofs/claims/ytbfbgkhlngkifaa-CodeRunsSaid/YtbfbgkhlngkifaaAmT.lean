/- Functions over the abstract heap. Plain theorems.
   Conditions: none. -/
import Derived.Test.YtbfbgkhlngkifaaAmS
namespace Go.Proofs.Ytbfbgkhlngkifaa.Am
open Go Go.RowKit
set_option linter.unusedVariables false
set_option linter.unusedSimpArgs false

/-- Where a result lies. -/
inductive AR where
  | tmp (i : Nat)
  | cell1 (a : Nat)
  | cellN (z a : Nat)
def resVals : List AR → Tm → Hp → (List Value → Prop) → Prop
  | [], _, _, K => K []
  | .tmp i :: r, t, h, K => match tget t i with
    | some v => resVals r t h fun vs => K (v :: vs)
    | none => False
  | .cell1 i :: r, t, h, K => match tget t i with
    | some (.pointer (some ⟨b, off, none⟩)) => ∃ v, h.rd b off = some v ∧ resVals r t h fun vs => K (v :: vs)
    | _ => False
  | .cellN z i :: r, t, h, K => match tget t i with
    | some (.pointer (some ⟨b, off, none⟩)) => ∃ cs, h.rdN b off z = some cs ∧ resVals r t h fun vs => K (.agg cs.toArray :: vs)
    | _ => False
def retV : List Value → Value
  | [v] => v
  | vs => .tuple vs.toArray
def cRes (P : Program) : List ResultVar → Option (List AR)
  | [] => some []
  | .tmp i :: r => match cRes P r with
    | some l => some (.tmp i :: l)
    | none => none
  | .cell a ty :: r => match P.underlying ty, P.info? ty, cRes P r with
    | some d, some ti, some l => match aggD d with
      | true => some (.cellN ti.size a :: l)
      | false => some (.cell1 a :: l)
    | _, _, _ => none
/-- A function: how many temporaries, its results, its code. -/
structure AF where
  n : Nat
  res : List AR
  code : AC
def cF (P : Program) (f : FuncId) (F : AF) : Option AF := match P.funcs[f]? with
  | some fn => match fn.body, cRes P fn.results.toList with
    | some c, some rs => match cC P fn.ntmps F.code c with
      | some ac => some ⟨fn.ntmps, rs, ac⟩
      | none => none
    | _, _ => none
  | none => none
def argsT : List Value → Nat → Tm
  | [], _ => []
  | v :: r, i => (i, some v) :: argsT r (i + 1)
/-- What is to be shown of a function. -/
def WF (P : Program) (F : AF) (args : List Value) (h : Hp) (Q : Value → Hp → Prop) : Prop := W P F.code (argsT args 0) h fun e t h' => match e with
  | .normal => resVals F.res t h' fun vs => Q (retV vs) h'
  | .ret => resVals F.res t h' fun vs => Q (retV vs) h'
  | .exit _ => False

section
variable {P : Program} {n base : Nat} {w0 : World}

theorem argsT_get : ∀ {vs : List Value} {i j : Nat} {v : Value}, tget (argsT vs i) j = some v → i ≤ j ∧ vs[j - i]? = some v
  | [], i, j, v, h => by cases h
  | u :: vs, i, j, v, h => by
    simp only [argsT, tget] at h
    by_cases e : j = i
    · subst e
      rw [show Nat.beq j j = true from Nat.beq_refl j] at h
      cases h
      exact ⟨Nat.le_refl _, by simp⟩
    · have : Nat.beq j i = false := by
        cases hb : Nat.beq j i
        · rfl
        · exact absurd (Nat.eq_of_beq_eq_true hb) e
      rw [this] at h
      obtain ⟨h1, h2⟩ := argsT_get h
      refine ⟨by omega, ?_⟩
      rw [show j - i = (j - (i + 1)) + 1 by omega, List.getElem?_cons_succ]
      exact h2

def oneRes (tmps : Array Value) : ResultVar → Sem Value
  | .tmp t => Pure.pure (tmps.getD t undef)
  | .cell p ty => do loadVar ty (← asAddr (tmps.getD p undef))
theorem res_sound {γ : Gam} {h : Hp} {w : World} {t : Tm} {a : Act} (s : Sim base w0 γ h w) (r : TRel γ n t a) : ∀ {rs : List ResultVar} {ars : List AR} {K : List Value → Prop}, cRes P rs = some ars → resVals ars t h K →
    ∃ vs vs', K vs ∧ LRel γ vs vs' ∧ (rs.mapM (oneRes a.tmps)).run P w = .ok vs' w
  | [], ars, K, hc, hk => by cases hc; exact ⟨[], [], hk, LRel.nil, by simp⟩
  | .tmp i :: rs, ars, K, hc, hk => by
    simp only [cRes] at hc
    split at hc
    · rename_i l hl
      cases hc
      simp only [resVals] at hk
      split at hk
      · rename_i v hv
        obtain ⟨vs, vs', h1, h2, h3⟩ := res_sound s r hl hk
        obtain ⟨v', ha, hr⟩ := r.get i v hv
        refine ⟨v :: vs, v' :: vs', h1, LRel.cons hr h2, ?_⟩
        have e1 : (oneRes a.tmps (.tmp i)).run P w = .ok v' w := by simp [oneRes, ha]
        simp [List.mapM_cons, h3, e1]
      · exact hk.elim
    · cases hc
  | .cell p ty :: rs, ars, K, hc, hk => by
    simp only [cRes] at hc
    split at hc
    · rename_i d ti l hd hi hl
      split at hc
      · rename_i hagg
        cases hc
        simp only [resVals] at hk
        split at hk
        · rename_i b off hv
          obtain ⟨cs, hrd, hk⟩ := hk
          obtain ⟨vs, vs', h1, h2, h3⟩ := res_sound s r hl hk
          obtain ⟨v', ha, hr⟩ := r.get p _ hv
          cases hr with
          | ptr hg =>
            obtain ⟨ob, hget, hle, rfl⟩ := rdN_of hrd
            obtain ⟨C, e, lo, hi', l'⟩ := s.at hg hget
            obtain ⟨ys, hrel, _, _, hrun⟩ := l'.run (P := P) hle
            refine ⟨_ :: vs, .agg ys.toArray :: vs', h1, LRel.cons (VRel.agg_of hrel) h2, ?_⟩
            have e1 : (oneRes a.tmps (.cell p ty)).run P w = .ok (.agg ys.toArray) w := by simp [oneRes, ha, asAddr, loadVar, run_isAgg_true hd hagg, run_size hi, hrun]
            simp [List.mapM_cons, h3, e1]
        · exact hk.elim
      · rename_i hagg
        cases hc
        simp only [resVals] at hk
        split at hk
        · rename_i b off hv
          obtain ⟨v, hrd, hk⟩ := hk
          obtain ⟨vs, vs', h1, h2, h3⟩ := res_sound s r hl hk
          obtain ⟨v', ha, hr⟩ := r.get p _ hv
          cases hr with
          | ptr hg =>
            unfold Hp.rd at hrd
            cases hget : h.get b with
            | none => rw [hget] at hrd; cases hrd
            | some ob =>
              rw [hget] at hrd
              obtain ⟨C, e, lo, hi', l'⟩ := s.at hg hget
              obtain ⟨u, hcell, hru⟩ := l'.cell hrd
              refine ⟨v :: vs, u :: vs', h1, LRel.cons hru h2, ?_⟩
              have e1 : (oneRes a.tmps (.cell p ty)).run P w = .ok u w := by simp [oneRes, ha, asAddr, loadVar, run_isAgg_true hd hagg, run_load, hcell]
              simp [List.mapM_cons, h3, e1]
        · exact hk.elim
    · cases hc

theorem retV_rel {γ : Gam} {vs vs' : List Value} (h : LRel γ vs vs') : VRel γ (retV vs) (retV vs') := by
  match vs, vs', h with
  | [], [], h => exact VRel.tuple_of h
  | [], _ :: _, h => have := h.1; simp at this
  | [v], [v'], h => exact h.2 0 (by simp) (by simp)
  | [v], [], h => have := h.1; simp at this
  | [v], _ :: _ :: _, h => have := h.1; simp at this
  | _ :: _ :: _, [], h => have := h.1; simp at this
  | _ :: _ :: _, [_], h => have := h.1; simp at this
  | _ :: _ :: _, _ :: _ :: _, h => exact VRel.tuple_of h

/-- A function, by what is shown of its code. -/
theorem fn_sound (hm : P.follows .mixedOrders = true) {f : FuncId} {F : AF} (hF : cF P f F = some F) {args : List Value} {h : Hp} {Q : Value → Hp → Prop} (hn : args.length ≤ F.n) (hw : WF P F args h Q) : ACalls P f args h Q := by
  unfold cF at hF
  split at hF
  · rename_i fn hfn
    split at hF
    · rename_i c rs hb hr
      split at hF
      · rename_i ac hac
        have hF' := Option.some.inj hF
        obtain ⟨Fn, Fr', Fc⟩ := F
        simp only [AF.mk.injEq] at hF'
        obtain ⟨rfl, rfl, rfl⟩ := hF'
        refine ⟨fun base w0 γ w args' s r => ?_⟩
        have hsz : args'.toArray.size ≤ fn.ntmps := by simpa [← r.1] using hn
        refine calls_of_wp hfn hb (wp_mono (W_sound hm c _ _ γ h w (argsT args 0) _ _ hac hw s ⟨by simp at hsz ⊢; omega, rfl, fun i v hv => ?_⟩) fun e a w' hp => ?_)
        · obtain ⟨_, h2⟩ := argsT_get hv
          obtain ⟨v', h3, h4⟩ := r.get? h2
          have hi : i < args'.length := (List.getElem?_eq_some_iff.1 h3).1
          refine ⟨v', ?_, h4⟩
          simp only [Nat.sub_zero] at h3
          rw [Array.getElem?_append_left (by simpa using hi)]
          simpa using h3
        · have done : ∀ t h' γ', resVals rs t h' (fun vs => Q (retV vs) h') → Sub γ γ' → Fr γ w γ' w' → Sim base w0 γ' h' w' → TRel γ' fn.ntmps t a → a.defers = [] ∧ ∃ v, (results fn a.tmps).run P w' = .ok v w' ∧
              ∃ (v1 v' : Value) (h' : Hp) (γ' : Gam), Ending.returned v = .returned v' ∧ Q v1 h' ∧ Sub γ γ' ∧ Fr γ w γ' w' ∧ VRel γ' v1 v' ∧ Sim base w0 γ' h' w' := by
            intro t h' γ' hk hs hf hsim ht
            obtain ⟨vs, vs', k1, k2, k3⟩ := res_sound (P := P) hsim ht hr hk
            refine ⟨ht.defers, retV vs', ?_, retV vs, retV vs', h', γ', rfl, k1, hs, hf, retV_rel k2, hsim⟩
            have e1 : (results fn a.tmps).run P w' = ((fn.results.mapM (oneRes a.tmps)).run P w').andThen fun vs w2 => .ok (if h : vs.size = 1 then vs[0] else .tuple vs) w2 := by
              show (do let vs ← fn.results.mapM (oneRes a.tmps); Pure.pure (if h : vs.size = 1 then vs[0] else .tuple vs) : Sem Value).run P w' = _
              simp only [Sem.run_bind, Sem.run_pure]
            rw [e1, Array.mapM_eq_mapM_toList, Sem.run_map, k3]
            simp only [Result.andThen_ok]
            congr 1
            match vs' with
            | [] => rfl
            | [v] => rfl
            | _ :: _ :: _ => rfl
          cases e <;> simp only [Post] at hp <;> simp only [bodyPost]
          · obtain ⟨t, h', γ', hk, hs, hf, hsim, ht⟩ := hp
            exact done t h' γ' hk hs hf hsim ht
          · obtain ⟨t, h', γ', hk, _⟩ := hp
            exact hk.elim
          · obtain ⟨t, h', γ', hk, hs, hf, hsim, ht⟩ := hp
            exact done t h' γ' hk hs hf hsim ht
      · cases hF
    · cases hF
  · cases hF

/-! ### calls that see nothing of the heap -/
def Hp.nil : Hp := ⟨0, fun _ => none, fun _ => none⟩
theorem plainV_any {γ γ' : Gam} {v v' : Value} (hp : plainV v = true) (h : VRel γ v v') : VRel γ' v v' := by
  unfold plainV at hp
  split at hp <;> first | (cases h; constructor; done) | cases hp

/-- What a call does over the empty heap it does over every one: its blocks are forgotten. -/
theorem ACalls.closed {f : FuncId} {args : List Value} {Q : Value → Hp → Prop} (c : ACalls P f args Hp.nil Q) (ha : args.all plainV = true) (hq : ∀ v h, Q v h → plainV v = true) (h : Hp) : ACalls P f args h fun v h' => (∃ h0, Q v h0) ∧ h' = h := by
  refine ⟨fun base w0 γ w args' s r => ?_⟩
  let γ0 : Gam := fun _ => none
  have s0 : Sim w.heap.size w γ0 Hp.nil w := ⟨Below.refl _ _, Nat.le_refl _, fun b _ => ⟨rfl, rfl⟩, (fun b c σ E hg => by cases hg), (fun b o ho => by cases ho), (fun b b' o o' c σ E σ' E' ho => by cases ho), MSim.none⟩
  have r0 : LRel γ0 args args' := ⟨r.1, fun i hi hj => plainV_any (List.all_eq_true.1 ha _ (List.getElem_mem hi)) (r.2 i hi hj)⟩
  refine (c.out _ w γ0 w args' s0 r0).mono fun e w' ⟨v, v', h', γ', he, hQ, hs, hf, hvr, hsim⟩ => ?_
  have hb := hsim.bel
  refine ⟨v, v', h, γ, he, ⟨⟨h', hQ⟩, rfl⟩, Sub.refl _, ⟨hb.size, fun c hc ho => ⟨hb.block c hc, ho⟩⟩, plainV_any (hq v h' hQ) hvr, ?_⟩
  refine ⟨⟨hb.os.trans s.bel.os, hb.tape.trans s.bel.tape, hb.output.trans s.bel.output, Nat.le_trans s.bel.size hb.size, fun k hk => (hb.block k (Nat.lt_of_lt_of_le hk s.wsz)).trans (s.bel.block k hk)⟩, Nat.le_trans s.wsz hb.size, s.top, fun b c σ E hg => Nat.lt_of_lt_of_le (s.low b c σ E hg) hb.size, fun b o ho => ?_, s.inj, s.maps.keep (Sub.refl _) (Nat.le_refl _) fun c es cl hc => hb.block c (map_lt hc)⟩
  obtain ⟨c, σ, E, C, e, lo, hi, hg, l⟩ := s.obj b o ho
  exact ⟨c, σ, E, C, e, lo, hi, hg, l.mono (Sub.refl _) (hb.block c (s.low b c σ E hg))⟩

/-- From the abstract call to the model's: the law's own call, over the memory that it finds. -/
theorem ACalls.enter {f : FuncId} {args args' : List Value} {h : Hp} {γ : Gam} {w : World} {Q : Value → Hp → Prop} (c : ACalls P f args h Q) (s : Sim w.heap.size w γ h w) (r : LRel γ args args') {b : Bool} (hq : ∀ v h, Q v h → v = .bool b) :
    Calls P f args'.toArray w fun e w' => e = .returned (.bool b) ∧ Below w.heap.size w w' :=
  (c.out _ w γ w args' s r).mono fun e w' ⟨v, v', h', γ', he, hQ, _, _, hvr, hsim⟩ => by
    have := hq v h' hQ
    subst this
    cases hvr
    exact ⟨he, hsim.bel⟩
end
end Go.Proofs.Ytbfbgkhlngkifaa.Am
