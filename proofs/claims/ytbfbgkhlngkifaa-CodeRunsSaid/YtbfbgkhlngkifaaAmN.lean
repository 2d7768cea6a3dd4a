/- Code over the abstract heap: what is to be shown of it (W), and the calls. Plain theorems.
   Conditions: none. -/
import Derived.Test.YtbfbgkhlngkifaaAmM
import Derived.Tactics
namespace Go.Proofs.Ytbfbgkhlngkifaa.Am
open Go Go.RowKit
set_option linter.unusedVariables false
set_option linter.unusedSimpArgs false

/-- A call, told over abstract values and heaps: it returns, and Q is true of what it returns and of the heap behind it. -/
structure ACalls (P : Program) (f : FuncId) (args : List Value) (h : Hp) (Q : Value → Hp → Prop) : Prop where
  out : ∀ (base : Nat) (w0 : World) (γ : Gam) (w : World) (args' : List Value), Sim base w0 γ h w → LRel γ args args' →
    Calls P f args'.toArray w fun e w' => ∃ (v v' : Value) (h' : Hp) (γ' : Gam), e = .returned v' ∧ Q v h' ∧ Sub γ γ' ∧ Fr γ w γ' w' ∧ VRel γ' v v' ∧ Sim base w0 γ' h' w'
theorem ACalls.mono {P : Program} {f : FuncId} {args : List Value} {h : Hp} {Q Q' : Value → Hp → Prop} (c : ACalls P f args h Q) (hq : ∀ v h, Q v h → Q' v h) : ACalls P f args h Q' :=
  ⟨fun base w0 γ w args' s r => (c.out base w0 γ w args' s r).mono fun e w' ⟨v, v', h', γ', a, b, rest⟩ => ⟨v, v', h', γ', a, hq _ _ b, rest⟩⟩

/-- A step with its place and its guard. -/
structure AO where
  d : Option Nat
  g : Option (Nat × Bool)
  k : AK
def AO.run (P : Program) (o : AO) (t : Tm) (h : Hp) (K : Tm → Hp → Prop) : Prop := match o.k with
  | .call f args => match evs t args with
    | some vs => ACalls P f vs h fun v h' => K (tput t o.d (some v)) h'
    | none => False
  | .callv x args => match ev t x, evs t args with
    | some (.func (.func f) us vs), some as => okF P f = true ∧ ACalls P f (us.toList ++ as ++ vs.toList) h fun v h' => K (tput t o.d (some v)) h'
    | _, _ => False
  | .inv rows x args => match ev t x, evs t args with
    | some (.iface ty u), some as => ∃ f, findR rows ty = some f ∧ ACalls P f (u :: as) h fun v h' => K (tput t o.d (some v)) h'
    | _, _ => False
  | k => k.step t h fun v h' => K (tput t o.d v) h'
/-- What a step that is passed over leaves: of a bit that was moved it is known that there is none. -/
def skipV : AK → Option Value
  | .mv _ => some (.tuple #[])
  | _ => none
theorem skipV_rel {γ : Gam} {k : AK} {u : Value} (h : skipV k = some u) : VRel γ u undef := by
  unfold skipV at h
  split at h
  · cases h; exact .tuple rfl (fun i hi => by simp at hi)
  · cases h
def AO.go (P : Program) (o : AO) (t : Tm) (h : Hp) (K : Tm → Hp → Prop) : Prop := match o.g with
  | none => o.run P t h K
  | some (g, want) => match tget t g with
    | some (.bool b) => if b = want then o.run P t h K else K (tput t o.d (skipV o.k)) h
    | some (.tuple _) => K (tput t o.d (skipV o.k)) h
    | _ => False
def Wops (P : Program) : List AO → Tm → Hp → (Tm → Hp → Prop) → Prop
  | [], t, h, K => K t h
  | o :: r, t, h, K => o.go P t h fun t h => Wops P r t h K

def okD (n : Nat) : Option Nat → Bool
  | some d => Nat.blt d n
  | none => true
def cO (P : Program) (n : Nat) (ops : Array Oper) (o : Oper) : Option AO := match cK P n o.op, okD n o.dst with
  | some k, true => match o.guard with
    | none => some ⟨o.dst, none, k⟩
    | some (j, want) => match (ops[j]?).bind (·.dst) with
      | some tj => some ⟨o.dst, some (tj, want), k⟩
      | none => none
  | _, _ => none
def cOps (P : Program) (n : Nat) (ops : Array Oper) : List Oper → Option (List AO)
  | [] => some []
  | o :: r => match cO P n ops o, cOps P n ops r with
    | some a, some l => some (a :: l)
    | _, _ => none

section
variable {P : Program} {n base : Nat} {w0 : World} {γ : Gam} {h : Hp} {w : World} {t : Tm} {a : Act} {o : Oper} {ops : Array Oper} {ao : AO} {Q : Exit → Act → World → Prop}

theorem okD_lt {d : Option Nat} (h : okD n d = true) : ∀ i, d = some i → i < n := fun i hi => by
  subst hi
  have : Nat.ble (i + 1) n = true := h
  exact Nat.le_of_ble_eq_true this

theorem okF_fn {f : FuncId} (h : okF P f = true) : ∃ fn c, P.funcs[f]? = some fn ∧ (fn.name == "runtime.NumGoroutine") = false ∧ fn.body = some c := by
  unfold okF at h
  split at h
  · rename_i fn hf
    simp only [Bool.and_eq_true, Bool.not_eq_true'] at h
    obtain ⟨c, hc⟩ := Option.isSome_iff_exists.1 h.1
    exact ⟨fn, c, hf, h.2, hc⟩
  · cases h
theorem enters {f : FuncId} (h : okF P f = true) (args : Array Value) (w : World) : (callFunc f args).run P w = .ok (.enter f args) w := by
  obtain ⟨fn, c, hf, hname, hc⟩ := okF_fn h
  have h1 : fn.name ≠ "runtime.NumGoroutine" := by simpa using hname
  simp [callFunc, hf, h1, hc]

theorem call_inv {op : Op} {f : FuncId} {args : List Operand} (hc : cK P n op = some (.call f args)) : ∃ ts, op = .call { callee := .value (.func f), args := args.toArray, argTypes := ts } ∧ okF P f = true ∧ args.all (okO n) = true := by
  replace hc := (cK_of hc).resolve_right (by intro h0; cases h0)
  cases op <;> simp only [cK0] at hc
  case call c =>
    unfold cCall at hc
    split at hc
    · obtain ⟨h1, h2⟩ := gd_some hc
      cases h2
      simp only [Bool.and_eq_true] at h1
      exact ⟨_, by simp; rfl, h1.1, h1.2⟩
    all_goals (repeat' split at hc)
    all_goals first | (obtain ⟨_, h2⟩ := gd_some hc; cases h2; done) | cases hc
  case build => unfold cBuild at hc; (repeat' split at hc) <;> first | (obtain ⟨_, h2⟩ := gd_some hc; cases h2; done) | cases hc
  case buildSlice => unfold cBslice at hc; (repeat' split at hc) <;> first | (obtain ⟨_, h2⟩ := gd_some hc; cases h2; done) | cases hc
  case binOp => unfold cBin at hc; (repeat' split at hc) <;> first | (obtain ⟨_, h2⟩ := gd_some hc; cases h2; done) | cases hc
  case convert => unfold cConv at hc; (repeat' split at hc) <;> first | (obtain ⟨_, h2⟩ := gd_some hc; cases h2; done) | cases hc
  case slice => unfold cSlice at hc; (repeat' split at hc) <;> first | (obtain ⟨_, h2⟩ := gd_some hc; cases h2; done) | cases hc
  case field => unfold cField at hc; (repeat' split at hc) <;> first | (obtain ⟨_, h2⟩ := gd_some hc; cases h2; done) | cases hc
  case index => unfold cIndex at hc; (repeat' split at hc) <;> first | (obtain ⟨_, h2⟩ := gd_some hc; cases h2; done) | cases hc
  case mapUpdate => simp only [cUpd, cMap] at hc; (repeat' split at hc) <;> first | (obtain ⟨_, h2⟩ := gd_some hc; cases h2; done) | cases hc
  case insert => simp only [cUpd, cMap] at hc; (repeat' split at hc) <;> first | (obtain ⟨_, h2⟩ := gd_some hc; cases h2; done) | cases hc
  case lookup => simp only [cLkp, cMap] at hc; (repeat' split at hc) <;> first | (obtain ⟨_, h2⟩ := gd_some hc; cases h2; done) | cases hc
  case typeAssert => simp only [cTas] at hc; (repeat' split at hc) <;> first | (obtain ⟨_, h2⟩ := gd_some hc; cases h2; done) | cases hc
  case makeFunc fn us vs => cases fn <;> simp only [cK0] at hc <;> first | (obtain ⟨_, h2⟩ := gd_some hc; cases h2; done) | cases hc
  all_goals (repeat' split at hc) <;> first | (obtain ⟨_, h2⟩ := gd_some hc; cases h2; done) | cases hc
theorem callv_inv {op : Op} {x : Operand} {args : List Operand} (hc : cK P n op = some (.callv x args)) : ∃ ts i, x = .tmp i ∧ op = .call { callee := .value x, args := args.toArray, argTypes := ts } ∧ args.all (okO n) = true := by
  replace hc := (cK_of hc).resolve_right (by intro h0; cases h0)
  cases op <;> simp only [cK0] at hc
  case call c =>
    unfold cCall at hc
    split at hc
    · obtain ⟨_, h2⟩ := gd_some hc; cases h2
    · obtain ⟨h1, h2⟩ := gd_some hc
      cases h2
      exact ⟨_, _, rfl, by simp; rfl, h1⟩
    all_goals (repeat' split at hc)
    all_goals first | (obtain ⟨_, h2⟩ := gd_some hc; cases h2; done) | cases hc
  case build => unfold cBuild at hc; (repeat' split at hc) <;> first | (obtain ⟨_, h2⟩ := gd_some hc; cases h2; done) | cases hc
  case buildSlice => unfold cBslice at hc; (repeat' split at hc) <;> first | (obtain ⟨_, h2⟩ := gd_some hc; cases h2; done) | cases hc
  case binOp => unfold cBin at hc; (repeat' split at hc) <;> first | (obtain ⟨_, h2⟩ := gd_some hc; cases h2; done) | cases hc
  case convert => unfold cConv at hc; (repeat' split at hc) <;> first | (obtain ⟨_, h2⟩ := gd_some hc; cases h2; done) | cases hc
  case slice => unfold cSlice at hc; (repeat' split at hc) <;> first | (obtain ⟨_, h2⟩ := gd_some hc; cases h2; done) | cases hc
  case field => unfold cField at hc; (repeat' split at hc) <;> first | (obtain ⟨_, h2⟩ := gd_some hc; cases h2; done) | cases hc
  case index => unfold cIndex at hc; (repeat' split at hc) <;> first | (obtain ⟨_, h2⟩ := gd_some hc; cases h2; done) | cases hc
  case mapUpdate => simp only [cUpd, cMap] at hc; (repeat' split at hc) <;> first | (obtain ⟨_, h2⟩ := gd_some hc; cases h2; done) | cases hc
  case insert => simp only [cUpd, cMap] at hc; (repeat' split at hc) <;> first | (obtain ⟨_, h2⟩ := gd_some hc; cases h2; done) | cases hc
  case lookup => simp only [cLkp, cMap] at hc; (repeat' split at hc) <;> first | (obtain ⟨_, h2⟩ := gd_some hc; cases h2; done) | cases hc
  case typeAssert => simp only [cTas] at hc; (repeat' split at hc) <;> first | (obtain ⟨_, h2⟩ := gd_some hc; cases h2; done) | cases hc
  case makeFunc fn us vs => cases fn <;> simp only [cK0] at hc <;> first | (obtain ⟨_, h2⟩ := gd_some hc; cases h2; done) | cases hc
  all_goals (repeat' split at hc) <;> first | (obtain ⟨_, h2⟩ := gd_some hc; cases h2; done) | cases hc

theorem inv_inv {op : Op} {rows : List (Nat × Nat)} {x : Operand} {args : List Operand} (hc : cK P n op = some (.inv rows x args)) : ∃ ts name, rows = rowsOf P name ∧ op = .call { callee := .invoke x name, args := args.toArray, argTypes := ts } ∧ okO n x = true ∧ args.all (okO n) = true ∧ (rows.all fun r => okF P r.2) = true := by
  replace hc := (cK_of hc).resolve_right (by intro h0; cases h0)
  cases op <;> simp only [cK0] at hc
  case call c =>
    unfold cCall at hc
    split at hc
    · obtain ⟨_, h2⟩ := gd_some hc; cases h2
    · obtain ⟨_, h2⟩ := gd_some hc; cases h2
    · obtain ⟨h1, h2⟩ := gd_some hc
      cases h2
      simp only [Bool.and_eq_true] at h1
      exact ⟨_, _, rfl, by simp; rfl, h1.1.1, h1.1.2, h1.2⟩
    all_goals (repeat' split at hc)
    all_goals first | (obtain ⟨_, h2⟩ := gd_some hc; cases h2; done) | cases hc
  case build => unfold cBuild at hc; (repeat' split at hc) <;> first | (obtain ⟨_, h2⟩ := gd_some hc; cases h2; done) | cases hc
  case buildSlice => unfold cBslice at hc; (repeat' split at hc) <;> first | (obtain ⟨_, h2⟩ := gd_some hc; cases h2; done) | cases hc
  case binOp => unfold cBin at hc; (repeat' split at hc) <;> first | (obtain ⟨_, h2⟩ := gd_some hc; cases h2; done) | cases hc
  case convert => unfold cConv at hc; (repeat' split at hc) <;> first | (obtain ⟨_, h2⟩ := gd_some hc; cases h2; done) | cases hc
  case slice => unfold cSlice at hc; (repeat' split at hc) <;> first | (obtain ⟨_, h2⟩ := gd_some hc; cases h2; done) | cases hc
  case field => unfold cField at hc; (repeat' split at hc) <;> first | (obtain ⟨_, h2⟩ := gd_some hc; cases h2; done) | cases hc
  case index => unfold cIndex at hc; (repeat' split at hc) <;> first | (obtain ⟨_, h2⟩ := gd_some hc; cases h2; done) | cases hc
  case mapUpdate => simp only [cUpd, cMap] at hc; (repeat' split at hc) <;> first | (obtain ⟨_, h2⟩ := gd_some hc; cases h2; done) | cases hc
  case insert => simp only [cUpd, cMap] at hc; (repeat' split at hc) <;> first | (obtain ⟨_, h2⟩ := gd_some hc; cases h2; done) | cases hc
  case lookup => simp only [cLkp, cMap] at hc; (repeat' split at hc) <;> first | (obtain ⟨_, h2⟩ := gd_some hc; cases h2; done) | cases hc
  case typeAssert => simp only [cTas] at hc; (repeat' split at hc) <;> first | (obtain ⟨_, h2⟩ := gd_some hc; cases h2; done) | cases hc
  case makeFunc fn us vs => cases fn <;> simp only [cK0] at hc <;> first | (obtain ⟨_, h2⟩ := gd_some hc; cases h2; done) | cases hc
  all_goals (repeat' split at hc) <;> first | (obtain ⟨_, h2⟩ := gd_some hc; cases h2; done) | cases hc

theorem findR_mem : ∀ {l : List (Nat × Nat)} {ty f : Nat}, findR l ty = some f → (ty, f) ∈ l
  | [], ty, f, h => by cases h
  | (t, g) :: l, ty, f, h => by
    simp only [findR] at h
    split at h
    · rename_i hb
      cases h
      rw [Nat.eq_of_beq_eq_true hb]
      exact List.mem_cons_self
    · exact List.mem_cons_of_mem _ (findR_mem h)
theorem row_run {name : String} {ty f : Nat} (h : (ty, f) ∈ rowsOf P name) (v : Value) (fuel : Nat) (w : World) : (method (fuel + 1) ty v name).run P w = .ok (f, v) w := by
  unfold rowsOf at h
  obtain ⟨t, _, ht⟩ := List.mem_filterMap.1 h
  unfold rowOf at ht
  split at ht
  · rename_i ti hi
    split at ht
    · rename_i m hm
      split at ht
      · rename_i f' hpath hfunc
        have fin : t = ty ∧ f' = f ∧ ∃ d, P.underlying t = some d ∧ ∀ e, d ≠ .pointer e := by
          split at ht
          · cases ht
          · rename_i d hno hd
            cases ht
            exact ⟨rfl, rfl, d, hd, fun e he => hno e he⟩
          · cases ht
        obtain ⟨rfl, rfl, d, hd, hno⟩ := fin
        have hinfo : (typeInfo t).run P w = .ok ti w := by simp [typeInfo, hi]
        rw [method]
        simp only [Sem.run_bind, hinfo, Result.andThen_ok, hm, hpath, follow, Sem.run_pure, hfunc, receiverAt, run_underlying hd]
        cases d <;> simp_all [Place.get]
      · cases ht
    · cases ht
  · cases ht

theorem run_sound (hc : cK P n o.op = some ao.k) (hd : ao.d = o.dst) (hdn : okD n o.dst = true) (s : Sim base w0 γ h w) (r : TRel γ n t a) {K : Tm → Hp → Prop} (hg : ao.run P t h K) {KC : Act → World → Prop}
    (hK : ∀ γ' h' rv w' v', Sub γ γ' → Fr γ w γ' w' → Sim base w0 γ' h' w' → TRel γ' n (tput t ao.d rv) (a.put o.dst v') → K (tput t ao.d rv) h' → KC (a.put o.dst v') w') : o.wp P a w KC Q := by
  have hlt := okD_lt hdn
  unfold AO.run at hg
  split at hg
  · rename_i f args hk
    rw [hk] at hc
    split at hg
    · rename_i vs hv
      obtain ⟨ts, hop, hf, hok⟩ := call_inv hc
      have hrun : (execOp a.eval o).run P w = .ok (.enter f (args.map a.eval).toArray) w := by
        have : execOp a.eval o = callFunc f (args.map a.eval).toArray := by
          simp [execOp, hop, resolve, invoke, Act.eval, Deferred.ofValue]
        rw [this, enters hf]
      unfold Oper.wp
      rw [hrun, Oper.upon_enter]
      refine (hg.out base w0 γ w _ s (evs_rel r hok hv)).mono fun e w' ⟨v, v', h', γ', he, hq, hs, hfr, hvr, hsim⟩ => ?_
      subst he
      exact hK γ' h' _ w' _ hs hfr hsim (hd ▸ (r.mono hs).put hlt (fun u hu => by cases hu; exact hvr)) hq
    · exact hg.elim
  · rename_i x args hk
    rw [hk] at hc
    obtain ⟨ts, i, rfl, hop, hok⟩ := callv_inv hc
    split at hg
    · rename_i f us vs as hx hv
      obtain ⟨hf, hg⟩ := hg
      have rx := r.ev (x := .tmp i) (m := n) rfl hx
      generalize hax : a.eval (.tmp i) = v' at rx
      cases rx with
      | func h1 h2 h3 h4 =>
        rename_i ys zs
        have hrun : (execOp a.eval o).run P w = .ok (.enter f (ys.toList ++ args.map a.eval ++ zs.toList).toArray) w := by
          have : execOp a.eval o = callFunc f (ys.toList ++ args.map a.eval ++ zs.toList).toArray := by
            simp only [execOp, hop, resolve, invoke, hax, Deferred.ofValue, pure_bind]
            congr 1
            apply Array.ext'
            simp
          rw [this, enters hf]
        unfold Oper.wp
        rw [hrun, Oper.upon_enter]
        refine (hg.out base w0 γ w _ s (((LRel.arr h1 h2).append (evs_rel r hok hv)).append (LRel.arr h3 h4))).mono fun e w' ⟨v, v', h', γ', he, hq, hs, hfr, hvr, hsim⟩ => ?_
        subst he
        exact hK γ' h' _ w' _ hs hfr hsim (hd ▸ (r.mono hs).put hlt (fun u hu => by cases hu; exact hvr)) hq
    · exact hg.elim
  · rename_i rows x args hk
    rw [hk] at hc
    obtain ⟨ts, name, hrows, hop, hokx, hok, hrf⟩ := inv_inv hc
    split at hg
    · rename_i ty u as hx hv
      obtain ⟨f, hf, hg⟩ := hg
      have hmem := findR_mem hf
      have hfok : okF P f = true := List.all_eq_true.1 hrf _ hmem
      have rx := r.ev hokx hx
      generalize hax : a.eval x = v' at rx
      cases rx with
      | iface h1 =>
        rename_i u'
        have hrun : (execOp a.eval o).run P w = .ok (.enter f (u' :: args.map a.eval).toArray) w := by
          have hm : (method (P.types.size + Made.depth) ty u' name).run P w = .ok (f, u') w := row_run (hrows ▸ hmem) u' (P.types.size + 99) w
          have : (execOp a.eval o).run P w = (callFunc f (u' :: args.map a.eval).toArray).run P w := by
            simp only [execOp, hop, resolve, invoke, hax, pure_bind, callMethod]
            simp [callMethod, hm, List.take_of_length_le]
          rw [this, enters hfok]
        unfold Oper.wp
        rw [hrun, Oper.upon_enter]
        refine (hg.out base w0 γ w _ s (LRel.cons h1 (evs_rel r hok hv))).mono fun e w' ⟨v, v', h', γ', he, hq, hs, hfr, hvr, hsim⟩ => ?_
        subst he
        exact hK γ' h' _ w' _ hs hfr hsim (hd ▸ (r.mono hs).put hlt (fun u hu => by cases hu; exact hvr)) hq
    · exact hg.elim
  · rename_i hn1 hn2 hn3
    have hcall : ao.k.isCall = false := by
      cases hkk : ao.k <;> first | rfl | (exact absurd hkk (hn1 _ _)) | (exact absurd hkk (hn2 _ _)) | (exact absurd hkk (hn3 _ _ _))
    obtain ⟨γ', h', w', rv, res, hk, hsub, hfr, hsim, hrun, hres⟩ := ((cK_sound (h := h) r hc).all hcall _ base w0 w s hg).out
    unfold Oper.wp
    rw [hrun]
    rcases hres with ⟨rfl, rfl⟩ | ⟨v', rfl, hv⟩
    · rw [Oper.upon_skip]
      exact hK γ' h' _ w' _ hsub hfr hsim (hd ▸ (r.mono hsub).put hlt (fun u hu => by cases hu)) hk
    · rw [Oper.upon_value]
      exact hK γ' h' _ w' _ hsub hfr hsim (hd ▸ (r.mono hsub).put hlt hv) hk

theorem go_sound (hc : cO P n ops o = some ao) (s : Sim base w0 γ h w) (r : TRel γ n t a) {K : Tm → Hp → Prop} (hg : ao.go P t h K) {KC : Act → World → Prop}
    (hK : ∀ γ' h' rv w' v', Sub γ γ' → Fr γ w γ' w' → Sim base w0 γ' h' w' → TRel γ' n (tput t ao.d rv) (a.put o.dst v') → K (tput t ao.d rv) h' → KC (a.put o.dst v') w') :
    if Region.wanted o (yielded ops a.tmps) = true then o.wp P a w KC Q else KC (a.put o.dst undef) w := by
  unfold cO at hc
  split at hc
  · rename_i k hk hd
    split at hc
    · rename_i hgd
      cases hc
      rw [if_pos (by simp [Region.wanted, hgd])]
      exact run_sound (ao := ⟨o.dst, none, k⟩) hk rfl hd s r hg hK
    · rename_i j want hgd
      split at hc
      · rename_i tj htj
        cases hc
        simp only [AO.go] at hg
        split at hg
        · rename_i b hb
          obtain ⟨v', hv, hr⟩ := r.get tj _ hb
          cases hr
          have hy : yielded ops a.tmps j = some b := by
            unfold yielded
            rw [htj]
            simp [hv]
          have hw : Region.wanted o (yielded ops a.tmps) = (b == want) := by simp [Region.wanted, hgd, hy]
          rw [hw]
          split at hg
          · rename_i hbw
            subst hbw
            rw [if_pos (by simp)]
            exact run_sound (ao := ⟨o.dst, some (tj, b), k⟩) hk rfl hd s r hg hK
          · rename_i hbw
            rw [if_neg (by simpa using hbw)]
            exact hK γ h _ w _ (Sub.refl _) (Fr.refl _ _) s (r.put (okD_lt hd) (fun u hu => skipV_rel hu)) hg
        · rename_i xs hb
          obtain ⟨v', hv, hr⟩ := r.get tj _ hb
          cases hr
          have hy : yielded ops a.tmps j = none := by
            unfold yielded
            rw [htj]
            simp [hv]
          have hw : Region.wanted o (yielded ops a.tmps) = false := by simp [Region.wanted, hgd, hy]
          rw [hw, if_neg (by simp)]
          exact hK γ h _ w _ (Sub.refl _) (Fr.refl _ _) s (r.put (okD_lt hd) (fun u hu => skipV_rel hu)) hg
        · exact hg.elim
      · cases hc
  · cases hc

theorem ops_sound {base : Nat} {w0 : World} {Q : Exit → Act → World → Prop} : ∀ (l : List Oper) (lo : List AO) (γ : Gam) (h : Hp) (w : World) (t : Tm) (a : Act) (K : Tm → Hp → Prop), cOps P n ops l = some lo → Sim base w0 γ h w → TRel γ n t a → Wops P lo t h K →
    (∀ γ' h' t' w' a', Sub γ γ' → Fr γ w γ' w' → Sim base w0 γ' h' w' → TRel γ' n t' a' → K t' h' → Q .normal a' w') → wpList P ops Q l a w
  | [], lo, γ, h, w, t, a, K, hc, s, r, hw, hK => by
    cases hc
    exact hK γ h t w a (Sub.refl _) (Fr.refl _ _) s r hw
  | o :: l, lo, γ, h, w, t, a, K, hc, s, r, hw, hK => by
    simp only [cOps] at hc
    split at hc
    · rename_i ao lo' h1 h2
      cases hc
      refine wpList_step fun KC hKC => ?_
      refine go_sound h1 s r hw fun γ' h' rv w' v' hs hf hsim ht hk => hKC _ _ ?_
      exact ops_sound l lo' γ' h' w' _ _ K h2 hsim ht hk fun γ2 h2 t2 w2 a2 hs2 hf2 => hK γ2 h2 t2 w2 a2 (hs.trans hs2) (hf.trans hf2)
    · cases hc
end
end Go.Proofs.Ytbfbgkhlngkifaa.Am
