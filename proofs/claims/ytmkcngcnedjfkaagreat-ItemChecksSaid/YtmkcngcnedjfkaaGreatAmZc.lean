/- The row of a law whose program has goroutines, from a contract of a call that starts none. Plain theorems over the kit's library.
   Conditions: none. -/
import Derived.Conc.HoldsTime
import Derived.Handed
namespace Go.Proofs.YtmkcngcnedjfkaaGreat.Am
open Go Go.Conc Go.ConcM
set_option linter.unusedVariables false

theorem osLater_refl (os : Os) : OsLater os os := ⟨0, by cases os; rfl⟩
theorem leaving_of_calls {H : Type} {enc : TypeId × Value → H} {a : Assume} {C : Checked} {os : Os} {f : FuncId} {fn : Func} {s : ChangeSpec} {F : Stop.Interp} {conds : List PathCond} {apart fresh handsOn : Bool}
    (own : ownKnob C.prog.godebug = none) (started : os.Started) (noInit : C.prog.inits.idxOf? f = none) (hfn : C.prog.funcs[f]? = some fn)
    (witness : ∃ (w : World) (tape : Tape) (i : Input), w.os = os ∧ (w.forCall tape i).Shaped C.prog ∧ i.vars = [] ∧ Input.okWide C.prog (w.forCall tape i) .any w.heap.size f i ∧
      s.pre6 enc C.prog fn conds apart (w.forCall tape i).memory i.args ∧ a.holds C.prog (lone (Frame.enter C.prog f i.args .normal) [] (w.forCall tape i)))
    (contract : ∀ (W : World) (base : Nat) (args : Array Value) (ds gs : List (DataW H)) (before : List MemPlace),
      (∀ (j : Nat) t v, fn.params[j]? = some t → args[j]? = some v → Value.okWide C.prog W .any base t v) →
      DataW.Whole enc C.prog fn.params.toList s.vars apart W args.toList ds gs before →
      conds.all (PathCond.test C.prog ⟨fn.params.toList, ds, s.plain.varTypes C.prog, gs⟩) = true →
      (DataW.weightsEach C.prog (fn.params.toList ++ s.plain.varTypes C.prog) (ds ++ gs)).all (· ≤ reachBytes) = true →
      Calls C.prog f args W fun e W' => W'.os = W.os ∧ ∃ v, e = .returned v ∧ s.post enc C.prog fn apart fresh handsOn false W args v W') :
    ReturnsInLeavingWide a C os f .any (s.pre6 enc C.prog fn conds apart) ((OpenSpec.ofChange s).postWith enc C.prog fn F (outsideKept [.timePasses]) apart fresh handsOn) := fun enter => by
  obtain ⟨w0, t0, i0, a1, a2, a3, a4, a5, a6⟩ := witness
  refine ⟨enter, own, started, ⟨w0, t0, i0, a1, a2, a3, a4, a5, a6, trivial⟩, fun w tape i h => ?_⟩
  obtain ⟨hos, hsh, hvars, hok, hpre, hholds, _⟩ := h
  obtain ⟨_, _, _, fn', hfn', _, _, _, _, hval⟩ := hok
  have e : fn' = fn := Option.some.inj (hfn'.symm.trans hfn)
  subst e
  obtain ⟨⟨ds, gs, before, hw, hc⟩, hz⟩ := hpre
  have hw' := DataW.Whole.of_heap (w' := w.forCall tape i) (by rfl) hw
  have hcall : Calls C.prog f i.args (w.forCall tape i) fun
      | .returned v, w' => (OpenSpec.ofChange s).postWith enc C.prog fn' F (outsideKept [.timePasses]) apart fresh handsOn (w.forCall tape i).blind i.args v w'.blind
      | _, _ => False := (contract (w.forCall tape i) w.heap.size i.args ds gs before hval hw' hc (hz.weights hw)).mono fun e W' ⟨hos', v, he, hp⟩ => by
    subst he
    have e2 : ({ W' with os := (w.forCall tape i).os } : World) = W' := by rw [← hos']
    exact postWith_blind (postWith_of_post (e2.symm ▸ hp) (hos' ▸ osLater_refl _))
  obtain ⟨n, v, w', fr, hn, hend, hp⟩ := hcall.done_lone noInit
  obtain ⟨hq, hho, heh⟩ := alone_of_lone (w' := w') hn
  refine ⟨n + 1, v, w', hend, (clean_of_lone hn).2, roomy_placeholder .., hp, ⟨n, _, hn, step_of_runs hn hend, hho, ⟨fun g hg => ?_, rfl⟩, heh⟩, fun _ _ _ => trivial⟩
  simp [lone] at hg
end Go.Proofs.YtmkcngcnedjfkaaGreat.Am
