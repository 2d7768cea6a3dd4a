/- The row of the law ItemChecks: whatever the input, it returns true, and the arguments read as before.
   Conditions: none beyond those of the given statement. -/
import Derived.Test.YtmkcngcnedjfkaaGreatRows
import Derived.Test.YtmkcngcnedjfkaaGreatBun5
import Derived.Test.YtmkcngcnedjfkaaGreatAmZb
import Derived.Test.YtmkcngcnedjfkaaGreatAmZc
import Derived.WalkKit
import Derived.ProofKit
import Derived.OpenShut
import Derived.ShutString
import Derived.ChangeOld
import Derived.Below
import Derived.SizedLaws
namespace Go.Proofs.YtmkcngcnedjfkaaGreat.itemChecks
open Go Go.ChangeShapes Go.WideShapes Go.ChangeAt Go.RowKit Go.Proofs.YtmkcngcnedjfkaaGreat.Am
open Go.ChangeMaps (open_string shut_string)
set_option linter.unusedVariables false
theorem own : ownKnob Tryz.prog.godebug = none := by kernel_rfl
theorem laidOut : laidOutB Tryz.prog = true := by kernel_rfl
set_option maxRecDepth 100000 in
theorem lifted (os : Os) (started : os.Started) (H : Type) (enc : TypeId × Value → H) (F : Stop.Interp) :
    ReturnsInLeavingWide { calm := true } Tryz.checked os 4 .any (Rows.itemChecksSpec.pre6 enc Tryz.prog Tryz.f4 Rows.itemChecksRow.domain false) ((OpenSpec.ofChange Rows.itemChecksSpec).postWith enc Tryz.prog Tryz.f4 F (outsideKept [.timePasses]) false true false) := by
  refine leaving_of_calls (C := Tryz.checked) own started (by kernel_rfl) Tryz.func4
    (ChangeSpec.witness6c (enc := enc) (C := Tryz.checked) ⟨#[], #[.slice none 0 0, .int .i64 0], []⟩ 8 (by kernel_rfl) (by kernel_rfl) (by kernel_rfl) (by kernel_rfl)) ?_
  intro W base args ds gs before hval0 hW hcnd hsz0
  have hsz : (DataW.weightsEach Tryz.prog (Tryz.f4.params.toList ++ Rows.itemChecksSpec.plain.varTypes Tryz.prog) (ds ++ gs)).all (· ≤ reachBytes) = true := hsz0
  have hval : ∀ (j : Nat) t v, Tryz.f4.params[j]? = some t → args[j]? = some v → Value.okWide Tryz.prog W .any base t v := hval0
  have hW' := hW
  obtain ⟨p, q, hA0, hV, rfl, hfz, hnd⟩ := hW
  have hA : DataW.TrodAll enc Tryz.prog W 0 (fun _ => true) true Tryz.f4.params.toList args.toList ds p := hA0
  rw [Tryz.params4] at hA hval hsz
  obtain ⟨v0, vs0, d0, ds0, p0, q0, hargs, rfl, rfl, h0, r0⟩ := trodAll_cons hA
  obtain ⟨v1, vs1, d1, ds1, p1, q1, rfl, rfl, rfl, h1, r1⟩ := trodAll_cons r0
  obtain ⟨rfl, rfl, rfl⟩ := trodAll_nil r1
  obtain rfl : args = #[v0, v1] := by cases args; simp_all
  obtain ⟨rfl, rfl⟩ := trodVars_none hV
  have s0 := Sim.empty W
  have k0 := h0
  have lt0 : ∀ x ∈ p0, x.block < W.heap.size := by obtain ⟨m, hm⟩ := k0; exact DataW.trod_lt m _ _ _ hm
  obtain ⟨b0, len0, c0, rfl⟩ := okWide_slice Tryz.underlying35 (hval 0 35 v0 rfl rfl)
  obtain ⟨x0, K0, w0⟩ := arg_kd (opens_slice Tryz.underlying35 (by kernel_rfl) (opens_struct Tryz.underlying68 (by kernel_rfl) (fields_cons (opens_int Tryz.underlying3) rfl (by kernel_rfl) (fields_cons (opens_int Tryz.underlying3) rfl (by kernel_rfl) (fields_cons (opens_slice Tryz.underlying66 (by kernel_rfl) (opens_int Tryz.underlying5)) rfl (by kernel_rfl) (fields_cons (opens_slice Tryz.underlying39 (by kernel_rfl) (opens_int Tryz.underlying3)) rfl (by kernel_rfl) (fields_cons (opens_slice Tryz.underlying39 (by kernel_rfl) (opens_int Tryz.underlying3)) rfl (by kernel_rfl) (fields_cons (opens_int Tryz.underlying3) rfl (by kernel_rfl) (fields_cons (opens_int Tryz.underlying3) rfl (by kernel_rfl) (fields_cons (opens_int Tryz.underlying3) rfl (by kernel_rfl) (fields_cons (opens_int Tryz.underlying3) rfl (by kernel_rfl) (fields_cons (opens_slice Tryz.underlying39 (by kernel_rfl) (opens_int Tryz.underlying3)) rfl (by kernel_rfl) (fields_cons (opens_int Tryz.underlying3) rfl (by kernel_rfl) (fields_one (opens_bool Tryz.underlying4) rfl (by kernel_rfl))))))))))))))) hsz (j := 0) rfl rfl h0
  obtain ⟨γ1, g1, a0, s1, u1, e1, A0, r0'⟩ := arg_one s0 rfl rfl K0
  have k1 := h1
  have lt1 : ∀ x ∈ p1, x.block < W.heap.size := by obtain ⟨m, hm⟩ := k1; exact DataW.trod_lt m _ _ _ hm
  obtain ⟨x1, rfl, rfl, rfl, w1⟩ := open_int Tryz.underlying3 (hval 1 3 v1 rfl rfl) h1
  have s2 := s1; have u2 := Sub.refl (γ1)
  have r1' : VRel (γ1) (.int .i64 x1) (.int .i64 x1) := by constructor
  clear hA0 hval0 hsz0 hsz
  refine ((LItemChecks.walk x0 a0 x1 A0 w0 w1).enter s2 (LRel.cons r0' (LRel.cons r1' LRel.nil)) (fun v h hv => hv)).mono fun e W' ⟨he, bel⟩ => ?_
  subst he
  exact ⟨bel.os, _, rfl, _, _, _, [], _, [], hW', trodAll_mk1 (shut_bool Tryz.underlying4 _), (trodAll_cons_mk (Below.trod laidOut (by kernel_rfl) (of_decide_eq_true (by kernel_rfl)) k0 bel lt0) (trodAll_cons_mk (Below.trod laidOut (by kernel_rfl) (of_decide_eq_true (by kernel_rfl)) k1 bel lt1) trodAll_mk0)), rfl, bel.frame _, fun h => by cases h⟩
/- The facts of the row that the kernel reckons, one by one (all at once want too much memory). -/
theorem and_mk {a b : Bool} (ha : a = true) (hb : b = true) : (a && b) = true := by rw [ha, hb]; rfl
theorem fact0 : (let P := Tryz.prog; let f := 4; let fn := Tryz.f4; let s := Rows.itemChecksSpec; let c := Rows.itemChecksRow; c.wf (OpenSpec.ofChange s)) = true := by kernel_rfl
theorem fact1 : (let P := Tryz.prog; let f := 4; let fn := Tryz.f4; let s := Rows.itemChecksSpec; let c := Rows.itemChecksRow; laidOutB P) = true := by kernel_rfl
theorem fact2 : (let P := Tryz.prog; let f := 4; let fn := Tryz.f4; let s := Rows.itemChecksSpec; let c := Rows.itemChecksRow; mapsRowed P) = true := by kernel_rfl
theorem fact3 : (let P := Tryz.prog; let f := 4; let fn := Tryz.f4; let s := Rows.itemChecksSpec; let c := Rows.itemChecksRow; fn.params.all (P.readableRec ·)) = true := by kernel_rfl
theorem fact4 : (let P := Tryz.prog; let f := 4; let fn := Tryz.f4; let s := Rows.itemChecksSpec; let c := Rows.itemChecksRow; namedTie P c.named s.vars) = true := by kernel_rfl
theorem fact5 : (let P := Tryz.prog; let f := 4; let fn := Tryz.f4; let s := Rows.itemChecksSpec; let c := Rows.itemChecksRow; (c.stops == [])) = true := by kernel_rfl
theorem fact6 : (let P := Tryz.prog; let f := 4; let fn := Tryz.f4; let s := Rows.itemChecksSpec; let c := Rows.itemChecksRow; (P.stops == [])) = true := by kernel_rfl
theorem fact7 : (let P := Tryz.prog; let f := 4; let fn := Tryz.f4; let s := Rows.itemChecksSpec; let c := Rows.itemChecksRow; (c.knobs == [])) = true := by kernel_rfl
theorem fact8 : (let P := Tryz.prog; let f := 4; let fn := Tryz.f4; let s := Rows.itemChecksSpec; let c := Rows.itemChecksRow; (P.stopKnobs == [])) = true := by kernel_rfl
theorem fact9 : (let P := Tryz.prog; let f := 4; let fn := Tryz.f4; let s := Rows.itemChecksSpec; let c := Rows.itemChecksRow; (c.inPlace == P.inPlace f)) = true := by kernel_rfl
theorem fact10 : (let P := Tryz.prog; let f := 4; let fn := Tryz.f4; let s := Rows.itemChecksSpec; let c := Rows.itemChecksRow; (c.unfollowed == P.unfollowed f)) = true := by kernel_rfl
theorem fact11 : (let P := Tryz.prog; let f := 4; let fn := Tryz.f4; let s := Rows.itemChecksSpec; let c := Rows.itemChecksRow; (c.recurses == P.recurses f)) = true := by kernel_rfl
theorem fact12 : (let P := Tryz.prog; let f := 4; let fn := Tryz.f4; let s := Rows.itemChecksSpec; let c := Rows.itemChecksRow; (c.named == P.varsNamed f)) = true := by kernel_rfl
theorem fact13 : (let P := Tryz.prog; let f := 4; let fn := Tryz.f4; let s := Rows.itemChecksSpec; let c := Rows.itemChecksRow; (c.maps == (fn.params.toList ++ s.plain.varTypes P).any (P.mapsRec ·))) = true := by kernel_rfl
theorem fact14 : (let P := Tryz.prog; let f := 4; let fn := Tryz.f4; let s := Rows.itemChecksSpec; let c := Rows.itemChecksRow; (c.ifaces == (fn.params.toList ++ s.plain.varTypes P).any (P.ifacesRec ·))) = true := by kernel_rfl
theorem fact15 : (let P := Tryz.prog; let f := 4; let fn := Tryz.f4; let s := Rows.itemChecksSpec; let c := Rows.itemChecksRow; (c.mapsOut == P.mapsAmong fn.resultTypes.toList)) = true := by kernel_rfl
theorem fact16 : (let P := Tryz.prog; let f := 4; let fn := Tryz.f4; let s := Rows.itemChecksSpec; let c := Rows.itemChecksRow; (c.loops == (fn.params.toList ++ s.plain.varTypes P).any (P.loopsFrom ·))) = true := by kernel_rfl
theorem fact17 : (let P := Tryz.prog; let f := 4; let fn := Tryz.f4; let s := Rows.itemChecksSpec; let c := Rows.itemChecksRow; (c.wideKeys == (fn.params.toList ++ s.plain.varTypes P ++ fn.resultTypes.toList).any (P.wideKeysFrom ·))) = true := by kernel_rfl
theorem fact18 : (let P := Tryz.prog; let f := 4; let fn := Tryz.f4; let s := Rows.itemChecksSpec; let c := Rows.itemChecksRow; s.vars.all (P.varReadable ·)) = true := by kernel_rfl
theorem fact19 : (let P := Tryz.prog; let f := 4; let fn := Tryz.f4; let s := Rows.itemChecksSpec; let c := Rows.itemChecksRow; fn.resultTypes.all (fun t => P.readableRec t && decide (t < P.types.size))) = true := by kernel_rfl
theorem fact20 : (let P := Tryz.prog; let f := 4; let fn := Tryz.f4; let s := Rows.itemChecksSpec; let c := Rows.itemChecksRow; (c.ifacesOut == fn.resultTypes.toList.any (P.ifacesRec ·))) = true := by kernel_rfl
theorem fact21 : (let P := Tryz.prog; let f := 4; let fn := Tryz.f4; let s := Rows.itemChecksSpec; let c := Rows.itemChecksRow; (c.loopsOut == fn.resultTypes.toList.any (P.loopsFrom ·))) = true := by kernel_rfl
theorem fact22 : (let P := Tryz.prog; let f := 4; let fn := Tryz.f4; let s := Rows.itemChecksSpec; let c := Rows.itemChecksRow; (c.plainKeys == P.plainKeys)) = true := by kernel_rfl
theorem fact23 : (let P := Tryz.prog; let f := 4; let fn := Tryz.f4; let s := Rows.itemChecksSpec; let c := Rows.itemChecksRow; c.shortTexts.isNone) = true := by kernel_rfl
theorem fact24 : (let P := Tryz.prog; let f := 4; let fn := Tryz.f4; let s := Rows.itemChecksSpec; let c := Rows.itemChecksRow; P.stopsHeard) = true := by kernel_rfl
theorem fact25 : (let P := Tryz.prog; let f := 4; let fn := Tryz.f4; let s := Rows.itemChecksSpec; let c := Rows.itemChecksRow; P.mayEnter) = true := by kernel_rfl
theorem fact26 : (let P := Tryz.prog; let f := 4; let fn := Tryz.f4; let s := Rows.itemChecksSpec; let c := Rows.itemChecksRow; (c.lifted == P.liftsFinal)) = true := by kernel_rfl
theorem fact27 : (let P := Tryz.prog; let f := 4; let fn := Tryz.f4; let s := Rows.itemChecksSpec; let c := Rows.itemChecksRow; (P.make == some c.make)) = true := by kernel_rfl
theorem fact28 : (let P := Tryz.prog; let f := 4; let fn := Tryz.f4; let s := Rows.itemChecksSpec; let c := Rows.itemChecksRow; (c.kinds == (if c.domain.isEmpty then [] else fn.params.toList.map fun t => match P.underlying t with | some (.int k) => some k | _ => none))) = true := by kernel_rfl
theorem fact29 : (let P := Tryz.prog; let f := 4; let fn := Tryz.f4; let s := Rows.itemChecksSpec; let c := Rows.itemChecksRow; (c.pinned == c.pinnedBy)) = true := by kernel_rfl
theorem fact30 : (let P := Tryz.prog; let f := 4; let fn := Tryz.f4; let s := Rows.itemChecksSpec; let c := Rows.itemChecksRow; (c.veiled == (fn.params.toList ++ s.plain.varTypes P ++ fn.resultTypes.toList).any (P.veiledRec ·))) = true := by kernel_rfl
theorem fact31 : (let P := Tryz.prog; let f := 4; let fn := Tryz.f4; let s := Rows.itemChecksSpec; let c := Rows.itemChecksRow; c.veiledFits P fn.params.toList (fn.params.toList ++ s.plain.varTypes P ++ fn.resultTypes.toList)) = true := by kernel_rfl
set_option maxRecDepth 100000 in
theorem facts : joinedFacts Tryz.prog 4 Tryz.f4 Rows.itemChecksSpec Rows.itemChecksRow = true := by
  unfold joinedFacts
  exact (and_mk (and_mk (and_mk (and_mk (and_mk (and_mk (and_mk (and_mk (and_mk (and_mk (and_mk (and_mk (and_mk (and_mk (and_mk (and_mk (and_mk (and_mk (and_mk (and_mk (and_mk (and_mk (and_mk (and_mk (and_mk (and_mk (and_mk (and_mk (and_mk (and_mk (and_mk fact0 fact1) fact2) fact3) fact4) fact5) fact6) fact7) fact8) fact9) fact10) fact11) fact12) fact13) fact14) fact15) fact16) fact17) fact18) fact19) fact20) fact21) fact22) fact23) fact24) fact25) fact26) fact27) fact28) fact29) fact30) fact31)
theorem over : Rows.itemChecksRow.holds Tryz.pinned (OpenSpec.ofChange Rows.itemChecksSpec) :=
  OpenClaim.holds_of_wide_leaving_time 4 Tryz.f4 rfl rfl rfl rfl rfl rfl rfl ⟨rfl, rfl, rfl, rfl, rfl⟩ rfl rfl rfl rfl rfl (by kernel_rfl) Tryz.func4 facts
    (of_decide_eq_true (by kernel_rfl)) (by unfold Func.isWrapper; first | (rw [if_pos (by decide +kernel)]; kernel_rfl) | (rw [if_neg (by decide +kernel)]; exact ⟨rfl, rfl⟩))
    (fun os started H enc _ F => lifted os started H enc F)
theorem proved : Rows.ItemChecksSaid := over
#print axioms proved
end Go.Proofs.YtmkcngcnedjfkaaGreat.itemChecks
namespace Go.Proofs.YtmkcngcnedjfkaaGreat
/-- The row, under a short name, for the claim. -/
theorem itemChecks_holds : Rows.ItemChecksSaid := itemChecks.proved
end Go.Proofs.YtmkcngcnedjfkaaGreat
