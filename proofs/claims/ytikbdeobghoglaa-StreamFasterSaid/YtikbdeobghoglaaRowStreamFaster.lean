/- The row of the law StreamFaster: whatever the input, it returns true, and the arguments read as before.
   Conditions: none beyond those of the given statement. -/
import Derived.Test.YtikbdeobghoglaaRows
import Derived.Test.YtikbdeobghoglaaBun6
import Derived.Test.YtikbdeobghoglaaAmZb
import Derived.WalkKit
import Derived.ProofKit
import Derived.OpenShut
import Derived.ShutString
import Derived.ChangeOld
import Derived.Below
import Derived.SizedLaws
namespace Go.Proofs.Ytikbdeobghoglaa.streamFaster
open Go Go.ChangeShapes Go.WideShapes Go.ChangeAt Go.RowKit Go.Proofs.Ytikbdeobghoglaa.Am
open Go.ChangeMaps (open_string shut_string)
set_option linter.unusedVariables false
theorem own : ownKnob Try.prog.godebug = none := by kernel_rfl
theorem laidOut : laidOutB Try.prog = true := by kernel_rfl
set_option maxRecDepth 100000 in
theorem lifted (os : Os) (started : os.Started) (H : Type) (enc : TypeId × Value → H) :
    ReturnsInHanded {} Try.checked os 6 .any (Rows.streamFasterSpec.pre6 enc Try.prog Try.f6 Rows.streamFasterRow.domain false) (Rows.streamFasterSpec.post enc Try.prog Try.f6 false true false false) := by
  refine returnsInHanded_of_change_sized (C := Try.checked) own started (by kernel_rfl) Try.func6
    (ChangeSpec.witness6 (enc := enc) (C := Try.checked) false ⟨#[], #[.agg #[.slice none 0 0, .slice none 0 0, .int .i64 0, .int .i64 0, .int .i64 0]], []⟩ 8 (by kernel_rfl) (by kernel_rfl) (by kernel_rfl) (by kernel_rfl)) ?_
  intro W base args ds gs before hval0 hW hcnd hsz0 _
  have hsz : (DataW.weightsEach Try.prog (Try.f6.params.toList ++ Rows.streamFasterSpec.plain.varTypes Try.prog) (ds ++ gs)).all (· ≤ reachBytes) = true := hsz0
  have hval : ∀ (j : Nat) t v, Try.f6.params[j]? = some t → args[j]? = some v → Value.okWide Try.prog W .any base t v := hval0
  have hW' := hW
  obtain ⟨p, q, hA0, hV, rfl, hfz, hnd⟩ := hW
  have hA : DataW.TrodAll enc Try.prog W 0 (fun _ => true) true Try.f6.params.toList args.toList ds p := hA0
  rw [Try.params6] at hA hval hsz
  obtain ⟨v0, vs0, d0, ds0, p0, q0, hargs, rfl, rfl, h0, r0⟩ := trodAll_cons hA
  obtain ⟨rfl, rfl, rfl⟩ := trodAll_nil r0
  obtain rfl : args = #[v0] := by cases args; simp_all
  obtain ⟨rfl, rfl⟩ := trodVars_none hV
  have s0 := Sim.empty W
  have k0 := h0
  have lt0 : ∀ x ∈ p0, x.block < W.heap.size := by obtain ⟨m, hm⟩ := k0; exact DataW.trod_lt m _ _ _ hm
  obtain ⟨cs0, rfl⟩ := agg_of' Try.underlying46 (hval 0 46 v0 rfl rfl)
  obtain ⟨x0, K0, w0⟩ := arg_kd (opens_struct Try.underlying46 (by kernel_rfl) (fields_cons (opens_slice Try.underlying40 (by kernel_rfl) (opens_struct Try.underlying48 (by kernel_rfl) (fields_cons (opens_int Try.underlying3) rfl (by kernel_rfl) (fields_cons (opens_struct Try.underlying24 (by kernel_rfl) (fields_cons (opens_int Try.underlying3) rfl (by kernel_rfl) (fields_one (opens_int Try.underlying3) rfl (by kernel_rfl)))) rfl (by kernel_rfl) (fields_one (opens_struct Try.underlying24 (by kernel_rfl) (fields_cons (opens_int Try.underlying3) rfl (by kernel_rfl) (fields_one (opens_int Try.underlying3) rfl (by kernel_rfl)))) rfl (by kernel_rfl)))))) rfl (by kernel_rfl) (fields_cons (opens_slice Try.underlying44 (by kernel_rfl) (opens_int Try.underlying49)) rfl (by kernel_rfl) (fields_cons (opens_struct Try.underlying24 (by kernel_rfl) (fields_cons (opens_int Try.underlying3) rfl (by kernel_rfl) (fields_one (opens_int Try.underlying3) rfl (by kernel_rfl)))) rfl (by kernel_rfl) (fields_one (opens_int Try.underlying3) rfl (by kernel_rfl)))))) hsz (j := 0) rfl rfl h0
  obtain ⟨γ1, g1, a0, s1, u1, e1, A0, r0'⟩ := arg_agg s0 K0
  clear hA0 hval0 hsz0 hsz
  refine ((LStreamFaster.walk x0 a0 A0 w0).enter s1 (LRel.cons r0' LRel.nil) (fun v h hv => hv)).mono fun e W' ⟨he, bel⟩ => ?_
  subst he
  exact ⟨_, rfl, _, _, _, [], _, [], hW', trodAll_mk1 (shut_bool Try.underlying4 _), (trodAll_cons_mk (Below.trod laidOut (by kernel_rfl) (of_decide_eq_true (by kernel_rfl)) k0 bel lt0) trodAll_mk0), rfl, bel.frame _, fun h => by cases h⟩
theorem over : Rows.streamFasterRow.holds Try.pinned (OpenSpec.ofChange Rows.streamFasterSpec) :=
  OpenClaim.holds_of_wide 6 Try.f6 rfl rfl rfl rfl rfl rfl rfl ⟨rfl, rfl, rfl, rfl, rfl⟩ rfl rfl rfl rfl rfl (by kernel_rfl) Try.func6 (by kernel_rfl)
    (of_decide_eq_true (by kernel_rfl)) (by unfold Func.isWrapper; first | (rw [if_pos (by decide +kernel)]; kernel_rfl) | (rw [if_neg (by decide +kernel)]; exact ⟨rfl, rfl⟩))
    (fun os started H enc _ => lifted os started H enc)
theorem proved : Rows.StreamFasterSaid := over
#print axioms proved
end Go.Proofs.Ytikbdeobghoglaa.streamFaster
namespace Go.Proofs.Ytikbdeobghoglaa
/-- The row, under a short name, for the claim. -/
theorem streamFaster_holds : Rows.StreamFasterSaid := streamFaster.proved
end Go.Proofs.Ytikbdeobghoglaa
