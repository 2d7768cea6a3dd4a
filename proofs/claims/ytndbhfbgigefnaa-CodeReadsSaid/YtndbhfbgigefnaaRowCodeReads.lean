/- The row of the law CodeReads: whatever the input, it returns true, and the arguments read as before.
   Conditions: none beyond those of the given statement. -/
import Derived.Test.YtndbhfbgigefnaaRows
import Derived.Test.YtndbhfbgigefnaaLCodeReads
import Derived.Test.YtndbhfbgigefnaaOpen
import Derived.Test.YtndbhfbgigefnaaPAx0
import Derived.WalkKit
import Derived.ProofKit
import Derived.OpenShut
import Derived.ShutString
import Derived.ChangeOld
import Derived.Below
import Derived.SizedLaws
namespace Go.Proofs.Ytndbhfbgigefnaa.codeReads
open Go.ChangeShapes Go.WideShapes Go.ChangeAt Go.RowKit Go.Proofs.Ytndbhfbgigefnaa.Op Go.Proofs.YtndbhfbgigefnaaW.PrintWords Go.Proofs.Ytndbhfbgigefnaa.PA
open Go.ChangeMaps (open_string shut_string)
set_option linter.unusedVariables false
theorem own : ownKnob Try.prog.godebug = none := by kernel_rfl
theorem laidOut : laidOutB Try.prog = true := by kernel_rfl
set_option maxRecDepth 100000 in
theorem lifted (os : Os) (started : os.Started) (H : Type) (enc : TypeId × Value → H) :
    ReturnsInHanded {} Try.checked os 9 .any (Rows.codeReadsSpec.pre6 enc Try.prog Try.f9 Rows.codeReadsRow.domain false) (Rows.codeReadsSpec.post enc Try.prog Try.f9 false true false false) := by
  refine returnsInHanded_of_change_sized (C := Try.checked) own started (by kernel_rfl) Try.func9
    (ChangeSpec.witness6 (enc := enc) (C := Try.checked) false ⟨#[], #[.agg #[.int .i64 0, .int .i64 0, .string ByteArray.empty, .int .i64 0, .slice none 0 0, .string ByteArray.empty, .string ByteArray.empty, .int .i64 0, .slice none 0 0, .slice none 0 0, .slice none 0 0]], []⟩ 8 (by kernel_rfl) (by kernel_rfl) (by kernel_rfl) (by kernel_rfl)) ?_
  intro W base args ds gs before hval0 hW hcnd hsz0 _
  have hsz : (DataW.weightsEach Try.prog (Try.f9.params.toList ++ Rows.codeReadsSpec.plain.varTypes Try.prog) (ds ++ gs)).all (· ≤ reachBytes) = true := hsz0
  have hval : ∀ (j : Nat) t v, Try.f9.params[j]? = some t → args[j]? = some v → Value.okWide Try.prog W .any base t v := hval0
  have hW' := hW
  obtain ⟨p, q, hA0, hV, rfl, hfz, hnd⟩ := hW
  have hA : DataW.TrodAll enc Try.prog W 0 (fun _ => true) true Try.f9.params.toList args.toList ds p := hA0
  rw [Try.params9] at hA hval hsz
  obtain ⟨v0, vs0, d0, ds0, p0, q0, hargs, rfl, rfl, h0, r0⟩ := trodAll_cons hA
  obtain ⟨rfl, rfl, rfl⟩ := trodAll_nil r0
  obtain rfl : args = #[v0] := by cases args; simp_all
  obtain ⟨rfl, rfl⟩ := trodVars_none hV
  have k0 := h0
  have lt0 : ∀ x ∈ p0, x.block < W.heap.size := by obtain ⟨m, hm⟩ := k0; exact DataW.trod_lt m _ _ _ hm
  obtain ⟨cs0, rfl⟩ := agg_of Try.underlying52 (hval 0 52 v0 rfl rfl)
  obtain ⟨x0, K0, f0⟩ := arg_agg (opens_struct Try.underlying52 (by kernel_rfl) (fields_cons (opens_int Try.underlying3) rfl (by kernel_rfl) (fields_cons (opens_int Try.underlying3) rfl (by kernel_rfl) (fields_cons (opens_string Try.underlying9) rfl (by kernel_rfl) (fields_cons (opens_int Try.underlying3) rfl (by kernel_rfl) (fields_cons (opens_slice (e' := 5) Try.underlying47 (by kernel_rfl) (opens_int Try.underlying5)) rfl (by kernel_rfl) (fields_cons (opens_string Try.underlying9) rfl (by kernel_rfl) (fields_cons (opens_string Try.underlying9) rfl (by kernel_rfl) (fields_cons (opens_int Try.underlying3) rfl (by kernel_rfl) (fields_cons (opens_slice (e' := 97) Try.underlying48 (by kernel_rfl) (opens_iso (d := (Kd.pair (Kd.int .i64) (Kd.pair (Kd.int .i64) (Kd.pair (Kd.int .i64) (Kd.int .i64))))) (f := fun x : S97 => (x.f0, x.f1, x.f2, x.f3)) (opens_struct Try.underlying97 (by kernel_rfl) (fields_cons (opens_int Try.underlying3) rfl (by kernel_rfl) (fields_cons (opens_int Try.underlying3) rfl (by kernel_rfl) (fields_cons (opens_int Try.underlying3) rfl (by kernel_rfl) (fields_one (opens_int Try.underlying3) rfl (by kernel_rfl)))))) (fun p => ⟨p.1, p.2.1, p.2.2.1, p.2.2.2⟩) (fun p => rfl))) rfl (by kernel_rfl) (fields_cons (opens_slice (e' := 95) Try.underlying49 (by kernel_rfl) (opens_iso (d := (Kd.pair Kd.string (Kd.int .i64))) (f := fun x : S95 => (x.f0, x.f1)) (opens_struct Try.underlying95 (by kernel_rfl) (fields_cons (opens_string Try.underlying9) rfl (by kernel_rfl) (fields_one (opens_int Try.underlying3) rfl (by kernel_rfl)))) (fun p => ⟨p.1, p.2⟩) (fun p => rfl))) rfl (by kernel_rfl) (fields_one (opens_slice (e' := 82) Try.underlying50 (by kernel_rfl) (opens_iso (d := (Kd.pair (Kd.int .i64) (Kd.pair (Kd.int .i64) (Kd.pair (Kd.int .i64) (Kd.pair Kd.bool (Kd.pair (Kd.slice 3 (Kd.int .i64)) (Kd.slice 5 (Kd.int .u8)))))))) (f := fun x : S82 => (x.f0, x.f1, x.f2, x.f3, x.f4, x.f5)) (opens_struct Try.underlying82 (by kernel_rfl) (fields_cons (opens_int Try.underlying3) rfl (by kernel_rfl) (fields_cons (opens_int Try.underlying3) rfl (by kernel_rfl) (fields_cons (opens_int Try.underlying3) rfl (by kernel_rfl) (fields_cons (opens_bool Try.underlying4) rfl (by kernel_rfl) (fields_cons (opens_slice (e' := 3) Try.underlying55 (by kernel_rfl) (opens_int Try.underlying3)) rfl (by kernel_rfl) (fields_one (opens_slice (e' := 5) Try.underlying47 (by kernel_rfl) (opens_int Try.underlying5)) rfl (by kernel_rfl)))))))) (fun p => ⟨p.1, p.2.1, p.2.2.1, p.2.2.2.1, p.2.2.2.2.1, p.2.2.2.2.2⟩) (fun p => rfl))) rfl (by kernel_rfl))))))))))))) hsz (j := 0) rfl rfl h0
  obtain ⟨a0_0, ⟨a0_1, ⟨a0_2, ⟨a0_3, ⟨l0_4, ⟨a0_5, ⟨a0_6, ⟨a0_7, ⟨l0_8, ⟨l0_9, l0_10⟩⟩⟩⟩⟩⟩⟩⟩⟩⟩ := x0
  obtain ⟨_, _, e0, rfl, ⟨_, _, rfl, rfl, ⟨_, _, rfl, rfl, ⟨_, _, rfl, rfl, ⟨_, _, rfl, ⟨A0_4, c0_4, rfl, hl0_4, hr0_4⟩, ⟨_, _, rfl, rfl, ⟨_, _, rfl, rfl, ⟨_, _, rfl, rfl, ⟨_, _, rfl, ⟨A0_8, c0_8, rfl, hl0_8, hr0_8⟩, ⟨_, _, rfl, ⟨A0_9, c0_9, rfl, hl0_9, hr0_9⟩, ⟨A0_10, c0_10, rfl, hl0_10, hr0_10⟩⟩⟩⟩⟩⟩⟩⟩⟩⟩⟩ := K0
  obtain ⟨w0_0, ⟨w0_1, ⟨w0_2, ⟨w0_3, ⟨hf0_4, ⟨w0_5, ⟨w0_6, ⟨w0_7, ⟨hf0_8, ⟨hf0_9, hf0_10⟩⟩⟩⟩⟩⟩⟩⟩⟩⟩ := f0
  obtain rfl := array_of_list e0
  clear hA0 hval0 hsz0 hsz
  refine (LCodeReads.walk a0_0 a0_1 a0_2 a0_3 A0_4 c0_4 l0_4 a0_5 a0_6 a0_7 A0_8 c0_8 l0_8 A0_9 c0_9 l0_9 A0_10 c0_10 l0_10 W w0_0 w0_1 w0_2 w0_3 hr0_4 hl0_4 hf0_4 w0_5 w0_6 w0_7 hr0_8 hl0_8 hf0_8 hr0_9 hl0_9 hf0_9 hr0_10 hl0_10 hf0_10).mono fun e W' ⟨he, bel⟩ => ?_
  subst he
  exact ⟨_, rfl, _, _, _, [], _, [], hW', trodAll_mk1 (shut_bool Try.underlying4 _), (trodAll_cons_mk (Below.trod laidOut (by kernel_rfl) (of_decide_eq_true (by kernel_rfl)) k0 bel lt0) trodAll_mk0), rfl, bel.frame _, fun h => by cases h⟩
theorem over : Rows.codeReadsRow.holds Try.pinned (OpenSpec.ofChange Rows.codeReadsSpec) :=
  OpenClaim.holds_of_wide 9 Try.f9 rfl rfl rfl rfl rfl rfl rfl ⟨rfl, rfl, rfl, rfl, rfl⟩ rfl rfl rfl rfl rfl (by kernel_rfl) Try.func9 (by kernel_rfl)
    (of_decide_eq_true (by kernel_rfl)) (by unfold Func.isWrapper; first | (rw [if_pos (by decide +kernel)]; kernel_rfl) | (rw [if_neg (by decide +kernel)]; exact ⟨rfl, rfl⟩))
    (fun os started H enc _ => lifted os started H enc)
theorem proved : Rows.CodeReadsSaid := over
#print axioms proved
end Go.Proofs.Ytndbhfbgigefnaa.codeReads
namespace Go.Proofs.Ytndbhfbgigefnaa
/-- The row, under a short name, for the claim. -/
theorem codeReads_holds : Rows.CodeReadsSaid := codeReads.proved
end Go.Proofs.Ytndbhfbgigefnaa
