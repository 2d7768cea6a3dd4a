/- What refuses everything is no program: a whole run; locks opened. Plain theorems over the abstract machine.
   Conditions: none. -/
import Derived.Test.YtloonniiffbopaaCrD
import Derived.Test.YtloonniiffbopaaAmZa
namespace Go.Proofs.Ytloonniiffbopaa.Cr
open Go Go.RowKit Go.Proofs.Ytloonniiffbopaa.Am Go.Proofs.Ytloonniiffbopaa.Af
set_option linter.unusedVariables false
set_option linter.unusedSimpArgs false
set_option maxRecDepth 20000

def awakeTab : List (Nat × AF) := [(10, dioramaref00_EqBytes), (11, dioramalaw21_awake), (15, crypt_Check), (17, crypt_Protect), (27, crypt_within), (28, crypt_newCipher), (31, crypt_stretches), (33, crypt_Check_1), (34, crypt_pattern), (35, slices_ContainsFunc___api_Part_api_Part_), (37, crypt_hasKey), (38, crypt_apply), (47, crypt_word), (48, crypt_newCipher_1), (49, crypt_mix), (50, crypt_put), (54, slices_DeleteFunc___crypt_stretch_crypt_stretch_), (55, crypt_stretches_1), (56, slices_IndexFunc___api_Part_api_Part_), (57, slices_Clone___byte_byte_), (61, slices_IndexFunc___crypt_stretch_crypt_stretch_)]
theorem awakeTab_ok : TabL Try.prog awakeTab := ⟨dioramaref00_EqBytes_ok, dioramalaw21_awake_ok, crypt_Check_ok, crypt_Protect_ok, crypt_within_ok, crypt_newCipher_ok, crypt_stretches_ok, crypt_Check_1_ok, crypt_pattern_ok, slices_ContainsFunc___api_Part_api_Part__ok, crypt_hasKey_ok, crypt_apply_ok, crypt_word_ok, crypt_newCipher_1_ok, crypt_mix_ok, crypt_put_ok, slices_DeleteFunc___crypt_stretch_crypt_stretch__ok, crypt_stretches_1_ok, slices_IndexFunc___api_Part_api_Part__ok, slices_Clone___byte_byte__ok, slices_IndexFunc___crypt_stretch_crypt_stretch__ok, trivial⟩
theorem awake_runs : xIs (xCall (tabOf awakeTab) 200 11 []) (.bool true) = true := by kernel_rfl
theorem c_awake {h : Hp} : ACalls Try.prog 11 [] h fun v h' => v = .bool true ∧ h' = h :=
  xCall_ok hm awakeTab_ok.tab awake_runs rfl rfl h

theorem row_flat {α : Type} {A : α → List Value → Prop} {f : α → List Value} (hf : ∀ x cs, A x cs → cs = f x) : ∀ {xs : List α} {cs : List Value}, AKd.Row A xs cs → cs = xs.flatMap f
  | [], _, h => h
  | x :: xs, _, ⟨c, r, e, h1, h2⟩ => by
    rw [e, hf x c h1, row_flat hf h2]; rfl
theorem ints_open {k : IntKind} {h : Hp} {xs : List Int} {cs : List Value} (a : (AKd.slice (AKd.int k)).A h xs cs) : ∃ oa c, cs = [.slice oa xs.length c] ∧ Rd h 1 oa xs.length (xs.map (Value.int k)) ∧ xs.length ≤ c := by
  obtain ⟨oa, c, r, h1, h2, h3, h4⟩ := a
  have := AKd.Row.int h3
  subst this
  exact ⟨oa, c, h1, h2, h4⟩
def lockOf (x : Int × Int × Int × Int × List (Int × Int)) : Lk := ⟨x.1, x.2.1, x.2.2.1, x.2.2.2.1, x.2.2.2.2⟩
theorem part_cells {h : Hp} (x : Int × Int) (cs : List Value) (a : (AKd.pair (AKd.int .i64) (AKd.int .i64)).A h x cs) : cs = partC x := by
  obtain ⟨c1, c2, rfl, h1, h2⟩ := a
  have h1 : c1 = [.int .i64 x.1] := h1
  have h2 : c2 = [.int .i64 x.2] := h2
  rw [h1, h2]; rfl
theorem lock_open {h : Hp} {x0 : Int × Int × Int × Int × List (Int × Int)} {cs0 : List Value} (A0 : (AKd.pair (AKd.int .i64) (AKd.pair (AKd.int .i64) (AKd.pair (AKd.int .i64) (AKd.pair (AKd.int .i64) (AKd.slice (AKd.pair (AKd.int .i64) (AKd.int .i64))))))).A h x0 cs0) :
    ∃ oa c, .agg cs0.toArray = lockV (lockOf x0) oa c ∧ Rd h 2 oa (lockOf x0).parts.length ((lockOf x0).parts.flatMap partC) := by
  obtain ⟨c1, c2, rfl, h1, c3, c4, rfl, h2, c5, c6, rfl, h3, c7, c8, rfl, h4, oa, c, r, rfl, h5, h6, h7⟩ := A0
  have h1 : c1 = [.int .i64 x0.1] := h1
  have h2 : c3 = [.int .i64 x0.2.1] := h2
  have h3 : c5 = [.int .i64 x0.2.2.1] := h3
  have h4 : c7 = [.int .i64 x0.2.2.2.1] := h4
  refine ⟨oa, c, by rw [h1, h2, h3, h4]; rfl, ?_⟩
  rw [row_flat part_cells h6] at h5
  exact h5
end Go.Proofs.Ytloonniiffbopaa.Cr
