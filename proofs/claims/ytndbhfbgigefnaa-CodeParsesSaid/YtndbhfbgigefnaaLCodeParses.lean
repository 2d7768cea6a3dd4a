/- The law CodeParses, walked: what a text is read as is the reference's.
   Conditions: none. -/
import Derived.Test.YtndbhfbgigefnaaPBx24
import Derived.Test.YtndbhfbgigefnaaMf
import Derived.Test.YtndbhfbgigefnaaMe
namespace Go.Proofs.Ytndbhfbgigefnaa.LCodeParses
open Go.RowKit Go.Proofs.Ytndbhfbgigefnaa.PA Go.Proofs.Ytndbhfbgigefnaa.Ma Go.Proofs.Ytndbhfbgigefnaa.Mb Go.Proofs.Ytndbhfbgigefnaa.Mc Go.Proofs.Ytndbhfbgigefnaa.Md Go.Proofs.Ytndbhfbgigefnaa.Me Go.Proofs.Ytndbhfbgigefnaa.Mf
set_option linter.unusedVariables false
theorem Count_err (F : Int) (D : Bool) (h m s f : Int) (k : Nat) : ∃ n, code_Count.f (k + 1) F D h m s f = some (n, err F D h m s f) := by
  rcases code_cases F D h m s f with he | ⟨ho, he, T, y, hp, e⟩
  · exact ⟨0, Count_bad rfl he k⟩
  · have hG := Count_good ho hp.1 hp.2.1 hp.2.2 k
    rw [← e] at hG
    exact ⟨_, hG.trans (by rw [he])⟩
theorem rv2_eq (s : ByteArray) (i : Int) : rv2 s i = v2 s i := rfl
theorem form_ok (D : Bool) (s : ByteArray) : (rform D s ∧ rdigits s) ↔ okText D s :=
  ⟨fun ⟨⟨a, b, c, d⟩, e0, e1, e3, e4, e6, e7, e9, e10⟩ => ⟨a, e0, e1, b, e3, e4, c, e6, e7, d, e9, e10⟩,
   fun ⟨a, e0, e1, b, e3, e4, c, e6, e7, d, e9, e10⟩ => ⟨⟨a, b, c, d⟩, e0, e1, e3, e4, e6, e7, e9, e10⟩⟩
theorem rParse_eq (F : Int) (D : Bool) (s : ByteArray) (k : Nat) : dioramaref20_Parse.f (k + 64) F D s = some (parseV F D s) := by
  unfold dioramaref20_Parse.f parseV
  rw [rcheck_eq]
  simp only [Option.bind_some]
  by_cases ho : ok F D = true
  · rw [if_pos ho, if_pos ho, if_pos rfl]
    by_cases h1 : rform D s
    · rw [if_pos h1]
      by_cases h2 : rdigits s
      · rw [if_pos h2, if_pos ((form_ok D s).1 ⟨h1, h2⟩)]
        obtain ⟨n, hn⟩ := Count_err F D (rv2 s 0) (rv2 s 3) (rv2 s 6) (rv2 s 9) (k + 63)
        rw [rCount_eq F D _ _ _ _ (by omega), hn]
        simp only [Option.bind_some, rv2_eq]
        unfold parsed
        split <;> rfl
      · rw [if_neg h2, if_neg (fun h => h2 ((form_ok D s).2 h).2)]
    · rw [if_neg h1, if_neg (fun h => h1 ((form_ok D s).2 h).1)]
  · rw [if_neg ho, if_neg ho, if_neg (by decide)]
theorem pure (F : Int) (D : Bool) (s : ByteArray) : dioramalaw20_CodeParses.f 100 F D s = some true := by
  unfold dioramalaw20_CodeParses.f
  rw [Parse_eq F D s 65, rParse_eq F D s 36]
  simp only [Option.bind_some, beq_self_eq_true, Bool.and_self, if_true]
  rw [awake_eq (by omega)]; rfl
theorem walk (a0_0 : Int) (a0_1 : Bool) (a1 : ByteArray) (W : World) (w0_0 : (Lit.int .i64 a0_0).wf = true) (w1 : a1.size ≤ 140737488351232) :
    Calls Try.prog 8 #[.agg #[.int .i64 a0_0, .bool a0_1], .string a1] W fun e w' => e = .returned (.bool true) ∧ Below W.heap.size W w' :=
  dioramalaw20_CodeParses.calls 100 a0_0 a0_1 a1 true W (pure a0_0 a0_1 a1) rfl
end Go.Proofs.Ytndbhfbgigefnaa.LCodeParses
