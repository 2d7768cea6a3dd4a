/- The calls that a law is given. Plain theorems over the abstract machine.
   Conditions: none. -/
import Derived.Test.YtholkooikmbamaaArL
import Derived.Test.YtholkooikmbamaaAmZb
import Derived.DataShut
namespace Go.Proofs.Ytholkooikmbamaa.Ar
open Go Go.RowKit Go.Proofs.Ytholkooikmbamaa.Am Go.Proofs.Ytholkooikmbamaa.Af
set_option linter.unusedVariables false
set_option linter.unusedSimpArgs false
set_option maxRecDepth 20000

theorem Rd.sub {h : Hp} {z n j : Nat} {oa : Option Addr} {cs : List Value} (r : Rd h z oa n cs) (hj : j < n) : ∃ b off sp, oa = some ⟨b, off, sp⟩ ∧ flagOk sp = true ∧ h.rdN b (off + j * z) z = some ((cs.drop (j * z)).take z) := by
  obtain ⟨b, off, sp, rfl, f1, r1⟩ := r.pos (by omega)
  obtain ⟨ob, hg, hl, rfl⟩ := rdN_of r1
  have hz : j * z + z ≤ n * z := by
    rw [← Nat.succ_mul]
    exact Nat.mul_le_mul_right _ hj
  refine ⟨b, off, sp, rfl, f1, ?_⟩
  rw [rdN_mk hg (by omega), List.drop_take, List.drop_drop, List.take_take, Nat.min_eq_left (by omega)]
theorem _root_.Go.Proofs.Ytholkooikmbamaa.Am.Fm.ex {h h' : Hp} (fm : Fm No h h') (w : Wf h) : Ex h h' := fun b o e => fm.keep w e id
/-- Calls in memory. -/
def OpsAt (h : Hp) (oa : Option Addr) (xs : List (Int × Int × Int × List Int)) : Prop := ∀ (j : Nat) (x : Int × Int × Int × List Int), xs[j]? = some x → ∃ b off sp sa sc, oa = some ⟨b, off, sp⟩ ∧ flagOk sp = true ∧
  h.rdN b (off + j * 4) 4 = some [.int .i64 x.1, .int .i64 x.2.1, .int .i64 x.2.2.1, .slice sa x.2.2.2.length sc] ∧ Rd h 1 sa x.2.2.2.length (x.2.2.2.map (Value.int .i64)) ∧ 8 * x.2.2.2.length ≤ 140737488351232 ∧
  -9223372036854775808 ≤ x.2.2.1 ∧ x.2.2.1 ≤ 9223372036854775807
theorem OpsAt.ex {h h' : Hp} {oa : Option Addr} {xs : List (Int × Int × Int × List Int)} (O : OpsAt h oa xs) (e : Ex h h') : OpsAt h' oa xs := by
  intro j x hx
  obtain ⟨b, off, sp, sa, sc, h1, h2, h3, h4, h5⟩ := O j x hx
  exact ⟨b, off, sp, sa, sc, h1, h2, e.rdN h3, h4.ex e, h5⟩
theorem ops_open {h : Hp} {xs : List (Int × Int × Int × List Int)} {u0 : Value} (A0 : (AKd.slice (AKd.pair (AKd.int .i64) (AKd.pair (AKd.int .i64) (AKd.pair (AKd.int .i64) (AKd.slice (AKd.int .i64)))))).A h xs [u0])
    (w0 : ∀ x ∈ xs, ((Lit.int .i64 x.1).wf = true) ∧ ((Lit.int .i64 x.2.1).wf = true) ∧ ((Lit.int .i64 x.2.2.1).wf = true) ∧ (x.2.2.2.length * Try.prog.bytesOf 3 ≤ 140737488351232 ∧ ∀ y ∈ x.2.2.2, (Lit.int .i64 y).wf = true)) :
    ∃ oa c, u0 = .slice oa xs.length c ∧ OpsAt h oa xs := by
  obtain ⟨oa, c, r, h1, h2, h3, _⟩ := A0
  cases h1
  refine ⟨oa, c, rfl, fun j x hx => ?_⟩
  have hb : Try.prog.bytesOf 3 = 8 := by kernel_rfl
  obtain ⟨hj, rfl⟩ := List.getElem?_eq_some_iff.1 hx
  obtain ⟨_, _, hw, hs, _⟩ := w0 _ (List.getElem_mem hj)
  rw [hb] at hs
  have hw := (Lit.wf_int_iff .i64 _).1 hw
  obtain ⟨b, off, sp, rfl, f1, r1⟩ := Rd.sub h2 hj
  have el := AKd.Row.get (fun x cs h => (AKd.pair (AKd.int .i64) (AKd.pair (AKd.int .i64) (AKd.pair (AKd.int .i64) (AKd.slice (AKd.int .i64))))).alen h) h3 hx
  obtain ⟨c1, c2, e1, q1, q2⟩ := el
  obtain ⟨c3, c4, e2, q3, q4⟩ := q2
  obtain ⟨c5, c6, e3, q5, q6⟩ := q4
  have q1 : c1 = [.int .i64 xs[j].1] := q1
  have q3 : c3 = [.int .i64 xs[j].2.1] := q3
  have q5 : c5 = [.int .i64 xs[j].2.2.1] := q5
  obtain ⟨sa, sc, r2, q6, q7, q8, _⟩ := q6
  have q8 := AKd.Row.int q8
  subst q1 q3 q5 q6 q8 e2 e3
  refine ⟨b, off, sp, sa, sc, rfl, f1, r1.trans (congrArg some e1), q7, by omega, hw⟩
end Go.Proofs.Ytholkooikmbamaa.Ar
