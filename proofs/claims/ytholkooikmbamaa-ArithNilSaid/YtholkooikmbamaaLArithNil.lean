/- The law ArithNil: an encoder and a decoder that are not there. The walk over the abstract machine.
   Conditions: none. -/
import Derived.Test.YtholkooikmbamaaArD
import Derived.Test.YtholkooikmbamaaAmZb
namespace Go.Proofs.Ytholkooikmbamaa.LArithNil
open Go Go.RowKit Go.Proofs.Ytholkooikmbamaa.Am Go.Proofs.Ytholkooikmbamaa.Af Go.Proofs.Ytholkooikmbamaa.Ar
set_option linter.unusedVariables false
set_option linter.unusedSimpArgs false
set_option maxRecDepth 20000

theorem e4_4 : EqI 4 4 = True := by simp [EqI]
theorem len0 : ((0 : Nat) : Int) = 0 := rfl
theorem n_Bit {h : Hp} {p b : Int} : ACalls Try.prog 11 [.pointer none, .int .i64 p, .int .i64 b] h fun v h' => v = .tuple #[.int .i64 0, .int .i64 4] ∧ Fm No h h' := by
  refine arith_Encoder__Bit_ok.snd hm rfl fun w => ?_
  rw [WF_eq, arith_Encoder__Bit]
  simp +contextual only [↓AM, ↓AV, AP]
  refine c_usable0.use ?_
  rintro _ h w1 ⟨rfl, rfl⟩
  simp +contextual only [↓AM, ↓AV, AP]
  exact Fm.refl
theorem n_Number {h : Hp} {v : Int} {u : Value} (hu : cell1 u = true) : ACalls Try.prog 38 [.pointer none, u, .int .i64 v] h fun v h' => v = .tuple #[.slice none 0 0, .int .i64 4] ∧ Fm No h h' := by
  refine arith_Encoder__Number_ok.snd hm rfl fun w => ?_
  rw [WF_eq, arith_Encoder__Number]
  simp +contextual only [↓AM, ↓AV, AP]
  refine c_usable0.use ?_
  rintro _ h1 w1 ⟨rfl, rfl⟩
  simp +contextual only [↓AM, ↓AV, AP]
  exact Fm.new Fm.refl
theorem n_Signed {h : Hp} {s : Int} {u : Value} (hu : cell1 u = true) : ACalls Try.prog 39 [.pointer none, u, .int .i64 s] h fun v h' => v = .tuple #[.slice none 0 0, .int .i64 4] ∧ Fm No h h' := by
  refine arith_Encoder__Signed_ok.snd hm rfl fun w => ?_
  rw [WF_eq, arith_Encoder__Signed]
  simp +contextual only [↓AM, ↓AV, AP]
  refine WC.mk (fun t h' => h' = h ∧ ∃ m : Int, t = [(0, some (.pointer none)), (1, some u), (8, some (.int .i64 m))]) ?_ ?_
  · simp +contextual only [↓AM, ↓AV, AP]
    refine ⟨fun _ => ⟨fun _ => ⟨_, rfl⟩, fun _ => ⟨fun _ => ⟨fun _ => ⟨_, rfl⟩, fun _ => ⟨_, rfl⟩⟩, fun _ => ⟨_, rfl⟩⟩⟩, fun _ => ⟨fun _ => ⟨fun _ => ⟨_, rfl⟩, fun _ => ⟨_, rfl⟩⟩, fun _ => ⟨_, rfl⟩⟩⟩
  · rintro t h ⟨rfl, m, rfl⟩
    simp +contextual only [↓AM, ↓AV, AP]
    refine (n_Number hu).use ?_
    rintro _ h1 w1 ⟨rfl, fm⟩
    simp +contextual only [↓AM, ↓AV, AP]
    exact fm
theorem n_Close {h : Hp} : ACalls Try.prog 12 [.pointer none] h fun v h' => v = .slice none 0 0 ∧ Fm No h h' := by
  refine arith_Encoder__Close_ok.snd hm rfl fun w => ?_
  rw [WF_eq, arith_Encoder__Close]
  simp +contextual only [↓AM, ↓AV, AP]
  refine c_usable0.use ?_
  rintro _ h1 w1 ⟨rfl, rfl⟩
  simp +contextual only [↓AM, ↓AV, AP]
  exact Fm.refl
theorem n_DBit {h : Hp} {p : Int} : ACalls Try.prog 40 [.pointer none, .int .i64 p] h fun v h' => v = .tuple #[.int .i64 0, .int .i64 0, .int .i64 4] ∧ Fm No h h' := by
  refine arith_Decoder__Bit_ok.snd hm rfl fun w => ?_
  rw [WF_eq, arith_Decoder__Bit]
  simp +contextual only [↓AM, ↓AV, AP, isNilV, Option.isNone]
  exact Fm.refl
theorem n_DNumber {h : Hp} {u : Value} : ACalls Try.prog 41 [.pointer none, u] h fun v h' => v = .tuple #[.int .i64 0, .slice none 0 0, .int .i64 4] ∧ Fm No h h' := by
  refine arith_Decoder__Number_ok.snd hm rfl fun w => ?_
  rw [WF_eq, arith_Decoder__Number]
  simp +contextual only [↓AM, ↓AV, AP, isNilV, Option.isNone]
  exact Fm.refl
theorem n_DSigned {h : Hp} {u : Value} : ACalls Try.prog 42 [.pointer none, u] h fun v h' => v = .tuple #[.int .i64 0, .slice none 0 0, .int .i64 4] ∧ Fm No h h' := by
  refine arith_Decoder__Signed_ok.snd hm rfl fun w => ?_
  rw [WF_eq, arith_Decoder__Signed]
  simp +contextual only [↓AM, ↓AV, AP]
  refine n_DNumber.use ?_
  rintro _ h1 w1 ⟨rfl, fm⟩
  simp +contextual only [↓AM, ↓AV, AP]
  exact fm
theorem n_Read {h : Hp} : ACalls Try.prog 33 [.pointer none] h fun v h' => v = .int .i64 0 ∧ Fm No h h' := by
  refine arith_Decoder__Read_ok.snd hm rfl fun w => ?_
  rw [WF_eq, arith_Decoder__Read]
  simp +contextual only [↓AM, ↓AV, AP, isNilV, Option.isNone]
  exact Fm.refl
theorem walk {h : Hp} (x0 : (Int × Int × Int × (List Int))) (cs0 : List Value) (A0 : (AKd.pair (AKd.int .i64) (AKd.pair (AKd.int .i64) (AKd.pair (AKd.int .i64) (AKd.slice (AKd.int .i64))))).A h x0 cs0) (w0 : ((Lit.int .i64 x0.1).wf = true) ∧ ((Lit.int .i64 x0.2.1).wf = true) ∧ ((Lit.int .i64 x0.2.2.1).wf = true) ∧ (x0.2.2.2.length * Try.prog.bytesOf 3 ≤ 140737488351232 ∧ ∀ x ∈ x0.2.2.2, (Lit.int .i64 x).wf = true)) :
    ACalls Try.prog 8 [.agg cs0.toArray] h fun v h' => v = .bool true := by
  obtain ⟨c1, c2, rfl, h1, c3, c4, rfl, h3, c5, c6, rfl, h5, h6⟩ := A0
  have h1 : c1 = [.int .i64 x0.1] := h1
  have h3 : c3 = [.int .i64 x0.2.1] := h3
  have h5 : c5 = [.int .i64 x0.2.2.1] := h5
  obtain ⟨oa, c, r, h6, _⟩ := h6
  subst h1 h3 h5 h6
  refine dioramalaw13_ArithNil_ok.snd hm rfl fun w => ?_
  rw [WF_eq, dioramalaw13_ArithNil]
  simp +contextual only [↓AM, ↓AV, AP]
  have w0' := w.new (o := ⟨[.int .i64 x0.1, .int .i64 x0.2.1, .int .i64 x0.2.2.1, .slice oa x0.2.2.2.length c], .own⟩)
  have g0 := gnew (h := h) (o := ⟨[.int .i64 x0.1, .int .i64 x0.2.1, .int .i64 x0.2.2.1, .slice oa x0.2.2.2.length c], .own⟩)
  refine (n_Bit).use ?_
  rintro _ k1 w1' ⟨rfl, fm1⟩
  have g1 := fm1.keep w0' g0 id
  clear g0 w0'
  simp +contextual only [↓AM, ↓AV, AP, rd_mk g1, e4_4, len0]
  refine (n_Number rfl).use ?_
  rintro _ k2 w2' ⟨rfl, fm2⟩
  have g2 := fm2.keep w1' g1 id
  clear g1 w1'
  simp +contextual only [↓AM, ↓AV, AP, rd_mk g2, e4_4, len0]
  refine (n_Signed rfl).use ?_
  rintro _ k3 w3' ⟨rfl, fm3⟩
  have g3 := fm3.keep w2' g2 id
  clear g2 w2'
  simp +contextual only [↓AM, ↓AV, AP, rd_mk g3, e4_4, len0]
  refine (n_Close).use ?_
  rintro _ k4 w4' ⟨rfl, fm4⟩
  have g4 := fm4.keep w3' g3 id
  clear g3 w3'
  simp +contextual only [↓AM, ↓AV, AP, rd_mk g4, e4_4, len0]
  refine (n_DBit).use ?_
  rintro _ k5 w5' ⟨rfl, fm5⟩
  have g5 := fm5.keep w4' g4 id
  clear g4 w4'
  simp +contextual only [↓AM, ↓AV, AP, rd_mk g5, e4_4, len0]
  refine (n_DNumber).use ?_
  rintro _ k6 w6' ⟨rfl, fm6⟩
  have g6 := fm6.keep w5' g5 id
  clear g5 w5'
  simp +contextual only [↓AM, ↓AV, AP, rd_mk g6, e4_4, len0]
  refine (n_DSigned).use ?_
  rintro _ k7 w7' ⟨rfl, fm7⟩
  have g7 := fm7.keep w6' g6 id
  clear g6 w6'
  simp +contextual only [↓AM, ↓AV, AP, rd_mk g7, e4_4, len0]
  refine (n_Read).use ?_
  rintro _ k8 w8' ⟨rfl, fm8⟩
  have g8 := fm8.keep w7' g7 id
  clear g7 w7'
  simp +contextual only [↓AM, ↓AV, AP, rd_mk g8, e4_4, len0]
  refine c_awake.use ?_
  rintro _ k9 w9 ⟨rfl, rfl⟩
  simp +contextual only [↓AM, ↓AV, AP]
end Go.Proofs.Ytholkooikmbamaa.LArithNil
