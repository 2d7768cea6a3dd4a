/- The law CodeConverts: the code of any other rate at the same time of day. The walk over the abstract machine.
   Conditions: none. -/
import Derived.Test.YtnibipabfdalcaaNuZb
import Derived.Test.YtnibipabfdalcaaMdC
import Derived.Test.YtnibipabfdalcaaAmZb
import Derived.DataShut
namespace Go.Proofs.Ytnibipabfdalcaa.LCodeConverts
open Go Go.RowKit Go.Proofs.Ytnibipabfdalcaa.Am Go.Proofs.Ytnibipabfdalcaa.Af Go.Proofs.Ytnibipabfdalcaa.Nu
set_option linter.unusedVariables false
set_option linter.unusedSimpArgs false
set_option maxRecDepth 20000
set_option maxHeartbeats 2000000

theorem place_inj {F : Int} {D : Bool} (hF : 1 ≤ F ∧ F ≤ 60) {T U : Nat} {y z : Int} (h1 : Ma.ms (Md.missN F D) T ≤ y) (h2 : y < 60 * F) (h3 : Ma.ms (Md.missN F D) U ≤ z) (h4 : z < 60 * F)
    (e : Ma.pre (60 * F) (Md.missN F D) T + (y - Ma.ms (Md.missN F D) T) = Ma.pre (60 * F) (Md.missN F D) U + (z - Ma.ms (Md.missN F D) U)) : T = U ∧ y = z := by
  have hd := Md.miss_b D hF
  have key : ∀ (T U : Nat) (y z : Int), y < 60 * F → Ma.ms (Md.missN F D) U ≤ z → T < U → Ma.pre (60 * F) (Md.missN F D) T + (y - Ma.ms (Md.missN F D) T) < Ma.pre (60 * F) (Md.missN F D) U + (z - Ma.ms (Md.missN F D) U) := by
    intro T U y z hy hz hlt
    have m := Ma.pre_mono (c := 60 * F) (d := Md.missN F D) hd.1 (by omega) (T + 1) U hlt
    have e1 : Ma.pre (60 * F) (Md.missN F D) (T + 1) = Ma.pre (60 * F) (Md.missN F D) T + (60 * F - Ma.ms (Md.missN F D) T) := rfl
    omega
  rcases Nat.lt_trichotomy T U with h | h | h
  · have := key T U y z h2 h3 h; omega
  · subst h; exact ⟨rfl, by omega⟩
  · have := key U T z y h4 h1 h; omega
theorem both {F G H M S f : Int} {D E : Bool} {v1 v2 : Value} (p1 : CvPost F D G E H M S f v1) (p2 : CvPost F D G E H M S f v2) :
    ∃ a b c d e, v1 = .tuple #[.agg #[.int .i64 a, .int .i64 b, .int .i64 c, .int .i64 d], .int .i64 e] ∧ v2 = .tuple #[.agg #[.int .i64 a, .int .i64 b, .int .i64 c, .int .i64 d], .int .i64 e] := by
  obtain ⟨a, b, c, d, e, rfl, he, z1, k1⟩ := p1
  obtain ⟨a', b', c', d', e', rfl, he', z2, k2⟩ := p2
  rw [← he] at he'
  subst he'
  refine ⟨a, b, c, d, e', rfl, ?_⟩
  have key : codeV a' b' c' d' = codeV a b c d := by
    by_cases h0 : e' = 0
    · obtain ⟨T, y, q1, q2, q3, q4, q5⟩ := k1 h0
      obtain ⟨U, z, r1, r2, r3, r4, r5⟩ := k2 h0
      have hG : 1 ≤ G ∧ G ≤ 60 := by
        refine Classical.byContradiction fun hn => ?_
        rw [cvErr, if_neg (fun q => hn q.2.1)] at he
        rw [h0] at he
        exact absurd he (by decide)
      obtain ⟨rfl, rfl⟩ := place_inj (D := E) hG q3 q4 r3 r4 (q5.trans r5.symm)
      rw [r1, q1]
    · rw [z1 h0, z2 h0]
  show Value.tuple #[codeV a' b' c' d', .int .i64 e'] = _
  rw [key]
theorem walk {h : Hp} (x0 : (Int × Bool)) (cs0 : List Value) (x1 : (Int × Bool)) (cs1 : List Value) (x2 : (Int × Int × Int × Int)) (cs2 : List Value) (A0 : (AKd.pair (AKd.int .i64) AKd.bool).A h x0 cs0) (w0 : ((Lit.int .i64 x0.1).wf = true) ∧ (True)) (A1 : (AKd.pair (AKd.int .i64) AKd.bool).A h x1 cs1) (w1 : ((Lit.int .i64 x1.1).wf = true) ∧ (True)) (A2 : (AKd.pair (AKd.int .i64) (AKd.pair (AKd.int .i64) (AKd.pair (AKd.int .i64) (AKd.int .i64)))).A h x2 cs2) (w2 : ((Lit.int .i64 x2.1).wf = true) ∧ ((Lit.int .i64 x2.2.1).wf = true) ∧ ((Lit.int .i64 x2.2.2.1).wf = true) ∧ ((Lit.int .i64 x2.2.2.2).wf = true)) : ACalls Try.prog 4 [.agg cs0.toArray, .agg cs1.toArray, .agg cs2.toArray] h fun v h' => v = .bool true := by
  obtain ⟨F, D⟩ := x0
  obtain ⟨G, E⟩ := x1
  obtain ⟨H, M, S, f⟩ := x2
  obtain ⟨c1, c2, rfl, a1, a2⟩ := A0
  have a1 : c1 = [.int .i64 F] := a1
  have a2 : c2 = [.bool D] := a2
  subst a1 a2
  obtain ⟨c1, c2, rfl, a1, a2⟩ := A1
  have a1 : c1 = [.int .i64 G] := a1
  have a2 : c2 = [.bool E] := a2
  subst a1 a2
  obtain ⟨c1, c2, rfl, a1, c3, c4, rfl, a2, c5, c6, rfl, a3, a4⟩ := A2
  have a1 : c1 = [.int .i64 H] := a1
  have a2 : c3 = [.int .i64 M] := a2
  have a3 : c5 = [.int .i64 S] := a3
  have a4 : c6 = [.int .i64 f] := a4
  subst a1 a2 a3 a4
  clear w0 w1 w2
  refine dioramalaw20_CodeConverts_ok.snd hm rfl fun w => ?_
  show WF _ dioramalaw20_CodeConverts [.agg #[.int .i64 F, .bool D], .agg #[.int .i64 G, .bool E], .agg #[.int .i64 H, .int .i64 M, .int .i64 S, .int .i64 f]] h _
  rw [WF_eq, dioramalaw20_CodeConverts]
  obtain ⟨hA, hhA⟩ : ∃ g, h.new ⟨[.int .i64 F, .bool D], .own⟩ = g := ⟨_, rfl⟩
  obtain ⟨hB, hhB⟩ : ∃ g, hA.new ⟨[.int .i64 G, .bool E], .own⟩ = g := ⟨_, rfl⟩
  obtain ⟨hC, hhC⟩ : ∃ g, hB.new ⟨[.int .i64 H, .int .i64 M, .int .i64 S, .int .i64 f], .own⟩ = g := ⟨_, rfl⟩
  have wA : Wf hA := hhA ▸ w.new
  have wB : Wf hB := hhB ▸ wA.new
  have wC : Wf hC := hhC ▸ wB.new
  have fmB : Fm No hA hB := hhB ▸ Fm.new Fm.refl
  have fmC : Fm No hB hC := hhC ▸ Fm.new Fm.refl
  have g1 : hA.get h.size = some ⟨[.int .i64 F, .bool D], .own⟩ := hhA ▸ gnew
  have g2 : hB.get hA.size = some ⟨[.int .i64 G, .bool E], .own⟩ := hhB ▸ gnew
  have g3 : hC.get hB.size = some ⟨[.int .i64 H, .int .i64 M, .int .i64 S, .int .i64 f], .own⟩ := hhC ▸ gnew
  have g1 := fmC.keep wB (fmB.keep wA g1 (fun f => f)) (fun f => f)
  have g2 := fmC.keep wB g2 (fun f => f)
  have rds : ∀ g : Hp, Fm No hC g → g.rdN h.size 0 2 = some [.int .i64 F, .bool D] ∧ g.rdN hA.size 0 2 = some [.int .i64 G, .bool E] ∧ g.rdN hB.size 0 4 = some [.int .i64 H, .int .i64 M, .int .i64 S, .int .i64 f] := fun g fg =>
    ⟨rdN_mk (fg.keep wC g1 (fun f => f)) (Nat.le_refl 2), rdN_mk (fg.keep wC g2 (fun f => f)) (Nat.le_refl 2), rdN_mk (fg.keep wC g3 (fun f => f)) (Nat.le_refl 4)⟩
  obtain ⟨b1, b2, b3⟩ := rds hC Fm.refl
  simp +contextual (disch := omega) only [↓AM, ↓AV, AP, Md.CQ, hhA, hhB, hhC, b1, b2, b3]
  refine (c_Convert (F := F) (G := G) (H := H) (M := M) (S := S) (f := f) (D := D) (E := E)).use ?_
  rintro v1 h1 w1 ⟨p1, fm1⟩
  obtain ⟨a, b, c, d, e, rfl, -⟩ := both p1 p1
  obtain ⟨hD, hhD⟩ : ∃ g, h1.new ⟨[.int .i64 a, .int .i64 b, .int .i64 c, .int .i64 d], .own⟩ = g := ⟨_, rfl⟩
  have wD : Wf hD := hhD ▸ w1.new
  have fmD : Fm No h1 hD := hhD ▸ Fm.new Fm.refl
  have gD : hD.get h1.size = some ⟨[.int .i64 a, .int .i64 b, .int .i64 c, .int .i64 d], .own⟩ := hhD ▸ gnew
  have f1D := fm1.trans fmD fun _ _ f => f
  obtain ⟨b1, b2, b3⟩ := rds hD f1D
  simp +contextual (disch := omega) only [↓AM, ↓AV, AP, Md.CQ, hhA, hhB, hhC, hhD, b1, b2, b3]
  refine (c_rConvert (F := F) (G := G) (H := H) (M := M) (S := S) (f := f) (D := D) (E := E)).use ?_
  rintro v2 h2 w2 ⟨p2, fm2⟩
  obtain ⟨a', b', c', d', e', e1, rfl⟩ := both p1 p2
  cases e1
  have gD2 := fm2.keep wD gD (fun f => f)
  have rD : ∀ o, (h2.new o).rdN h1.size 0 4 = some [.int .i64 a, .int .i64 b, .int .i64 c, .int .i64 d] := fun o => by rw [rdN_keep (get_new (w2.lt gD2))]; exact rdN_mk gD2 (Nat.le_refl 4)
  simp +contextual (disch := omega) only [↓AM, ↓AV, AP, Md.CQ, hhA, hhB, hhC, hhD, rD, eqI_self]
  have ec : eqCells [1, 1, 1, 1] [Value.int .i64 a, .int .i64 b, .int .i64 c, .int .i64 d] [Value.int .i64 a, .int .i64 b, .int .i64 c, .int .i64 d] = some true := by simp [eqCells, eqCell]
  simp +contextual (disch := omega) only [↓AM, ↓AV, AP, Md.CQ, ec, eqI_self]
  refine Md.c_awake.use ?_
  rintro _ _ w8 ⟨rfl, rfl⟩
  simp +contextual (disch := omega) only [↓AM, ↓AV, AP, Md.CQ]
end Go.Proofs.Ytnibipabfdalcaa.LCodeConverts
