/- The law CodeTracks: the track of any starts. The walk over the abstract machine.
   Conditions: none. -/
import Derived.Test.YtnibipabfdalcaaMdG
import Derived.Test.YtnibipabfdalcaaAmZb
import Derived.DataShut
namespace Go.Proofs.Ytnibipabfdalcaa.LCodeTracks
open Go Go.RowKit Go.Proofs.Ytnibipabfdalcaa.Am Go.Proofs.Ytnibipabfdalcaa.Af Go.Proofs.Ytnibipabfdalcaa.Md
set_option linter.unusedVariables false
set_option linter.unusedSimpArgs false
set_option maxRecDepth 20000
set_option maxHeartbeats 2000000

theorem walk {h : Hp} (x0 : (Int × Bool)) (cs0 : List Value) (x1 : (Int × Int)) (cs1 : List Value) (x2 : (List (Int × Int × Int × Bool × (List Int) × (List Int)))) (u2 : Value) (A0 : (AKd.pair (AKd.int .i64) AKd.bool).A h x0 cs0) (w0 : ((Lit.int .i64 x0.1).wf = true) ∧ (True)) (A1 : (AKd.pair (AKd.int .i64) (AKd.int .i64)).A h x1 cs1) (w1 : ((Lit.int .i64 x1.1).wf = true) ∧ ((Lit.int .i64 x1.2).wf = true)) (A2 : (AKd.slice (AKd.pair (AKd.int .i64) (AKd.pair (AKd.int .i64) (AKd.pair (AKd.int .i64) (AKd.pair AKd.bool (AKd.pair (AKd.slice (AKd.int .i64)) (AKd.slice (AKd.int .u8)))))))).A h x2 [u2]) (w2 : x2.length * Try.prog.bytesOf 44 ≤ 140737488351232 ∧ ∀ x ∈ x2, ((Lit.int .i64 x.1).wf = true) ∧ ((Lit.int .i64 x.2.1).wf = true) ∧ ((Lit.int .i64 x.2.2.1).wf = true) ∧ (True) ∧ (x.2.2.2.2.1.length * Try.prog.bytesOf 3 ≤ 140737488351232 ∧ ∀ y ∈ x.2.2.2.2.1, (Lit.int .i64 y).wf = true) ∧ (x.2.2.2.2.2.length * Try.prog.bytesOf 5 ≤ 140737488351232 ∧ ∀ y ∈ x.2.2.2.2.2, (Lit.int .u8 y).wf = true)) : ACalls Try.prog 3 [.agg cs0.toArray, .agg cs1.toArray, u2] h fun v h' => v = .bool true := by
  obtain ⟨c1, c2, rfl, a1, a2⟩ := A0
  have a1 : c1 = [.int .i64 x0.1] := a1
  have a2 : c2 = [.bool x0.2] := a2
  subst a1 a2
  obtain ⟨c1, c2, rfl, a1, a2⟩ := A1
  have a1 : c1 = [.int .i64 x1.1] := a1
  have a2 : c2 = [.int .i64 x1.2] := a2
  subst a1 a2
  obtain ⟨oa, c, r, hu, rd, row, hc⟩ := A2
  have hu : u2 = .slice oa x2.length c := by injection hu
  subst hu
  have rd : Rd h 6 oa x2.length r := rd
  have row : AKd.Row (smpK.A h) x2 r := row
  clear w0 w1 w2
  refine dioramalaw20_CodeTracks_ok.snd hm rfl fun w => ?_
  rw [WF_eq, dioramalaw20_CodeTracks]
  by_cases hn : (1000 : Int) < (x2.length : Int)
  · simp +contextual (disch := omega) only [↓AM, ↓AV, AP, CQ, CR, hn]
    refine c_awake.use ?_
    rintro _ _ w1 ⟨rfl, rfl⟩
    simp +contextual (disch := omega) only [↓AM, ↓AV, AP, CQ, CR]
  obtain ⟨p4, hp4⟩ : ∃ p, (h.new ⟨[.int .i64 x0.1, .bool x0.2], .own⟩).size = p := ⟨_, rfl⟩
  have fm2 : Fm No h ((h.new ⟨[.int .i64 x0.1, .bool x0.2], .own⟩).new ⟨[.int .i64 x1.1, .int .i64 x1.2], .own⟩) := Fm.new (Fm.new Fm.refl)
  have w2 : Wf ((h.new ⟨[.int .i64 x0.1, .bool x0.2], .own⟩).new ⟨[.int .i64 x1.1, .int .i64 x1.2], .own⟩) := w.new.new
  have g3 : ((h.new ⟨[.int .i64 x0.1, .bool x0.2], .own⟩).new ⟨[.int .i64 x1.1, .int .i64 x1.2], .own⟩).get h.size = some ⟨[.int .i64 x0.1, .bool x0.2], .own⟩ := (get_new (Nat.lt_succ_self _)).trans gnew
  have g4 : ((h.new ⟨[.int .i64 x0.1, .bool x0.2], .own⟩).new ⟨[.int .i64 x1.1, .int .i64 x1.2], .own⟩).get p4 = some ⟨[.int .i64 x1.1, .int .i64 x1.2], .own⟩ := by rw [← hp4]; exact gnew
  have r3 := rdN_mk g3 (off := 0) (m := 2) (Nat.le_refl 2)
  have r3 : ((h.new ⟨[.int .i64 x0.1, .bool x0.2], .own⟩).new ⟨[.int .i64 x1.1, .int .i64 x1.2], .own⟩).rdN h.size 0 2 = some [.int .i64 x0.1, .bool x0.2] := r3
  have q0 : ((h.new ⟨[.int .i64 x0.1, .bool x0.2], .own⟩).new ⟨[.int .i64 x1.1, .int .i64 x1.2], .own⟩).rd p4 0 = some (.int .i64 x1.1) := rd_mk g4
  have q1 : ((h.new ⟨[.int .i64 x0.1, .bool x0.2], .own⟩).new ⟨[.int .i64 x1.1, .int .i64 x1.2], .own⟩).rd p4 1 = some (.int .i64 x1.2) := rd_mk g4
  simp +contextual (disch := omega) only [↓AM, ↓AV, AP, CQ, CR, hn, r3]
  generalize (h.new ⟨[.int .i64 x0.1, .bool x0.2], .own⟩).new ⟨[.int .i64 x1.1, .int .i64 x1.2], .own⟩ = h2 at *
  refine ⟨by decide, by decide, ?_⟩
  refine (c_Track (F := x0.1) (D := x0.2) (id := x1.1) (sc := x1.2) (rd.keepW w fm2 nNo) (row.mono fun x cs a => smpK.mono (fm2.exF w nNo) a) rfl (by omega)).use ?_
  rintro _ h3 w3 ⟨cs, e, rfl, he, fm3, z1, k1⟩
  have g3 := fm3.keep w2 g3 (fun f => f)
  have g4 := fm3.keep w2 g4 (fun f => f)
  have fmh3 := fm2.trans fm3 fun _ _ f => f
  by_cases h0 : e = 0
  · obtain ⟨sa, qa, qc, qr, rfl, a1, a2, a3⟩ := k1 h0
    have gT : ∀ o, (h3.new o).rdN h.size 0 2 = some [.int .i64 x0.1, .bool x0.2] := fun o => by rw [rdN_keep (get_new (w3.lt g3))]; exact rdN_mk g3 (Nat.le_refl 2)
    have gU : ∀ o, (h3.new o).rd p4 0 = some (.int .i64 x1.1) := fun o => (rd_keep (get_new (w3.lt g4))).trans (rd_mk g4)
    have gV : ∀ o, (h3.new o).rd p4 1 = some (.int .i64 x1.2) := fun o => (rd_keep (get_new (w3.lt g4))).trans (rd_mk g4)
    simp only [trC] at *
    simp +contextual (disch := omega) only [↓AM, ↓AV, AP, CQ, CR, hp4, gT, gU, gV]
    have fm4 : Fm No h3 (h3.new ⟨trC x1.1 x1.2 sa qa x2.length qc, .own⟩) := Fm.new Fm.refl
    have fmh4 := fmh3.trans fm4 fun _ _ f => f
    simp only [trC] at fm4 fmh4
    refine ⟨by decide, by decide, ?_⟩
    refine (c_rTrack (F := x0.1) (D := x0.2) (id := x1.1) (sc := x1.2) (rd.keepW w fmh4 nNo) (row.mono fun x cs a => smpK.mono (fmh4.exF w nNo) a) rfl (by omega)).use ?_
    rintro _ h5 w5 ⟨ds, e', rfl, he', fm5, z2, k2⟩
    rw [← he] at he'
    have g7 := fm5.keep w3.new gnew (fun f => f)
    have fm35 := fm4.trans fm5 fun _ _ f => f
    subst he'
    obtain ⟨sb, qb, qd, qs, rfl, b1, b2, b3⟩ := k2 h0
    have r7 : ∀ o, (h5.new o).rdN h3.size 0 11 = some (trC x1.1 x1.2 sa qa x2.length qc) := fun o => by rw [rdN_keep (get_new (w5.lt g7))]; exact rdN_mk g7 (Nat.le_refl 11)
    simp only [trC] at r7 fm35
    simp +contextual (disch := omega) only [↓AM, ↓AV, AP, CQ, CR, trC, r7, eqI_self]
    have fm6 : Fm No h5 (h5.new ⟨trC x1.1 x1.2 sb qb x2.length qd, .own⟩) := Fm.new Fm.refl
    have fm36 := fm35.trans fm6 fun _ _ f => f
    refine (c_EqTrack (k := 6) (S := [x0.1, dropI x0.2]) (xs := xsOf x2) (a2.keepW w3 fm36 nNo) (b2.keepW w5 fm6 nNo) (a3.mono fun x cs a => a.ex (fm36.exF w3 nNo)) (b3.mono fun x cs a => a.ex (fm6.exF w5 nNo)) (by simp [xsOf]) (by omega) (a1.keepW w3 fm36 nNo) (b1.keepW w5 fm6 nNo) (by decide)).use ?_
    rintro _ h7 w7 ⟨rfl, fm7⟩
    simp +contextual (disch := omega) only [↓AM, ↓AV, AP, CQ, CR, eqI_self]
    refine c_awake.use ?_
    rintro _ _ w8 ⟨rfl, rfl⟩
    simp +contextual (disch := omega) only [↓AM, ↓AV, AP, CQ, CR]
  · have := z1 h0
    subst this
    have gT : ∀ o, (h3.new o).rdN h.size 0 2 = some [.int .i64 x0.1, .bool x0.2] := fun o => by rw [rdN_keep (get_new (w3.lt g3))]; exact rdN_mk g3 (Nat.le_refl 2)
    have gU : ∀ o, (h3.new o).rd p4 0 = some (.int .i64 x1.1) := fun o => (rd_keep (get_new (w3.lt g4))).trans (rd_mk g4)
    have gV : ∀ o, (h3.new o).rd p4 1 = some (.int .i64 x1.2) := fun o => (rd_keep (get_new (w3.lt g4))).trans (rd_mk g4)
    simp only [zC] at *
    simp +contextual (disch := omega) only [↓AM, ↓AV, AP, CQ, CR, hp4, gT, gU, gV]
    have fm4 : Fm No h3 (h3.new ⟨zC, .own⟩) := Fm.new Fm.refl
    have fmh4 := fmh3.trans fm4 fun _ _ f => f
    simp only [zC] at fm4 fmh4
    refine ⟨by decide, by decide, ?_⟩
    refine (c_rTrack (F := x0.1) (D := x0.2) (id := x1.1) (sc := x1.2) (rd.keepW w fmh4 nNo) (row.mono fun x cs a => smpK.mono (fmh4.exF w nNo) a) rfl (by omega)).use ?_
    rintro _ h5 w5 ⟨ds, e', rfl, he', fm5, z2, k2⟩
    rw [← he] at he'
    have g7 := fm5.keep w3.new gnew (fun f => f)
    have fm35 := fm4.trans fm5 fun _ _ f => f
    subst he'
    have := z2 h0
    subst this
    have r7 : ∀ o, (h5.new o).rdN h3.size 0 11 = some (zC) := fun o => by rw [rdN_keep (get_new (w5.lt g7))]; exact rdN_mk g7 (Nat.le_refl 11)
    simp only [zC] at r7 fm35
    simp +contextual (disch := omega) only [↓AM, ↓AV, AP, CQ, CR, zC, r7, eqI_self]
    have fm6 : Fm No h5 (h5.new ⟨zC, .own⟩) := Fm.new Fm.refl
    have fm36 := fm35.trans fm6 fun _ _ f => f
    refine (c_EqTrack (k := 0) (S := []) (xs := []) (qr := []) (qs := []) Rd.mk0 Rd.mk0 rfl rfl rfl (by omega) Rd.mk0 Rd.mk0 (by decide)).use ?_
    rintro _ h7 w7 ⟨rfl, fm7⟩
    simp +contextual (disch := omega) only [↓AM, ↓AV, AP, CQ, CR, eqI_self]
    refine c_awake.use ?_
    rintro _ _ w8 ⟨rfl, rfl⟩
    simp +contextual (disch := omega) only [↓AM, ↓AV, AP, CQ, CR]
end Go.Proofs.Ytnibipabfdalcaa.LCodeTracks
