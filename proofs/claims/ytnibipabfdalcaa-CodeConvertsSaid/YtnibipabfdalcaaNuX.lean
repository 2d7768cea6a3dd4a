/- Numbers of codes by the document's answer. Plain theorems over the abstract machine.
   Conditions: none. -/
import Derived.Test.YtnibipabfdalcaaNuW
namespace Go.Proofs.Ytnibipabfdalcaa.Nu
open Go Go.RowKit Go.Proofs.Ytnibipabfdalcaa.Am Go.Proofs.Ytnibipabfdalcaa.Af Go.Proofs.Ytnibipabfdalcaa.Md
set_option linter.unusedVariables false
set_option linter.unusedSimpArgs false
set_option linter.defProp false
set_option maxRecDepth 20000
set_option maxHeartbeats 2000000

theorem c_rCount {h : Hp} {F H M S f : Int} {D : Bool} :
    ACalls Try.prog 34 [rateV F D, codeV H M S f] h fun v h' => v = .tuple #[.int .i64 (if cErr F D H M S f = 0 then cntZ F D H M S f else 0), .int .i64 (cErr F D H M S f)] ∧ Fm No h h' := by
  refine dioramaref20_Count_ok.snd hm rfl fun w => ?_
  rw [WF_eq, dioramaref20_Count, rateV, codeV]
  obtain ⟨hA, hhA⟩ : ∃ g, h.new ⟨[.int .i64 F, .bool D], .own⟩ = g := ⟨_, rfl⟩
  obtain ⟨hB, hhB⟩ : ∃ g, hA.new ⟨[.int .i64 H, .int .i64 M, .int .i64 S, .int .i64 f], .own⟩ = g := ⟨_, rfl⟩
  have wA : Wf hA := hhA ▸ w.new
  have wB : Wf hB := hhB ▸ wA.new
  have fmA : Fm No h hA := hhA ▸ Fm.new Fm.refl
  have fmB : Fm No hA hB := hhB ▸ Fm.new Fm.refl
  have gA : hA.get h.size = some ⟨[.int .i64 F, .bool D], .own⟩ := hhA ▸ gnew
  have gB : hB.get hA.size = some ⟨[.int .i64 H, .int .i64 M, .int .i64 S, .int .i64 f], .own⟩ := hhB ▸ gnew
  have gA := fmB.keep wA gA (fun f => f)
  have fm := fmA.trans fmB fun _ _ f => f
  have uN : hB.rdN h.size 0 2 = some [.int .i64 F, .bool D] := rdN_mk gA (Nat.le_refl 2)
  simp +contextual (disch := omega) only [↓AM, ↓AV, AP, CQ, i64, hhA, hhB, uN]
  obtain ⟨zA, hzA⟩ : ∃ z, hA.size = z := ⟨_, rfl⟩
  rw [hzA] at gB
  refine c_rchk.use ?_
  rintro _ hC wC ⟨rfl, fmC⟩
  have fm' := fm.trans fmC fun _ _ f => f
  by_cases hR : okR F D
  case neg =>
    have e1 : chkR F D = 1 := if_neg hR
    simp +contextual (disch := omega) only [↓AM, ↓AV, AP, CQ, i64, e1]
    exact ⟨by simp [cErr, hR], fm'⟩
  have e1 : chkR F D = 0 := if_pos hR
  have hF := hR.1
  have hd := miss_b D hF
  have gA := fmC.keep wB gA (fun f => f)
  have gB := fmC.keep wB gB (fun f => f)
  clear uN
  have key : ∀ g : Hp, Fm No hC g → g.get h.size = some ⟨[.int .i64 F, .bool D], .own⟩ ∧ g.get zA = some ⟨[.int .i64 H, .int .i64 M, .int .i64 S, .int .i64 f], .own⟩ := fun g fg => ⟨fg.keep wC gA (fun f => f), fg.keep wC gB (fun f => f)⟩
  have rds : ∀ g : Hp, Fm No hC g → (g.rd h.size 0 = some (.int .i64 F) ∧ g.rdN h.size 0 2 = some [.int .i64 F, .bool D]) ∧ (g.rd zA 0 = some (.int .i64 H) ∧ g.rd zA 1 = some (.int .i64 M)) ∧ (g.rd zA 2 = some (.int .i64 S) ∧ g.rd zA 3 = some (.int .i64 f)) := fun g fg => by
    obtain ⟨k1, k2⟩ := key g fg
    exact ⟨⟨rd_mk k1, rdN_mk k1 (Nat.le_refl 2)⟩, ⟨rd_mk k2, rd_mk k2⟩, rd_mk k2, rd_mk k2⟩
  obtain ⟨⟨u0, uN⟩, ⟨v0, v1⟩, v2, v3⟩ := rds hC Fm.refl
  simp +contextual (disch := omega) only [↓AM, ↓AV, AP, CQ, i64, hhA, hhB, hzA, e1, v0]
  refine c_in20.use ?_
  rintro _ hX w1 ⟨rfl, e⟩
  subst e
  by_cases h1 : 0 ≤ H ∧ H ≤ 23
  case neg =>
    simp +contextual (disch := omega) only [↓AM, ↓AV, AP, CQ, i64, h1]
    exact ⟨by simp [cErr, hR, rErr, okC, h1], fm'⟩
  simp +contextual (disch := omega) only [↓AM, ↓AV, AP, CQ, i64, hhA, hhB, hzA, h1, v1]
  refine c_in20.use ?_
  rintro _ hX w1 ⟨rfl, e⟩
  subst e
  by_cases h2 : 0 ≤ M ∧ M ≤ 59
  case neg =>
    simp +contextual (disch := omega) only [↓AM, ↓AV, AP, CQ, i64, h2]
    exact ⟨by simp [cErr, hR, rErr, okC, h2], fm'⟩
  simp +contextual (disch := omega) only [↓AM, ↓AV, AP, CQ, i64, hhA, hhB, hzA, h2, v2]
  refine c_in20.use ?_
  rintro _ hX w1 ⟨rfl, e⟩
  subst e
  by_cases h3 : 0 ≤ S ∧ S ≤ 59
  case neg =>
    simp +contextual (disch := omega) only [↓AM, ↓AV, AP, CQ, i64, h3]
    exact ⟨by simp [cErr, hR, rErr, okC, h3], fm'⟩
  simp +contextual (disch := omega) only [↓AM, ↓AV, AP, CQ, i64, hhA, hhB, hzA, h3, v3, u0]
  refine c_in20.use ?_
  rintro _ hX w1 ⟨rfl, e⟩
  subst e
  by_cases h4 : 0 ≤ f ∧ f ≤ F - 1
  case neg =>
    simp +contextual (disch := omega) only [↓AM, ↓AV, AP, CQ, i64, h4]
    exact ⟨by simp [cErr, hR, rErr, okC, h4], fm'⟩
  have hok : okC F H M S f := ⟨⟨h1, h2⟩, h3, h4⟩
  obtain ⟨m, rfl⟩ : ∃ m : Nat, M = (m : Int) := ⟨M.toNat, by omega⟩
  obtain ⟨HH, hHH⟩ : ∃ z, H * (3600 * F - 54 * missN F D) = z := ⟨_, rfl⟩
  have bH : 0 ≤ HH ∧ HH ≤ 23 * 216000 := by rw [← hHH]; exact ⟨Int.mul_nonneg h1.1 (by omega), Int.mul_le_mul h1.2 (by omega) (by omega) (by omega)⟩
  have bS : 0 ≤ S * F ∧ S * F ≤ 59 * 60 := ⟨Int.mul_nonneg h3.1 (by omega), Int.mul_le_mul h3.2 hF.2 (by omega) (by omega)⟩
  have eH : IntKind.i64.wrap (H * (3600 * F - 54 * missN F D)) = HH := by rw [hHH, i64 (by omega)]
  by_cases h5 : S = 0
  case neg =>
    have e5 : EqI S 0 = False := eq_false h5
    simp +contextual (disch := omega) only [↓AM, ↓AV, AP, CQ, i64, hhA, hhB, hzA, h4, v0, v2, uN, e5]
    have ndr : ¬ drC F D m S f := fun q => h5 q.1
    refine (c_hour hF).use ?_
    rintro _ hH wH ⟨rfl, fmH⟩
    have fq : Fm No hX hH := fmH
    obtain ⟨⟨u0, uN⟩, ⟨v0, v1⟩, v2, v3⟩ := rds hH fq
    simp +contextual (disch := omega) only [↓AM, ↓AV, AP, CQ, i64, hhA, hhB, hzA, v0, uN, eH]
    refine WL.mk (fun k t h' => Wf h' ∧ Fm No hX h' ∧ ∃ i : Nat, i ≤ m ∧ k = m - i ∧
        t = [(2, some (.pointer (some ⟨h.size, 0, none⟩))), (3, some (.pointer (some ⟨zA, 0, none⟩))), (7, some (.int .i64 (HH + hourN F (missN F D) i))), (8, some (.int .i64 (i : Int)))])
      ⟨m, wH, fq, 0, by omega, rfl, by simp [hourN]⟩ ?_
    rintro k t hL ⟨wL, fmL, i, hi, rfl, rfl⟩
    obtain ⟨⟨u0, uN⟩, ⟨v0, v1⟩, v2, v3⟩ := rds hL fmL
    have bi := hourN_b hF hd i
    have bi1 := hourN_b hF hd (i + 1)
    by_cases hin : i < m
    · simp +contextual (disch := omega) only [↓AM, ↓AV, AP, CQ, i64, hzA, v1, uN, hin]
      refine (c_minute hF (m := (i : Int)) (by omega)).use ?_
      rintro _ hN wN ⟨rfl, fmN⟩
      have he : hourN F (missN F D) i + (60 * F - if (i : Int) % 10 = 0 then 0 else missN F D) = hourN F (missN F D) (i + 1) := rfl
      have he2 : IntKind.i64.wrap (HH + hourN F (missN F D) i + (60 * F - if (i : Int) % 10 = 0 then 0 else missN F D)) = HH + hourN F (missN F D) (i + 1) := by
        rw [Int.add_assoc, he, i64 (by omega)]
      simp +contextual (disch := omega) only [↓AM, ↓AV, AP, CQ, i64, he2]
      exact ⟨_, by omega, wN, fmL.trans fmN fun _ _ f => f, i + 1, by omega, rfl, rfl⟩
    · have : i = m := by omega
      subst this
      have e6 : IntKind.i64.wrap (S * F) = S * F := i64 (by omega)
      have e7 : IntKind.i64.wrap (HH + hourN F (missN F D) i + S * F) = HH + hourN F (missN F D) i + S * F := i64 (by omega)
      have e8 : IntKind.i64.wrap (HH + hourN F (missN F D) i + S * F + f) = HH + hourN F (missN F D) i + S * F + f := i64 (by omega)
      simp +contextual (disch := omega) only [↓AM, ↓AV, AP, CQ, i64, hzA, v1, v2, v3, u0, uN, hin, e6, e7, e8]
      refine (c_missing hF (by omega)).use ?_
      rintro _ hN wN ⟨rfl, fmN⟩
      have fz := fmL.trans fmN fun _ _ f => f
      obtain ⟨⟨u0, uN⟩, ⟨v0, v1⟩, v2, v3⟩ := rds hN fz
      have bm : 0 ≤ (if (i : Int) % 10 = 0 then 0 else missN F D) ∧ (if (i : Int) % 10 = 0 then 0 else missN F D) ≤ 4 := by split <;> omega
      have e9 : IntKind.i64.wrap (HH + hourN F (missN F D) i + S * F + f - (if (i : Int) % 10 = 0 then 0 else missN F D)) = HH + hourN F (missN F D) i + S * F + f - (if (i : Int) % 10 = 0 then 0 else missN F D) := i64 (by omega)
      simp +contextual (disch := omega) only [↓AM, ↓AV, AP, CQ, i64, hzA, v1, v2, v3, u0, e6, e7, e8, e9]
      have hE : cErr F D H (i : Int) S f = 0 := by rw [cErr, if_pos hR, rErr, if_pos hok, if_neg ndr]
      rw [hE, if_pos rfl, ← hHH, cnt_same h1.1]
      exact ⟨rfl, fm'.trans fz fun _ _ f => f⟩
  have e5 : EqI S 0 = True := eq_true h5
  simp +contextual (disch := omega) only [↓AM, ↓AV, AP, CQ, i64, hhA, hhB, hzA, h4, v1, v2, v3, uN, e5]
  refine (c_missing hF (by omega)).use ?_
  rintro _ hG wG ⟨rfl, fmG⟩
  obtain ⟨⟨u0, uN⟩, ⟨v0, v1⟩, v2, v3⟩ := rds hG fmG
  by_cases h7 : f < (if (m : Int) % 10 = 0 then 0 else missN F D)
  · have dr : drC F D m S f := by
      refine ⟨h5, ?_, ?_⟩
      · intro e; rw [if_pos e] at h7; omega
      · by_cases e : (m : Int) % 10 = 0
        · rw [if_pos e] at h7; omega
        · rwa [if_neg e] at h7
    simp +contextual (disch := omega) only [↓AM, ↓AV, AP, CQ, i64, hzA, v0, v1, v2, v3, uN, h7]
    have hE : cErr F D H (m : Int) S f = 200 := by rw [cErr, if_pos hR, rErr, if_pos hok, if_pos dr]
    rw [hE, if_neg (by decide)]
    exact ⟨rfl, fm'.trans fmG fun _ _ f => f⟩
  · have ndr : ¬ drC F D m S f := fun q => h7 (by rw [if_neg q.2.1]; exact q.2.2)
    simp +contextual (disch := omega) only [↓AM, ↓AV, AP, CQ, i64, hzA, v0, v1, v2, v3, uN, h7]
    refine (c_hour hF).use ?_
    rintro _ hH wH ⟨rfl, fmH⟩
    have fq : Fm No hX hH := fmG.trans fmH fun _ _ f => f
    obtain ⟨⟨u0, uN⟩, ⟨v0, v1⟩, v2, v3⟩ := rds hH fq
    simp +contextual (disch := omega) only [↓AM, ↓AV, AP, CQ, i64, hhA, hhB, hzA, v0, uN, eH]
    refine WL.mk (fun k t h' => Wf h' ∧ Fm No hX h' ∧ ∃ i : Nat, i ≤ m ∧ k = m - i ∧
        t = [(2, some (.pointer (some ⟨h.size, 0, none⟩))), (3, some (.pointer (some ⟨zA, 0, none⟩))), (7, some (.int .i64 (HH + hourN F (missN F D) i))), (8, some (.int .i64 (i : Int)))])
      ⟨m, wH, fq, 0, by omega, rfl, by simp [hourN]⟩ ?_
    rintro k t hL ⟨wL, fmL, i, hi, rfl, rfl⟩
    obtain ⟨⟨u0, uN⟩, ⟨v0, v1⟩, v2, v3⟩ := rds hL fmL
    have bi := hourN_b hF hd i
    have bi1 := hourN_b hF hd (i + 1)
    by_cases hin : i < m
    · simp +contextual (disch := omega) only [↓AM, ↓AV, AP, CQ, i64, hzA, v1, uN, hin]
      refine (c_minute hF (m := (i : Int)) (by omega)).use ?_
      rintro _ hN wN ⟨rfl, fmN⟩
      have he : hourN F (missN F D) i + (60 * F - if (i : Int) % 10 = 0 then 0 else missN F D) = hourN F (missN F D) (i + 1) := rfl
      have he2 : IntKind.i64.wrap (HH + hourN F (missN F D) i + (60 * F - if (i : Int) % 10 = 0 then 0 else missN F D)) = HH + hourN F (missN F D) (i + 1) := by
        rw [Int.add_assoc, he, i64 (by omega)]
      simp +contextual (disch := omega) only [↓AM, ↓AV, AP, CQ, i64, he2]
      exact ⟨_, by omega, wN, fmL.trans fmN fun _ _ f => f, i + 1, by omega, rfl, rfl⟩
    · have : i = m := by omega
      subst this
      have e6 : IntKind.i64.wrap (S * F) = S * F := i64 (by omega)
      have e7 : IntKind.i64.wrap (HH + hourN F (missN F D) i + S * F) = HH + hourN F (missN F D) i + S * F := i64 (by omega)
      have e8 : IntKind.i64.wrap (HH + hourN F (missN F D) i + S * F + f) = HH + hourN F (missN F D) i + S * F + f := i64 (by omega)
      simp +contextual (disch := omega) only [↓AM, ↓AV, AP, CQ, i64, hzA, v1, v2, v3, u0, uN, hin, e6, e7, e8]
      refine (c_missing hF (by omega)).use ?_
      rintro _ hN wN ⟨rfl, fmN⟩
      have fz := fmL.trans fmN fun _ _ f => f
      obtain ⟨⟨u0, uN⟩, ⟨v0, v1⟩, v2, v3⟩ := rds hN fz
      have bm : 0 ≤ (if (i : Int) % 10 = 0 then 0 else missN F D) ∧ (if (i : Int) % 10 = 0 then 0 else missN F D) ≤ 4 := by split <;> omega
      have e9 : IntKind.i64.wrap (HH + hourN F (missN F D) i + S * F + f - (if (i : Int) % 10 = 0 then 0 else missN F D)) = HH + hourN F (missN F D) i + S * F + f - (if (i : Int) % 10 = 0 then 0 else missN F D) := i64 (by omega)
      simp +contextual (disch := omega) only [↓AM, ↓AV, AP, CQ, i64, hzA, v1, v2, v3, u0, e6, e7, e8, e9]
      have hE : cErr F D H (i : Int) S f = 0 := by rw [cErr, if_pos hR, rErr, if_pos hok, if_neg ndr]
      rw [hE, if_pos rfl, ← hHH, cnt_same h1.1]
      exact ⟨rfl, fm'.trans fz fun _ _ f => f⟩
end Go.Proofs.Ytnibipabfdalcaa.Nu
