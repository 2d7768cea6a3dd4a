/- Numbers of codes, in memory. Plain theorems over the abstract machine.
   Conditions: none. -/
import Derived.Test.YtnibipabfdalcaaNuV
import Derived.Test.YtnibipabfdalcaaMa
namespace Go.Proofs.Ytnibipabfdalcaa.Nu
open Go Go.RowKit Go.Proofs.Ytnibipabfdalcaa.Am Go.Proofs.Ytnibipabfdalcaa.Af Go.Proofs.Ytnibipabfdalcaa.Md
set_option linter.unusedVariables false
set_option linter.unusedSimpArgs false
set_option linter.defProp false
set_option maxRecDepth 20000
set_option maxHeartbeats 2000000

abbrev codeV (H M S f : Int) : Value := .agg #[.int .i64 H, .int .i64 M, .int .i64 S, .int .i64 f]
def okC (F H M S f : Int) : Prop := ((0 ≤ H ∧ H ≤ 23) ∧ (0 ≤ M ∧ M ≤ 59)) ∧ ((0 ≤ S ∧ S ≤ 59) ∧ (0 ≤ f ∧ f ≤ F - 1))
instance (F H M S f : Int) : Decidable (okC F H M S f) := by unfold okC; infer_instance
def drC (F : Int) (D : Bool) (M S f : Int) : Prop := S = 0 ∧ (¬ M % 10 = 0 ∧ f < missN F D)
instance (F : Int) (D : Bool) (M S f : Int) : Decidable (drC F D M S f) := by unfold drC; infer_instance
def rErr (F : Int) (D : Bool) (H M S f : Int) : Int := if okC F H M S f then (if drC F D M S f then 200 else 0) else 1
def cErr (F : Int) (D : Bool) (H M S f : Int) : Int := if okR F D then rErr F D H M S f else 1
theorem e200 : EqI 200 0 = False := by simp [EqI]
theorem c_right {h : Hp} {F H M S f : Int} {D : Bool} (hF : 1 ≤ F ∧ F ≤ 60) :
    ACalls Try.prog 87 [rateV F D, codeV H M S f] h fun v h' => v = .int .i64 (rErr F D H M S f) ∧ Fm No h h' := by
  refine code_steps__right_ok.snd hm rfl fun w => ?_
  rw [WF_eq, code_steps__right, rateV, codeV]
  obtain ⟨hA, hhA⟩ : ∃ g, h.new ⟨[.int .i64 F, .bool D], .own⟩ = g := ⟨_, rfl⟩
  obtain ⟨hB, hhB⟩ : ∃ g, hA.new ⟨[.int .i64 H, .int .i64 M, .int .i64 S, .int .i64 f], .own⟩ = g := ⟨_, rfl⟩
  have wA : Wf hA := hhA ▸ w.new
  have wB : Wf hB := hhB ▸ wA.new
  have fmA : Fm No h hA := hhA ▸ Fm.new Fm.refl
  have fmB : Fm No hA hB := hhB ▸ Fm.new Fm.refl
  have gA : hA.get h.size = some ⟨[.int .i64 F, .bool D], .own⟩ := hhA ▸ gnew
  have gB : hB.get hA.size = some ⟨[.int .i64 H, .int .i64 M, .int .i64 S, .int .i64 f], .own⟩ := hhB ▸ gnew
  have gA := fmB.keep wA gA (fun f => f)
  have fm := fmA.trans fmB fun _ _ f => f
  have u0 := rd_mk gA (i := 0)
  have v0 := rd_mk gB (i := 0)
  have v1 := rd_mk gB (i := 1)
  have v2 := rd_mk gB (i := 2)
  have v3 := rd_mk gB (i := 3)
  simp only [List.getElem?_cons_zero, List.getElem?_cons_succ] at u0 v0 v1 v2 v3
  have uN : hB.rdN h.size 0 2 = some [.int .i64 F, .bool D] := rdN_mk gA (Nat.le_refl 2)
  simp +contextual (disch := omega) only [↓AM, ↓AV, AP, CQ, i64, hhA, hhB, v0]
  refine c_cwithin.use ?_
  rintro _ hC w1 ⟨rfl, e⟩
  subst e
  by_cases h1 : 0 ≤ H ∧ H ≤ 23
  case neg =>
    simp +contextual (disch := omega) only [↓AM, ↓AV, AP, CQ, i64, h1]
    exact ⟨by simp [rErr, okC, h1], fm⟩
  simp +contextual (disch := omega) only [↓AM, ↓AV, AP, CQ, i64, hhA, hhB, h1, v1]
  refine c_cwithin.use ?_
  rintro _ hC w1 ⟨rfl, e⟩
  subst e
  by_cases h2 : 0 ≤ M ∧ M ≤ 59
  case neg =>
    simp +contextual (disch := omega) only [↓AM, ↓AV, AP, CQ, i64, h2]
    exact ⟨by simp [rErr, okC, h2], fm⟩
  simp +contextual (disch := omega) only [↓AM, ↓AV, AP, CQ, i64, hhA, hhB, h2, v2]
  refine c_cwithin.use ?_
  rintro _ hC w1 ⟨rfl, e⟩
  subst e
  by_cases h3 : 0 ≤ S ∧ S ≤ 59
  case neg =>
    simp +contextual (disch := omega) only [↓AM, ↓AV, AP, CQ, i64, h3]
    exact ⟨by simp [rErr, okC, h3], fm⟩
  simp +contextual (disch := omega) only [↓AM, ↓AV, AP, CQ, i64, hhA, hhB, h3, v3, u0]
  refine c_cwithin.use ?_
  rintro _ hC w1 ⟨rfl, e⟩
  subst e
  by_cases h4 : 0 ≤ f ∧ f ≤ F - 1
  case neg =>
    simp +contextual (disch := omega) only [↓AM, ↓AV, AP, CQ, i64, h4]
    exact ⟨by simp [rErr, okC, h4], fm⟩
  have hok : okC F H M S f := ⟨⟨h1, h2⟩, h3, h4⟩
  have em : M.tmod 10 = M % 10 := Int.tmod_eq_emod_of_nonneg (by omega)
  by_cases h5 : S = 0
  case neg =>
    have e5 : EqI S 0 = False := eq_false h5
    simp +contextual (disch := omega) only [↓AM, ↓AV, AP, CQ, i64, hhA, hhB, h4, v2, e5]
    exact ⟨by simp [rErr, hok, drC, h5], fm⟩
  have e5 : EqI S 0 = True := eq_true h5
  by_cases h6 : M % 10 = 0
  · have e6 : EqI (M % 10) 0 = True := eq_true h6
    simp +contextual (disch := omega) only [↓AM, ↓AV, AP, CQ, i64, hhA, hhB, h4, v1, v2, e5, em, e6]
    exact ⟨by decide, by simp [rErr, hok, drC, h6], fm⟩
  · have e6 : EqI (M % 10) 0 = False := eq_false h6
    simp +contextual (disch := omega) only [↓AM, ↓AV, AP, CQ, i64, hhA, hhB, h4, v1, v2, v3, uN, e5, em, e6]
    refine ⟨by decide, ?_⟩
    refine (c_dropped hF).use ?_
    rintro _ hD w5 ⟨rfl, fm5⟩
    have gA := fm5.keep wB gA (fun f => f)
    have gB := fm5.keep wB gB (fun f => f)
    have u0 := rd_mk gA (i := 0)
    have v0 := rd_mk gB (i := 0)
    have v1 := rd_mk gB (i := 1)
    have v2 := rd_mk gB (i := 2)
    have v3 := rd_mk gB (i := 3)
    simp only [List.getElem?_cons_zero, List.getElem?_cons_succ] at u0 v0 v1 v2 v3
    have uN : hD.rdN h.size 0 2 = some [.int .i64 F, .bool D] := rdN_mk gA (Nat.le_refl 2)
    have fm' := fm.trans fm5 fun _ _ f => f
    by_cases h7 : f < missN F D
    · simp +contextual (disch := omega) only [↓AM, ↓AV, AP, CQ, i64, hhA, hhB, v1, v2, v3, uN, e5, e6, h7]
      exact ⟨by rw [rErr, if_pos hok, if_pos ⟨h5, h6, h7⟩], fm'⟩
    · simp +contextual (disch := omega) only [↓AM, ↓AV, AP, CQ, i64, hhA, hhB, v1, v2, v3, uN, e5, e6, h7]
      exact ⟨by simp [rErr, hok, drC, h7], fm'⟩
theorem c_checked {h : Hp} {F H M S f : Int} {D : Bool} :
    ACalls Try.prog 43 [rateV F D, codeV H M S f] h fun v h' => v = .int .i64 (cErr F D H M S f) ∧ Fm No h h' := by
  refine code_checked_ok.snd hm rfl fun w => ?_
  rw [WF_eq, code_checked, rateV, codeV]
  obtain ⟨hA, hhA⟩ : ∃ g, h.new ⟨[.int .i64 F, .bool D], .own⟩ = g := ⟨_, rfl⟩
  obtain ⟨hB, hhB⟩ : ∃ g, hA.new ⟨[.int .i64 H, .int .i64 M, .int .i64 S, .int .i64 f], .own⟩ = g := ⟨_, rfl⟩
  have wA : Wf hA := hhA ▸ w.new
  have wB : Wf hB := hhB ▸ wA.new
  have fmA : Fm No h hA := hhA ▸ Fm.new Fm.refl
  have fmB : Fm No hA hB := hhB ▸ Fm.new Fm.refl
  have gA : hA.get h.size = some ⟨[.int .i64 F, .bool D], .own⟩ := hhA ▸ gnew
  have gB : hB.get hA.size = some ⟨[.int .i64 H, .int .i64 M, .int .i64 S, .int .i64 f], .own⟩ := hhB ▸ gnew
  have gA := fmB.keep wA gA (fun f => f)
  have fm := fmA.trans fmB fun _ _ f => f
  have uN : hB.rdN h.size 0 2 = some [.int .i64 F, .bool D] := rdN_mk gA (Nat.le_refl 2)
  simp +contextual (disch := omega) only [↓AM, ↓AV, AP, CQ, i64, hhA, hhB, uN]
  refine c_chk.use ?_
  rintro _ hC wC ⟨rfl, fmC⟩
  have fm' := fm.trans fmC fun _ _ f => f
  by_cases hok : okR F D
  case neg =>
    have e1 : chkR F D = 1 := if_neg hok
    simp +contextual (disch := omega) only [↓AM, ↓AV, AP, CQ, i64, e1]
    exact ⟨by simp [cErr, hok], fm'⟩
  have e1 : chkR F D = 0 := if_pos hok
  have gA := fmC.keep wB gA (fun f => f)
  have gB := fmC.keep wB gB (fun f => f)
  have uN : hC.rdN h.size 0 2 = some [.int .i64 F, .bool D] := rdN_mk gA (Nat.le_refl 2)
  have vN : hC.rdN hA.size 0 4 = some [.int .i64 H, .int .i64 M, .int .i64 S, .int .i64 f] := rdN_mk gB (Nat.le_refl 4)
  simp +contextual (disch := omega) only [↓AM, ↓AV, AP, CQ, i64, hhA, hhB, uN, vN, e1]
  refine (c_right hok.1).use ?_
  rintro _ hD wD ⟨rfl, fmD⟩
  simp +contextual (disch := omega) only [↓AM, ↓AV, AP, CQ, i64]
  exact ⟨by simp [cErr, hok], fm'.trans fmD fun _ _ f => f⟩
def cntZ (F : Int) (D : Bool) (H M S f : Int) : Int := (((H * 60 + M) * 60 + S) * F + f) - missN F D * ((H * 60 + M) - (H * 60 + M) / 10)
theorem c_count {h : Hp} {F H M S f : Int} {D : Bool} (hF : 1 ≤ F ∧ F ≤ 60) (hok : okC F H M S f) :
    ACalls Try.prog 46 [rateV F D, codeV H M S f] h fun v h' => v = .int .i64 (cntZ F D H M S f) ∧ Fm No h h' := by
  refine code_steps__count_ok.snd hm rfl fun w => ?_
  rw [WF_eq, code_steps__count, rateV, codeV]
  obtain ⟨hA, hhA⟩ : ∃ g, h.new ⟨[.int .i64 F, .bool D], .own⟩ = g := ⟨_, rfl⟩
  obtain ⟨hB, hhB⟩ : ∃ g, hA.new ⟨[.int .i64 H, .int .i64 M, .int .i64 S, .int .i64 f], .own⟩ = g := ⟨_, rfl⟩
  have wA : Wf hA := hhA ▸ w.new
  have wB : Wf hB := hhB ▸ wA.new
  have fmA : Fm No h hA := hhA ▸ Fm.new Fm.refl
  have fmB : Fm No hA hB := hhB ▸ Fm.new Fm.refl
  have gA : hA.get h.size = some ⟨[.int .i64 F, .bool D], .own⟩ := hhA ▸ gnew
  have gB : hB.get hA.size = some ⟨[.int .i64 H, .int .i64 M, .int .i64 S, .int .i64 f], .own⟩ := hhB ▸ gnew
  have gA := fmB.keep wA gA (fun f => f)
  have fm := fmA.trans fmB fun _ _ f => f
  have u0 := rd_mk gA (i := 0)
  have v0 := rd_mk gB (i := 0)
  have v1 := rd_mk gB (i := 1)
  have v2 := rd_mk gB (i := 2)
  have v3 := rd_mk gB (i := 3)
  simp only [List.getElem?_cons_zero, List.getElem?_cons_succ] at u0 v0 v1 v2 v3
  have uN : hB.rdN h.size 0 2 = some [.int .i64 F, .bool D] := rdN_mk gA (Nat.le_refl 2)
  obtain ⟨⟨h1, h2⟩, h3, h4⟩ := hok
  have et : (H * 60 + M).tdiv 10 = (H * 60 + M) / 10 := Int.tdiv_eq_ediv_of_nonneg (by omega)
  have b1 : 0 ≤ ((H * 60 + M) * 60 + S) * F := Int.mul_nonneg (by omega) (by omega)
  have b2 : ((H * 60 + M) * 60 + S) * F ≤ 86400 * 60 := Int.mul_le_mul (by omega) hF.2 (by omega) (by omega)
  have hd := miss_b D hF
  have b3 : 0 ≤ missN F D * ((H * 60 + M) - (H * 60 + M) / 10) := Int.mul_nonneg hd.1 (by omega)
  have b4 : missN F D * ((H * 60 + M) - (H * 60 + M) / 10) ≤ 4 * 1440 := Int.mul_le_mul hd.2 (by omega) (by omega) (by omega)
  simp +contextual (disch := omega) only [↓AM, ↓AV, AP, CQ, i64, hhA, hhB, v0, v1, v2, v3, u0, uN, et]
  refine ⟨by decide, ?_⟩
  refine (c_dropped hF).use ?_
  rintro _ hD w5 ⟨rfl, fm5⟩
  have gA := fm5.keep wB gA (fun f => f)
  have gB := fm5.keep wB gB (fun f => f)
  have u0 := rd_mk gA (i := 0)
  have v2 := rd_mk gB (i := 2)
  have v3 := rd_mk gB (i := 3)
  simp only [List.getElem?_cons_zero, List.getElem?_cons_succ] at u0 v2 v3
  have e1 : IntKind.i64.wrap (((H * 60 + M) * 60 + S) * F) = ((H * 60 + M) * 60 + S) * F := i64 (by omega)
  have e2 : IntKind.i64.wrap (missN F D * (H * 60 + M - (H * 60 + M) / 10)) = missN F D * (H * 60 + M - (H * 60 + M) / 10) := i64 (by omega)
  have e3 : IntKind.i64.wrap (((H * 60 + M) * 60 + S) * F + f) = ((H * 60 + M) * 60 + S) * F + f := i64 (by omega)
  have e4 : IntKind.i64.wrap (((H * 60 + M) * 60 + S) * F + f - missN F D * (H * 60 + M - (H * 60 + M) / 10)) = ((H * 60 + M) * 60 + S) * F + f - missN F D * (H * 60 + M - (H * 60 + M) / 10) := i64 (by omega)
  simp +contextual (disch := omega) only [↓AM, ↓AV, AP, CQ, i64, hhA, hhB, v2, v3, u0, et, e1, e2, e3, e4]
  exact ⟨rfl, fm.trans fm5 fun _ _ f => f⟩
theorem c_Count {h : Hp} {F H M S f : Int} {D : Bool} :
    ACalls Try.prog 25 [rateV F D, codeV H M S f] h fun v h' => v = .tuple #[.int .i64 (if cErr F D H M S f = 0 then cntZ F D H M S f else 0), .int .i64 (cErr F D H M S f)] ∧ Fm No h h' := by
  refine code_Count_ok.snd hm rfl fun w => ?_
  rw [WF_eq, code_Count, rateV, codeV]
  obtain ⟨hA, hhA⟩ : ∃ g, h.new ⟨[.int .i64 F, .bool D], .own⟩ = g := ⟨_, rfl⟩
  obtain ⟨hB, hhB⟩ : ∃ g, hA.new ⟨[.int .i64 H, .int .i64 M, .int .i64 S, .int .i64 f], .own⟩ = g := ⟨_, rfl⟩
  have wA : Wf hA := hhA ▸ w.new
  have wB : Wf hB := hhB ▸ wA.new
  have fmA : Fm No h hA := hhA ▸ Fm.new Fm.refl
  have fmB : Fm No hA hB := hhB ▸ Fm.new Fm.refl
  have gA : hA.get h.size = some ⟨[.int .i64 F, .bool D], .own⟩ := hhA ▸ gnew
  have gB : hB.get hA.size = some ⟨[.int .i64 H, .int .i64 M, .int .i64 S, .int .i64 f], .own⟩ := hhB ▸ gnew
  have gA := fmB.keep wA gA (fun f => f)
  have fm := fmA.trans fmB fun _ _ f => f
  have uN : hB.rdN h.size 0 2 = some [.int .i64 F, .bool D] := rdN_mk gA (Nat.le_refl 2)
  have vN : hB.rdN hA.size 0 4 = some [.int .i64 H, .int .i64 M, .int .i64 S, .int .i64 f] := rdN_mk gB (Nat.le_refl 4)
  simp +contextual (disch := omega) only [↓AM, ↓AV, AP, CQ, i64, hhA, hhB, uN, vN]
  refine c_checked.use ?_
  rintro _ hC wC ⟨rfl, fmC⟩
  have fm' := fm.trans fmC fun _ _ f => f
  by_cases he : cErr F D H M S f = 0
  case neg =>
    have e1 : EqI (cErr F D H M S f) 0 = False := eq_false he
    simp +contextual (disch := omega) only [↓AM, ↓AV, AP, CQ, i64, e1]
    exact ⟨by rw [if_neg he], fm'⟩
  have hR : okR F D := Classical.byContradiction fun hn => by rw [cErr, if_neg hn] at he; exact absurd he (by decide)
  have hC0 : okC F H M S f := Classical.byContradiction fun hn => by rw [cErr, if_pos hR, rErr, if_neg hn] at he; exact absurd he (by decide)
  have gA := fmC.keep wB gA (fun f => f)
  have gB := fmC.keep wB gB (fun f => f)
  have uN : hC.rdN h.size 0 2 = some [.int .i64 F, .bool D] := rdN_mk gA (Nat.le_refl 2)
  have vN : hC.rdN hA.size 0 4 = some [.int .i64 H, .int .i64 M, .int .i64 S, .int .i64 f] := rdN_mk gB (Nat.le_refl 4)
  simp +contextual (disch := omega) only [↓AM, ↓AV, AP, CQ, i64, hhA, hhB, uN, vN, he]
  refine (c_count hR.1 hC0).use ?_
  rintro _ hD wD ⟨rfl, fmD⟩
  simp +contextual (disch := omega) only [↓AM, ↓AV, AP, CQ, i64]
  exact ⟨by rw [if_pos he, he], fm'.trans fmD fun _ _ f => f⟩
theorem hourN_eq {F d : Int} : ∀ i : Nat, hourN F d i = 60 * F * (i : Int) - d * ((i : Int) - ((i : Int) + 9) / 10)
  | 0 => by simp [hourN]
  | i + 1 => by
    rw [hourN, hourN_eq i]
    by_cases h : (i : Int) % 10 = 0
    · rw [if_pos h, show ((i + 1 : Nat) : Int) - (((i + 1 : Nat) : Int) + 9) / 10 = (i : Int) - ((i : Int) + 9) / 10 by omega, show ((i + 1 : Nat) : Int) = (i : Int) + 1 from rfl]
      grind
    · rw [if_neg h, show ((i + 1 : Nat) : Int) - (((i + 1 : Nat) : Int) + 9) / 10 = ((i : Int) - ((i : Int) + 9) / 10) + 1 by omega, show ((i + 1 : Nat) : Int) = (i : Int) + 1 from rfl]
      grind
theorem cnt_same {F H S f : Int} {D : Bool} {m : Nat} (hH : 0 ≤ H) : H * (3600 * F - 54 * missN F D) + hourN F (missN F D) m + S * F + f - (if (m : Int) % 10 = 0 then 0 else missN F D) = cntZ F D H m S f := by
  rw [hourN_eq, cntZ]
  generalize missN F D = d
  by_cases h : (m : Int) % 10 = 0
  · rw [if_pos h]
    have e1 : (m : Int) - ((m : Int) + 9) / 10 = (m : Int) - (m : Int) / 10 := by omega
    have e2 : (H * 60 + (m : Int)) / 10 = H * 6 + (m : Int) / 10 := by omega
    rw [e1, e2]
    generalize (m : Int) / 10 = q
    grind
  · rw [if_neg h]
    have e1 : (m : Int) - ((m : Int) + 9) / 10 = (m : Int) - (m : Int) / 10 - 1 := by omega
    have e2 : (H * 60 + (m : Int)) / 10 = H * 6 + (m : Int) / 10 := by omega
    rw [e1, e2]
    generalize (m : Int) / 10 = q
    grind
end Go.Proofs.Ytnibipabfdalcaa.Nu
