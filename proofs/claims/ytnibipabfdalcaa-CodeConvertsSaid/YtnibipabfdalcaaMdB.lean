/- Rates, days, samples' checks. Plain theorems over the abstract machine.
   Conditions: none. -/
import Derived.Test.YtnibipabfdalcaaMdA
import Derived.Test.YtnibipabfdalcaaAmZa
namespace Go.Proofs.Ytnibipabfdalcaa.Md
open Go Go.RowKit Go.Proofs.Ytnibipabfdalcaa.Am Go.Proofs.Ytnibipabfdalcaa.Af
set_option linter.unusedVariables false
set_option linter.unusedSimpArgs false
set_option maxRecDepth 20000
set_option maxHeartbeats 1000000

theorem c_mwithin {h : Hp} {n a b : Int} : ACalls Try.prog 48 [.int .i64 n, .int .i64 a, .int .i64 b] h fun v h' => v = .bool (decide (a ≤ n ∧ n ≤ b)) ∧ h' = h := by
  refine model_within_ok.snd hm rfl fun w => ?_
  rw [WF_eq, model_within]
  simp +contextual only [↓AM, ↓AV, AP]
  exact ⟨fun h => by simp [h], fun h => by simp [h]⟩
theorem c_cwithin {h : Hp} {n a b : Int} : ACalls Try.prog 44 [.int .i64 n, .int .i64 a, .int .i64 b] h fun v h' => v = .bool (decide (a ≤ n ∧ n ≤ b)) ∧ h' = h := by
  refine code_within_ok.snd hm rfl fun w => ?_
  rw [WF_eq, code_within]
  simp +contextual only [↓AM, ↓AV, AP]
  exact ⟨fun h => by simp [h], fun h => by simp [h]⟩
theorem c_in20 {h : Hp} {n a b : Int} : ACalls Try.prog 19 [.int .i64 n, .int .i64 a, .int .i64 b] h fun v h' => v = .bool (decide (a ≤ n ∧ n ≤ b)) ∧ h' = h := by
  refine dioramaref20_in_ok.snd hm rfl fun w => ?_
  rw [WF_eq, dioramaref20_in]
  simp +contextual only [↓AM, ↓AV, AP]
  exact ⟨fun h => by simp [h], fun h => by simp [h]⟩
theorem c_in03 {h : Hp} {n a b : Int} : ACalls Try.prog 89 [.int .i64 n, .int .i64 a, .int .i64 b] h fun v h' => v = .bool (decide (a ≤ n ∧ n ≤ b)) ∧ h' = h := by
  refine dioramaref03_in_ok.snd hm rfl fun w => ?_
  rw [WF_eq, dioramaref03_in]
  simp +contextual only [↓AM, ↓AV, AP]
  exact ⟨fun h => by simp [h], fun h => by simp [h]⟩
theorem c_tick {h : Hp} {n : Int} : ACalls Try.prog 88 [.int .i64 n] h fun v h' => v = .bool (decide (-1099511627776 ≤ n ∧ n ≤ 1099511627776)) ∧ h' = h := by
  refine model_tick_ok.snd hm rfl fun w => ?_
  rw [WF_eq, model_tick]
  simp +contextual only [↓AM, ↓AV, AP]
  refine c_mwithin.use ?_
  rintro _ _ w1 ⟨rfl, rfl⟩
  simp +contextual only [↓AM, ↓AV, AP]

/-! ### rates -/
def okR (F : Int) (D : Bool) : Prop := (1 ≤ F ∧ F ≤ 60) ∧ (D = true → F = 30 ∨ F = 60)
instance (F : Int) (D : Bool) : Decidable (okR F D) := by unfold okR; infer_instance
def chkR (F : Int) (D : Bool) : Int := if okR F D then 0 else 1
abbrev rateV (F : Int) (D : Bool) : Value := .agg #[.int .i64 F, .bool D]
def missN (F : Int) (D : Bool) : Int := if D then F / 15 else 0
theorem c_chk {h : Hp} {F : Int} {D : Bool} : ACalls Try.prog 15 [rateV F D] h fun v h' => v = .int .i64 (chkR F D) ∧ Fm No h h' := by
  refine code_Check_ok.snd hm rfl fun w => ?_
  rw [WF_eq, code_Check, rateV]
  simp +contextual only [↓AM, ↓AV, AP]
  refine c_cwithin.use ?_
  rintro _ _ w1 ⟨rfl, rfl⟩
  by_cases h1 : 1 ≤ F ∧ F ≤ 60
  case neg =>
    simp +contextual only [↓AM, ↓AV, AP, h1]
    exact ⟨by simp [chkR, okR, h1], Fm.new Fm.refl⟩
  cases D
  · simp +contextual only [↓AM, ↓AV, AP, h1]
    exact ⟨by simp [chkR, okR, h1], Fm.new Fm.refl⟩
  simp +contextual only [↓AM, ↓AV, AP, h1]
  · refine ⟨fun a => ⟨fun b => ⟨?_, Fm.new Fm.refl⟩, fun b => ⟨?_, Fm.new Fm.refl⟩⟩, fun a => ⟨?_, Fm.new Fm.refl⟩⟩ <;> simp only [EqI] at * <;> simp_all [chkR, okR]
theorem c_rchk {h : Hp} {F : Int} {D : Bool} : ACalls Try.prog 33 [rateV F D] h fun v h' => v = .int .i64 (chkR F D) ∧ Fm No h h' := by
  refine dioramaref20_Check_ok.snd hm rfl fun w => ?_
  rw [WF_eq, dioramaref20_Check, rateV]
  simp +contextual only [↓AM, ↓AV, AP]
  refine c_in20.use ?_
  rintro _ _ w1 ⟨rfl, rfl⟩
  by_cases h1 : 1 ≤ F ∧ F ≤ 60
  case neg =>
    simp +contextual only [↓AM, ↓AV, AP, h1]
    exact ⟨by simp [chkR, okR, h1], Fm.new Fm.refl⟩
  cases D
  · simp +contextual only [↓AM, ↓AV, AP, h1]
    exact ⟨by simp [chkR, okR, h1], Fm.new Fm.refl⟩
  simp +contextual only [↓AM, ↓AV, AP, h1]
  · refine ⟨fun a => ⟨fun b => ⟨?_, Fm.new Fm.refl⟩, fun b => ⟨?_, Fm.new Fm.refl⟩⟩, fun a => ⟨?_, Fm.new Fm.refl⟩⟩ <;> simp only [EqI] at * <;> simp_all [chkR, okR]
theorem c_dropped {h : Hp} {F : Int} {D : Bool} (hF : 1 ≤ F ∧ F ≤ 60) : ACalls Try.prog 61 [rateV F D] h fun v h' => v = .int .i64 (missN F D) ∧ Fm No h h' := by
  refine code_steps__dropped_ok.snd hm rfl fun w => ?_
  rw [WF_eq, code_steps__dropped, rateV]
  have e1 : F.tdiv 15 = F / 15 := Int.tdiv_eq_ediv_of_nonneg (by omega)
  cases D <;> simp +contextual (disch := omega) only [↓AM, ↓AV, AP, CQ, i64, e1]
  · exact ⟨rfl, Fm.new Fm.refl⟩
  · exact ⟨by decide, rfl, Fm.new Fm.refl⟩
theorem miss_b {F : Int} (D : Bool) (hF : 1 ≤ F ∧ F ≤ 60) : 0 ≤ missN F D ∧ missN F D ≤ 4 := by unfold missN; split <;> omega
theorem c_ten {h : Hp} {F : Int} {D : Bool} (hF : 1 ≤ F ∧ F ≤ 60) : ACalls Try.prog 47 [rateV F D] h fun v h' => v = .int .i64 (600 * F - 9 * missN F D) ∧ Fm No h h' := by
  refine code_steps__ten_ok.snd hm rfl fun w => ?_
  rw [WF_eq, code_steps__ten, rateV]
  simp +contextual (disch := omega) only [↓AM, ↓AV, AP, CQ, i64]
  refine (c_dropped hF).use ?_
  rintro _ h1 w1 ⟨rfl, fm⟩
  have hd := miss_b D hF
  simp +contextual (disch := omega) only [↓AM, ↓AV, AP, CQ, i64]
  refine ⟨rd_mk (fm.keep w.new gnew id), ?_⟩
  exact (Fm.new Fm.refl).trans fm fun _ _ => id
theorem c_day {h : Hp} {F : Int} {D : Bool} (hF : 1 ≤ F ∧ F ≤ 60) : ACalls Try.prog 16 [rateV F D] h fun v h' => v = .int .i64 (144 * (600 * F - 9 * missN F D)) ∧ Fm No h h' := by
  refine code_steps__day_ok.snd hm rfl fun w => ?_
  rw [WF_eq, code_steps__day, rateV]
  simp +contextual (disch := omega) only [↓AM, ↓AV, AP, CQ, i64]
  refine (c_ten hF).use ?_
  rintro _ h1 w1 ⟨rfl, fm⟩
  have hd := miss_b D hF
  simp +contextual (disch := omega) only [↓AM, ↓AV, AP, CQ, i64]
  exact (Fm.new Fm.refl).trans fm fun _ _ => id
theorem c_missing {h : Hp} {F m : Int} {D : Bool} (hF : 1 ≤ F ∧ F ≤ 60) (hm0 : 0 ≤ m ∧ m < 60) : ACalls Try.prog 68 [rateV F D, .int .i64 m] h fun v h' => v = .int .i64 (if m % 10 = 0 then 0 else missN F D) ∧ Fm No h h' := by
  refine dioramaref20_missing_ok.snd hm rfl fun w => ?_
  rw [WF_eq, dioramaref20_missing, rateV]
  have e1 : F.tdiv 15 = F / 15 := Int.tdiv_eq_ediv_of_nonneg (by omega)
  have e2 : m.tmod 10 = m % 10 := Int.tmod_eq_emod_of_nonneg (by omega)
  cases D <;> by_cases h2 : m % 10 = 0 <;> simp +contextual (disch := omega) only [↓AM, ↓AV, AP, CQ, i64, e1, e2, h2]
  · exact Fm.new Fm.refl
  · exact ⟨rfl, Fm.new Fm.refl⟩
  · exact ⟨by decide, Fm.new Fm.refl⟩
  · refine ⟨by decide, fun _ => ⟨by decide, rfl, Fm.new Fm.refl⟩, fun e => ?_⟩
    exact absurd e h2
theorem c_minute {h : Hp} {F m : Int} {D : Bool} (hF : 1 ≤ F ∧ F ≤ 60) (hm0 : 0 ≤ m ∧ m < 60) : ACalls Try.prog 69 [rateV F D, .int .i64 m] h fun v h' => v = .int .i64 (60 * F - if m % 10 = 0 then 0 else missN F D) ∧ Fm No h h' := by
  refine dioramaref20_minute_ok.snd hm rfl fun w => ?_
  rw [WF_eq, dioramaref20_minute, rateV]
  have hd := miss_b D hF
  simp +contextual (disch := omega) only [↓AM, ↓AV, AP, CQ, i64]
  refine (c_missing hF hm0).use ?_
  rintro _ h1 w1 ⟨rfl, fm⟩
  have hd' : 0 ≤ (if m % 10 = 0 then 0 else missN F D) ∧ (if m % 10 = 0 then 0 else missN F D) ≤ 4 := by split <;> omega
  generalize (if m % 10 = 0 then 0 else missN F D) = d at *
  simp +contextual (disch := omega) only [↓AM, ↓AV, AP, CQ, i64]
  refine ⟨rd_mk (fm.keep w.new gnew id), ?_⟩
  exact (Fm.new Fm.refl).trans fm fun _ _ => id
def hourN (F d : Int) : Nat → Int
  | 0 => 0
  | i + 1 => hourN F d i + (60 * F - if (i : Int) % 10 = 0 then 0 else d)
theorem hourN_b {F d : Int} (hF : 1 ≤ F ∧ F ≤ 60) (hd : 0 ≤ d ∧ d ≤ 4) : ∀ i : Nat, 0 ≤ hourN F d i ∧ hourN F d i ≤ 3600 * (i : Int)
  | 0 => by simp [hourN]
  | i + 1 => by
    have := hourN_b hF hd i
    unfold hourN
    split <;> omega
theorem hourN_60 {F d : Int} : hourN F d 60 = 3600 * F - 54 * d := by
  simp [hourN]
  omega
theorem c_hour {h : Hp} {F : Int} {D : Bool} (hF : 1 ≤ F ∧ F ≤ 60) : ACalls Try.prog 52 [rateV F D] h fun v h' => v = .int .i64 (3600 * F - 54 * missN F D) ∧ Fm No h h' := by
  refine dioramaref20_hour_ok.snd hm rfl fun w => ?_
  rw [WF_eq, dioramaref20_hour, rateV]
  have hd := miss_b D hF
  simp +contextual (disch := omega) only [↓AM, ↓AV, AP, CQ, i64]
  refine WL.mk (fun k t h' => Wf h' ∧ Fm No (h.new ⟨[.int .i64 F, .bool D], .own⟩) h' ∧ ∃ i : Nat, i ≤ 60 ∧ k = 60 - i ∧
      t = [(1, some (.pointer (some ⟨h.size, 0, none⟩))), (3, some (.int .i64 (hourN F (missN F D) i))), (4, some (.int .i64 i))])
    ⟨60, w.new, Fm.refl, 0, by omega, rfl, rfl⟩ ?_
  rintro k t h1 ⟨w1, fm, i, hi, rfl, rfl⟩
  have hg := fm.keep w.new gnew id
  have hr : h1.rdN h.size 0 2 = some [.int .i64 F, .bool D] := rdN_mk hg (Nat.le_refl 2)
  by_cases hin : (i : Int) < 60
  · simp +contextual (disch := omega) only [↓AM, ↓AV, AP, CQ, i64, hin, hr]
    refine (c_minute hF (m := i) (by omega)).use ?_
    rintro _ h2 w2 ⟨rfl, fm2⟩
    have hb := hourN_b hF hd i
    have hb' := hourN_b hF hd (i + 1)
    have he : hourN F (missN F D) i + (60 * F - if (i : Int) % 10 = 0 then 0 else missN F D) = hourN F (missN F D) (i + 1) := rfl
    generalize hs : hourN F (missN F D) (i + 1) = s1 at *
    have hs1 : IntKind.i64.wrap (hourN F (missN F D) i + (60 * F - if (i : Int) % 10 = 0 then 0 else missN F D)) = s1 := by rw [he, i64 (by omega)]
    simp +contextual (disch := omega) only [↓AM, ↓AV, AP, CQ, i64, hs1]
    exact ⟨_, by omega, w2, fm.trans fm2 fun _ _ => id, i + 1, by omega, rfl, by rw [hs]⟩
  · simp +contextual (disch := omega) only [↓AM, ↓AV, AP, CQ, i64, hin]
    have : i = 60 := by omega
    subst this
    exact ⟨by rw [hourN_60], (Fm.new Fm.refl).trans fm fun _ _ => id⟩
theorem c_rDay {h : Hp} {F : Int} {D : Bool} : ACalls Try.prog 18 [rateV F D] h fun v h' => v = .tuple #[.int .i64 (if okR F D then 144 * (600 * F - 9 * missN F D) else 0), .int .i64 (chkR F D)] ∧ Fm No h h' := by
  refine dioramaref20_Day_ok.snd hm rfl fun w => ?_
  rw [WF_eq, dioramaref20_Day, rateV]
  simp +contextual (disch := omega) only [↓AM, ↓AV, AP, CQ, i64]
  refine c_rchk.use ?_
  rintro _ h1 w1 ⟨rfl, fm⟩
  have hg := fm.keep w.new gnew id
  have hr : h1.rdN h.size 0 2 = some [.int .i64 F, .bool D] := rdN_mk hg (Nat.le_refl 2)
  have fm' := (Fm.new (o := ⟨[.int .i64 F, .bool D], .own⟩) (Fm.refl (F := No) (h := h))).trans fm fun _ _ => id
  by_cases h1 : okR F D
  · have e1 : chkR F D = 0 := if_pos h1
    have hF := h1.1
    have hd := miss_b D hF
    simp +contextual (disch := omega) only [↓AM, ↓AV, AP, CQ, i64, e1, hr, h1]
    refine (c_hour hF).use ?_
    rintro _ h2 w2 ⟨rfl, fm2⟩
    simp +contextual (disch := omega) only [↓AM, ↓AV, AP, CQ, i64]
    refine ⟨?_, fm'.trans fm2 fun _ _ => id⟩
    rw [if_pos h1, e1, show 24 * (3600 * F - 54 * missN F D) = 144 * (600 * F - 9 * missN F D) by omega]
  · have e1 : chkR F D = 1 := if_neg h1
    simp +contextual (disch := omega) only [↓AM, ↓AV, AP, CQ, i64, e1, h1]
    exact fm'
end Go.Proofs.Ytnibipabfdalcaa.Md
