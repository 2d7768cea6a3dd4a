/- Codes of numbers, in memory. Plain theorems over the abstract machine.
   Conditions: none. -/
import Derived.Test.YtnibipabfdalcaaNuX
namespace Go.Proofs.Ytnibipabfdalcaa.Nu
open Go Go.RowKit Go.Proofs.Ytnibipabfdalcaa.Am Go.Proofs.Ytnibipabfdalcaa.Af Go.Proofs.Ytnibipabfdalcaa.Md Go.Proofs.Ytnibipabfdalcaa.Ma
set_option linter.unusedVariables false
set_option linter.unusedSimpArgs false
set_option linter.defProp false
set_option maxRecDepth 20000
set_option maxHeartbeats 2000000

theorem rdp_n4 {h : Hp} {p : Nat} {a b c d : Value} {md : Md} : (h.put p ⟨[a, b, c, d], md⟩).rdN p 0 4 = some [a, b, c, d] := by
  rw [rdN_mk gput (Nat.le_refl 4)]; rfl
theorem split_eq {F : Int} (h1 : 1 ≤ F) {T : Nat} {y : Int} (h0 : 0 ≤ y) (hy : y < 60 * F) :
    (60 * F * T + y) / F = 60 * T + y / F ∧ (60 * F * T + y) % F = y % F ∧ 0 ≤ y / F ∧ y / F < 60 ∧ 0 ≤ y % F ∧ y % F < F := by
  have e : 60 * F * T + y = y + (60 * T) * F := by grind
  have b0 : 0 ≤ y / F := Int.ediv_nonneg h0 (by omega)
  have b1 : y / F < 60 := Int.ediv_lt_of_lt_mul (by omega) hy
  refine ⟨?_, ?_, b0, b1, Int.emod_nonneg _ (by omega), Int.emod_lt_of_pos _ (by omega)⟩
  · rw [e, Int.add_mul_ediv_right _ _ (by omega)]; omega
  · rw [e, Int.add_mul_emod_self_right]
theorem ms_b {d : Int} (h : 0 ≤ d) (T : Nat) : 0 ≤ ms d T ∧ ms d T ≤ d := by unfold ms; split <;> omega
theorem num_b {F d : Int} (hF : 1 ≤ F ∧ F ≤ 60) (hd : 0 ≤ d ∧ d ≤ 4) {T : Nat} {y : Int} (hT : T < 1440) (hm : ms d T ≤ y) (hy : y < 60 * F) :
    0 ≤ pre (60 * F) d T + (y - ms d T) ∧ pre (60 * F) d T + (y - ms d T) < 144 * (600 * F - 9 * d) := by
  have b0 := pre_mono (c := 60 * F) (d := d) hd.1 (by omega) 0 T (by omega)
  have b1 := pre_mono (c := 60 * F) (d := d) hd.1 (by omega) (T + 1) 1440 (by omega)
  have e : pre (60 * F) d (T + 1) = pre (60 * F) d T + (60 * F - ms d T) := rfl
  have e0 : pre (60 * F) d 0 = 0 := rfl
  rw [pre_day] at b1
  omega
theorem codeFin {F : Int} (hF : 1 ≤ F ∧ F ≤ 60) {T : Nat} {y x : Int} (hT : T < 1440) (h0 : 0 ≤ y) (hy : y < 60 * F) (hx : x = 60 * F * T + y) :
    IntKind.i64.wrap (x.tdiv F) = 60 * (T : Int) + y / F ∧ x.tmod F = y % F ∧ 0 ≤ y / F ∧ y / F < 60 ∧ 0 ≤ y % F ∧ y % F < F := by
  obtain ⟨q1, q2, q3, q4, q5, q6⟩ := split_eq (T := T) hF.1 h0 hy
  have hx0 : 0 ≤ x := by
    have : 0 ≤ 60 * F * (T : Int) := Int.mul_nonneg (by omega) (by omega)
    omega
  refine ⟨?_, ?_, q3, q4, q5, q6⟩
  · rw [Int.tdiv_eq_ediv_of_nonneg hx0, hx, q1, i64 (by omega)]
  · rw [Int.tmod_eq_emod_of_nonneg hx0, hx, q2]
abbrev codV (F : Int) (T : Nat) (y : Int) : Value := codeV ((T / 60 : Nat) : Int) ((T % 60 : Nat) : Int) (y / F) (y % F)
theorem c_code {h : Hp} {F : Int} {D : Bool} {T : Nat} {y n : Int} (hF : 1 ≤ F ∧ F ≤ 60) (hT : T < 1440) (hm0 : ms (missN F D) T ≤ y) (hy : y < 60 * F) (hn : pre (60 * F) (missN F D) T + (y - ms (missN F D) T) = n) :
    ACalls Try.prog 29 [rateV F D, .int .i64 n] h fun v h' => v = codV F T y ∧ Fm No h h' := by
  refine code_steps__code_ok.snd hm rfl fun w => ?_
  rw [WF_eq, code_steps__code, rateV]
  have hd := miss_b D hF
  have hms := ms_b hd.1 T
  have hnb := num_b hF hd hT hm0 hy
  obtain ⟨p1, p2⟩ := place (c := 60 * F) (d := missN F D) hd.1 (by omega) hm0 hy
  rw [hn] at p1 p2 hnb
  have htt : 10 * (60 * F) - 9 * missN F D = 600 * F - 9 * missN F D := by omega
  rw [htt] at p1 p2
  obtain ⟨hA, hhA⟩ : ∃ g, h.new ⟨[.int .i64 F, .bool D], .own⟩ = g := ⟨_, rfl⟩
  obtain ⟨hB, hhB⟩ : ∃ g, hA.new ⟨[.int .i64 0, .int .i64 0, .int .i64 0, .int .i64 0], .own⟩ = g := ⟨_, rfl⟩
  have wA : Wf hA := hhA ▸ w.new
  have wB : Wf hB := hhB ▸ wA.new
  have fmA : Fm No h hA := hhA ▸ Fm.new Fm.refl
  have fmB : Fm No hA hB := hhB ▸ Fm.new Fm.refl
  have gA : hA.get h.size = some ⟨[.int .i64 F, .bool D], .own⟩ := hhA ▸ gnew
  have gB : hB.get hA.size = some ⟨[.int .i64 0, .int .i64 0, .int .i64 0, .int .i64 0], .own⟩ := hhB ▸ gnew
  have gA := fmB.keep wA gA (fun f => f)
  have sA := fmA.size
  have fm := fmA.trans fmB fun _ _ f => f
  obtain ⟨zA, hzA⟩ : ∃ z, hA.size = z := ⟨_, rfl⟩
  rw [hzA] at gB sA
  have rds : ∀ g : Hp, Fm No hB g → (g.rd h.size 0 = some (.int .i64 F) ∧ g.rdN h.size 0 2 = some [.int .i64 F, .bool D]) ∧ g.get zA = some ⟨[.int .i64 0, .int .i64 0, .int .i64 0, .int .i64 0], .own⟩ := fun g fg => by
    have k1 := fg.keep wB gA (fun f => f)
    exact ⟨⟨rd_mk k1, rdN_mk k1 (Nat.le_refl 2)⟩, fg.keep wB gB (fun f => f)⟩
  obtain ⟨⟨u0, uN⟩, gZ⟩ := rds hB Fm.refl
  have r0 : 0 ≤ n % (600 * F - 9 * missN F D) := Int.emod_nonneg _ (by omega)
  have r1 : n % (600 * F - 9 * missN F D) < 600 * F - 9 * missN F D := Int.emod_lt_of_pos _ (by omega)
  have a0 : 0 ≤ (T : Int) / 10 * 9 * missN F D := Int.mul_nonneg (by omega) hd.1
  have a1 : (T : Int) / 10 * 9 * missN F D ≤ 1296 * 4 := Int.mul_le_mul (by omega) hd.2 hd.1 (by omega)
  have t1 : n.tdiv (600 * F - 9 * missN F D) = (T : Int) / 10 := by rw [Int.tdiv_eq_ediv_of_nonneg hnb.1]; exact p1
  have t2 : n.tmod (600 * F - 9 * missN F D) = n % (600 * F - 9 * missN F D) := Int.tmod_eq_emod_of_nonneg hnb.1
  have t0 : (600 * F - 9 * missN F D = 0) = False := eq_false (by omega)
  simp +contextual (disch := omega) only [↓AM, ↓AV, AP, CQ, i64, hhA, hhB, hzA, uN]
  refine (c_ten hF).use ?_
  rintro _ h1 w1 ⟨rfl, fm1⟩
  obtain ⟨⟨u0, uN⟩, gZ⟩ := rds h1 fm1
  simp +contextual (disch := omega) only [↓AM, ↓AV, AP, CQ, i64, hhA, hhB, hzA, uN, t1, t0]
  refine ⟨⟨_, rfl, rfl⟩, ?_⟩
  refine (c_ten hF).use ?_
  rintro _ h2 w2 ⟨rfl, fm2⟩
  have f2 := fm1.trans fm2 fun _ _ f => f
  obtain ⟨⟨u0, uN⟩, gZ⟩ := rds h2 f2
  simp +contextual (disch := omega) only [↓AM, ↓AV, AP, CQ, i64, hhA, hhB, hzA, u0, uN, t1, t2, t0]
  refine (c_dropped hF).use ?_
  rintro _ h3 w3 ⟨rfl, fm3⟩
  have f3 := f2.trans fm3 fun _ _ f => f
  obtain ⟨⟨u0, uN⟩, gZ⟩ := rds h3 f3
  have e9 : IntKind.i64.wrap ((T : Int) / 10 * 9) = (T : Int) / 10 * 9 := i64 (by omega)
  have e10 : IntKind.i64.wrap ((T : Int) / 10 * 9 * missN F D) = (T : Int) / 10 * 9 * missN F D := i64 (by omega)
  have e11 : IntKind.i64.wrap (n + (T : Int) / 10 * 9 * missN F D) = n + (T : Int) / 10 * 9 * missN F D := i64 (by omega)
  have ew : IntKind.i64.wrap ((T : Int) / 10) = (T : Int) / 10 := i64 (by omega)
  simp +contextual (disch := omega) only [↓AM, ↓AV, AP, CQ, i64, hhA, hhB, hzA, u0, uN, ew, e9]
  refine (c_dropped hF).use ?_
  rintro _ h4 w4 ⟨rfl, fm4⟩
  have f4 := f3.trans fm4 fun _ _ f => f
  obtain ⟨⟨u0, uN⟩, gZ⟩ := rds h4 f4
  have fne : (F = 0) = False := eq_false (by omega)
  have fin : ∀ (g : Hp) (x : Int), Fm No hB g → x = 60 * F * T + y →
      ¬F = 0 ∧ ¬(3600 : Int) = 0 ∧ ¬(60 : Int) = 0 ∧ ¬(60 : Int) = 0 ∧ ¬(60 : Int) = 0 ∧ ¬F = 0 ∧
      (Value.agg #[.int .i64 (IntKind.i64.wrap ((IntKind.i64.wrap (x.tdiv F)).tdiv 3600)), .int .i64 ((IntKind.i64.wrap ((IntKind.i64.wrap (x.tdiv F)).tdiv 60)).tmod 60), .int .i64 ((IntKind.i64.wrap (x.tdiv F)).tmod 60), .int .i64 (x.tmod F)]) = codV F T y ∧
      Fm No h (g.put zA ⟨[.int .i64 (IntKind.i64.wrap ((IntKind.i64.wrap (x.tdiv F)).tdiv 3600)), .int .i64 ((IntKind.i64.wrap ((IntKind.i64.wrap (x.tdiv F)).tdiv 60)).tmod 60), .int .i64 ((IntKind.i64.wrap (x.tdiv F)).tmod 60), .int .i64 (x.tmod F)], .own⟩) := by
    intro g x fg hx
    obtain ⟨c1, c2, c3, c4, -, -⟩ := codeFin hF hT (by omega) hy hx
    refine ⟨by omega, by decide, by decide, by decide, by decide, by omega, ?_, (fm.trans fg fun _ _ f => f).put fun hlt => absurd hlt (by omega)⟩
    rw [c1, c2]
    have q0 : (60 * (T : Int) + y / F).tdiv 60 = (60 * (T : Int) + y / F) / 60 := Int.tdiv_eq_ediv_of_nonneg (by omega)
    have q1 : IntKind.i64.wrap ((60 * (T : Int) + y / F).tdiv 3600) = ((T / 60 : Nat) : Int) := by
      rw [Int.tdiv_eq_ediv_of_nonneg (by omega), i64 (by omega)]; omega
    have q2 : (IntKind.i64.wrap ((60 * (T : Int) + y / F).tdiv 60)).tmod 60 = ((T % 60 : Nat) : Int) := by
      rw [q0, i64 (by omega), Int.tmod_eq_emod_of_nonneg (by omega)]; omega
    have q3 : (60 * (T : Int) + y / F).tmod 60 = y / F := by
      rw [Int.tmod_eq_emod_of_nonneg (by omega)]; omega
    rw [q1, q2, q3]
  by_cases hb : T % 10 = 0
  · rw [if_pos hb] at p2
    have e12 : ¬ 60 * F ≤ n % (600 * F - 9 * missN F D) := by omega
    simp +contextual (disch := omega) only [↓AM, ↓AV, AP, CQ, i64, hhA, hhB, hzA, u0, uN, ew, e9, e10, e11, e12, gZ, rdp_n4]
    exact fin h4 _ f4 p2.2
  · rw [if_neg hb] at p2
    obtain ⟨p3, p4, p5, p6⟩ := p2
    have m0 : 0 ≤ missN F D * (1 + ((T % 10 - 1 : Nat) : Int)) := Int.mul_nonneg hd.1 (by omega)
    have m1 : missN F D * (1 + ((T % 10 - 1 : Nat) : Int)) ≤ 4 * 10 := Int.mul_le_mul hd.2 (by omega) (by omega) (by omega)
    have t3 : (n % (600 * F - 9 * missN F D) - 60 * F).tdiv (60 * F - missN F D) = ((T % 10 - 1 : Nat) : Int) := by rw [Int.tdiv_eq_ediv_of_nonneg p5]; exact p4
    have t4 : (60 * F - missN F D = 0) = False := eq_false (by omega)
    have t5 : IntKind.i64.wrap ((T % 10 - 1 : Nat) : Int) = ((T % 10 - 1 : Nat) : Int) := i64 (by omega)
    have t6 : IntKind.i64.wrap (1 + ((T % 10 - 1 : Nat) : Int)) = 1 + ((T % 10 - 1 : Nat) : Int) := i64 (by omega)
    have t7 : IntKind.i64.wrap (missN F D * (1 + ((T % 10 - 1 : Nat) : Int))) = missN F D * (1 + ((T % 10 - 1 : Nat) : Int)) := i64 (by omega)
    have t8 : IntKind.i64.wrap (n + (T : Int) / 10 * 9 * missN F D + missN F D * (1 + ((T % 10 - 1 : Nat) : Int))) = n + (T : Int) / 10 * 9 * missN F D + missN F D * (1 + ((T % 10 - 1 : Nat) : Int)) := i64 (by omega)
    have t9 : IntKind.i64.wrap (n % (600 * F - 9 * missN F D) - 60 * F) = n % (600 * F - 9 * missN F D) - 60 * F := i64 (by omega)
    simp +contextual (disch := omega) only [↓AM, ↓AV, AP, CQ, i64, hhA, hhB, hzA, u0, uN, ew, e9, e10, e11, p3, t3, t4, t5, t6, t9]
    refine (c_dropped hF).use ?_
    rintro _ h5 w5 ⟨rfl, fm5⟩
    have f5 := f4.trans fm5 fun _ _ f => f
    obtain ⟨⟨u0, uN⟩, gZ⟩ := rds h5 f5
    simp +contextual (disch := omega) only [↓AM, ↓AV, AP, CQ, i64, hhA, hhB, hzA, u0, uN, ew, e9, e10, e11, p3, t3, t4, t5, t6, t7, t8, t9, gZ, rdp_n4]
    exact fin h5 _ f5 p6
theorem ms_mod {d : Int} (H M : Nat) : ms d (60 * H + M) = ms d M := by unfold ms; rw [show (60 * H + M) % 10 = M % 10 by omega]
theorem msI (d : Int) (m : Nat) : (if (m : Int) % 10 = 0 then 0 else d) = ms d m := by
  unfold ms
  by_cases h : m % 10 = 0
  · rw [if_pos h, if_pos (by omega)]
  · rw [if_neg h, if_neg (by omega)]
theorem c_rCode {h : Hp} {F : Int} {D : Bool} {T : Nat} {y n : Int} (hR : okR F D) (hT : T < 1440) (hm0 : ms (missN F D) T ≤ y) (hy : y < 60 * F) (hn : pre (60 * F) (missN F D) T + (y - ms (missN F D) T) = n) :
    ACalls Try.prog 38 [rateV F D, .int .i64 n] h fun v h' => v = .tuple #[codV F T y, .int .i64 0] ∧ Fm No h h' := by
  refine dioramaref20_Code_ok.snd hm rfl fun w => ?_
  rw [WF_eq, dioramaref20_Code, rateV]
  have hF := hR.1
  have hd := miss_b D hF
  have hnb := num_b hF hd hT hm0 hy
  rw [hn] at hnb
  obtain ⟨hA, hhA⟩ : ∃ g, h.new ⟨[.int .i64 F, .bool D], .own⟩ = g := ⟨_, rfl⟩
  obtain ⟨hB, hhB⟩ : ∃ g, hA.new ⟨[.int .i64 0, .int .i64 0, .int .i64 0, .int .i64 0], .own⟩ = g := ⟨_, rfl⟩
  have wA : Wf hA := hhA ▸ w.new
  have wB : Wf hB := hhB ▸ wA.new
  have fmA : Fm No h hA := hhA ▸ Fm.new Fm.refl
  have fmB : Fm No hA hB := hhB ▸ Fm.new Fm.refl
  have gA : hA.get h.size = some ⟨[.int .i64 F, .bool D], .own⟩ := hhA ▸ gnew
  have gB : hB.get hA.size = some ⟨[.int .i64 0, .int .i64 0, .int .i64 0, .int .i64 0], .own⟩ := hhB ▸ gnew
  have gA := fmB.keep wA gA (fun f => f)
  have sA := fmA.size
  have fm := fmA.trans fmB fun _ _ f => f
  obtain ⟨zA, hzA⟩ : ∃ z, hA.size = z := ⟨_, rfl⟩
  rw [hzA] at gB sA
  have lA := wB.lt gA
  have lB := wB.lt gB
  have rds : ∀ g : Hp, Fm (fun z => hB.size ≤ z) hB g → (g.rd h.size 0 = some (.int .i64 F) ∧ g.rdN h.size 0 2 = some [.int .i64 F, .bool D]) ∧ g.get zA = some ⟨[.int .i64 0, .int .i64 0, .int .i64 0, .int .i64 0], .own⟩ := fun g fg => by
    have k1 := fg.keep wB gA (fun f => by omega)
    exact ⟨⟨rd_mk k1, rdN_mk k1 (Nat.le_refl 2)⟩, fg.keep wB gB (fun f => by omega)⟩
  have up : ∀ {g : Hp}, Fm No hB g → Fm (fun z => hB.size ≤ z) hB g := fun fg => fg.mono fun _ _ f => f.elim
  obtain ⟨⟨u0, uN⟩, gZ⟩ := rds hB Fm.refl
  simp +contextual (disch := omega) only [↓AM, ↓AV, AP, CQ, i64, hhA, hhB, hzA, uN]
  refine c_rDay.use ?_
  rintro _ h1 w1 ⟨rfl, fm1⟩
  have e1 : chkR F D = 0 := if_pos hR
  obtain ⟨⟨u0, uN⟩, gZ⟩ := rds h1 (up fm1)
  rw [if_pos hR]
  simp +contextual (disch := omega) only [↓AM, ↓AV, AP, CQ, i64, hhA, hhB, hzA, uN, e1]
  refine c_in20.use ?_
  rintro _ hX w1' ⟨rfl, e⟩
  subst e
  have hin : 0 ≤ n ∧ n ≤ 144 * (600 * F - 9 * missN F D) - 1 := by omega
  simp +contextual (disch := omega) only [↓AM, ↓AV, AP, CQ, i64, hhA, hhB, hzA, uN, hin]
  refine (c_hour hF).use ?_
  rintro _ h2 w2 ⟨rfl, fm2⟩
  have f2 := fm1.trans fm2 fun _ _ f => f
  obtain ⟨⟨u0, uN⟩, gZ⟩ := rds h2 (up f2)
  -- the hour
  have eT : 60 * (T / 60) + T % 60 = T := by omega
  have ep := pre_hours (60 * F) (missN F D) (T / 60) (T % 60)
  have eM := ms_mod (d := missN F D) (T / 60) (T % 60)
  rw [eT] at ep eM
  have eh : pre (60 * F) (missN F D) 60 = 3600 * F - 54 * missN F D := by rw [pre_hour]; omega
  rw [eh] at ep
  obtain ⟨Z, hZ⟩ : ∃ Z, T % 60 = Z := ⟨_, rfl⟩
  rw [hZ] at ep eM
  have hZ60 : Z < 60 := by omega
  have hmz := ms_b hd.1 Z
  have bZ := pre_mono (c := 60 * F) (d := missN F D) hd.1 (by omega) (Z + 1) 60 (by omega)
  have bZ0 := pre_mono (c := 60 * F) (d := missN F D) hd.1 (by omega) 0 Z (by omega)
  have eZ1 : pre (60 * F) (missN F D) (Z + 1) = pre (60 * F) (missN F D) Z + (60 * F - ms (missN F D) Z) := rfl
  have e00 : pre (60 * F) (missN F D) 0 = 0 := rfl
  rw [eh] at bZ
  obtain ⟨q1, q2⟩ := tdm (n := n) (q := ((T / 60 : Nat) : Int)) (b := 3600 * F - 54 * missN F D) (r := pre (60 * F) (missN F D) Z + (y - ms (missN F D) Z)) (by rw [← hn, eM, ep]; omega) (by omega) (by omega) (by omega)
  have hne : (3600 * F - 54 * missN F D = 0) = False := eq_false (by omega)
  obtain ⟨hY, hhY⟩ : ∃ g, h2.new ⟨[.int .i64 ((T / 60 : Nat) : Int), .int .i64 0, .int .i64 0, .int .i64 0], .own⟩ = g := ⟨_, rfl⟩
  have wY : Wf hY := hhY ▸ w2.new
  have fmY : Fm No h2 hY := hhY ▸ Fm.new Fm.refl
  have gY : hY.get h2.size = some ⟨[.int .i64 ((T / 60 : Nat) : Int), .int .i64 0, .int .i64 0, .int .i64 0], .own⟩ := hhY ▸ gnew
  have fY := f2.trans fmY fun _ _ f => f
  have s2 := f2.size
  obtain ⟨z8, hz8⟩ : ∃ z, h2.size = z := ⟨_, rfl⟩
  rw [hz8] at gY s2
  obtain ⟨⟨u0, uN⟩, gZ⟩ := rds hY (up fY)
  simp +contextual (disch := omega) only [↓AM, ↓AV, AP, CQ, i64, hhA, hhB, hzA, q1, hne, hhY]
  simp +contextual (disch := omega) only [↓AM, ↓AV, AP, CQ, i64, hhY, hz8, uN]
  refine (c_hour hF).use ?_
  rintro _ h3 w3 ⟨rfl, fm3⟩
  have g3 := fm3.keep wY gY (fun f => f)
  have f3 := fY.trans fm3 fun _ _ f => f
  have l8 := w3.lt g3
  simp +contextual (disch := omega) only [↓AM, ↓AV, AP, CQ, i64, hhY, hz8, q2, hne]
  refine WL.mk (fun k t h' => Wf h' ∧ Fm (fun z => hB.size ≤ z) hB h' ∧ ∃ m : Nat, m ≤ Z ∧ k = Z - m ∧ h'.get z8 = some ⟨[.int .i64 ((T / 60 : Nat) : Int), .int .i64 (m : Int), .int .i64 0, .int .i64 0], .own⟩ ∧
      t = [(1, some (.int .i64 (pre (60 * F) (missN F D) Z - pre (60 * F) (missN F D) m + (y - ms (missN F D) Z)))), (2, some (.pointer (some ⟨h.size, 0, none⟩))), (4, some (.pointer (some ⟨zA, 0, none⟩))), (8, some (.pointer (some ⟨z8, 0, none⟩)))])
    ⟨Z, w3, up f3, 0, by omega, rfl, g3, by rw [e00, Int.sub_zero]⟩ ?_
  rintro k t hL ⟨wL, fL, m, hm, rfl, gL, rfl⟩
  obtain ⟨⟨u0, uN⟩, gZ⟩ := rds hL fL
  have v1 := rd_mk gL (i := 1)
  simp only [List.getElem?_cons_zero, List.getElem?_cons_succ] at v1
  have hmm := ms_b hd.1 m
  have bm := pre_mono (c := 60 * F) (d := missN F D) hd.1 (by omega) 0 m (by omega)
  have bmZ := pre_mono (c := 60 * F) (d := missN F D) hd.1 (by omega) m Z (by omega)
  have em1 : pre (60 * F) (missN F D) (m + 1) = pre (60 * F) (missN F D) m + (60 * F - ms (missN F D) m) := rfl
  simp +contextual (disch := omega) only [↓AM, ↓AV, AP, CQ, i64, uN, v1]
  refine (c_minute hF (m := (m : Int)) (by omega)).use ?_
  rintro _ h4 w4 ⟨rfl, fm4⟩
  rw [msI]
  have g4 := fm4.keep wL gL (fun f => f)
  have f4 := fL.trans fm4 fun _ _ f => f.elim
  obtain ⟨⟨u0, uN⟩, gZ⟩ := rds h4 f4
  have v1 := rd_mk g4 (i := 1)
  simp only [List.getElem?_cons_zero, List.getElem?_cons_succ] at v1
  have l4 := w4.lt g4
  rcases Nat.lt_or_ge m Z with hlt | hge
  · have bm1 := pre_mono (c := 60 * F) (d := missN F D) hd.1 (by omega) (m + 1) Z (by omega)
    have c1 : 60 * F - ms (missN F D) m ≤ pre (60 * F) (missN F D) Z - pre (60 * F) (missN F D) m + (y - ms (missN F D) Z) := by omega
    simp +contextual (disch := omega) only [↓AM, ↓AV, AP, CQ, i64, uN, v1, c1]
    refine (c_minute hF (m := (m : Int)) (by omega)).use ?_
    rintro _ h5 w5 ⟨rfl, fm5⟩
    rw [msI]
    have g5 := fm5.keep w4 g4 (fun f => f)
    have f5 := f4.trans fm5 fun _ _ f => f.elim
    have v1 := rd_mk g5 (i := 1)
    simp only [List.getElem?_cons_zero, List.getElem?_cons_succ] at v1
    have e5 : IntKind.i64.wrap (pre (60 * F) (missN F D) Z - pre (60 * F) (missN F D) m + (y - ms (missN F D) Z) - (60 * F - ms (missN F D) m)) = pre (60 * F) (missN F D) Z - pre (60 * F) (missN F D) (m + 1) + (y - ms (missN F D) Z) := by rw [i64 (by omega)]; omega
    simp +contextual (disch := omega) only [↓AM, ↓AV, AP, CQ, i64, v1, g5, e5]
    exact ⟨_, by omega, w5.put (w5.lt g5), f5.put fun _ => by omega, m + 1, by omega, rfl, rfl, rfl⟩
  · have : m = Z := by omega
    subst this
    have c1 : ¬ 60 * F - ms (missN F D) m ≤ pre (60 * F) (missN F D) m - pre (60 * F) (missN F D) m + (y - ms (missN F D) m) := by omega
    simp +contextual (disch := omega) only [↓AM, ↓AV, AP, CQ, i64, uN, v1, c1]
    refine (c_missing hF (m := (m : Int)) (by omega)).use ?_
    rintro _ h5 w5 ⟨rfl, fm5⟩
    rw [msI]
    have g5 := fm5.keep w4 g4 (fun f => f)
    have f5 := f4.trans fm5 fun _ _ f => f.elim
    obtain ⟨⟨u0, uN⟩, gZ⟩ := rds h5 f5
    have e5 : IntKind.i64.wrap (pre (60 * F) (missN F D) m - pre (60 * F) (missN F D) m + (y - ms (missN F D) m) + ms (missN F D) m) = y := by rw [i64 (by omega)]; omega
    have y0 : 0 ≤ y / F := Int.ediv_nonneg (by omega) (by omega)
    have y1 : y / F < 60 := Int.ediv_lt_of_lt_mul (by omega) hy
    have e6 : IntKind.i64.wrap (y.tdiv F) = y / F := by rw [Int.tdiv_eq_ediv_of_nonneg (by omega), i64 (by omega)]
    have e7 : y.tmod F = y % F := Int.tmod_eq_emod_of_nonneg (by omega)
    have fne : (F = 0) = False := eq_false (by omega)
    have u0p : ∀ o, (h5.put z8 o).rd h.size 0 = some (.int .i64 F) := fun o => (rd_keep (get_put (by omega))).trans u0
    have gZp : ∀ o, (h5.put z8 o).get zA = some ⟨[.int .i64 0, .int .i64 0, .int .i64 0, .int .i64 0], .own⟩ := fun o => (get_put (by omega)).trans gZ
    simp +contextual (disch := omega) only [↓AM, ↓AV, AP, CQ, i64, u0, u0p, e5, e6, e7, fne, g5, put_put, gZp, rdp_n4]
    have sB := fm.size
    refine ⟨?_, ((fm.trans f5 fun z hz f => by omega).put fun hlt => absurd hlt (by omega)).put fun hlt => absurd hlt (by omega)⟩
    show _ = Value.tuple #[.agg #[.int .i64 ((T / 60 : Nat) : Int), .int .i64 ((T % 60 : Nat) : Int), .int .i64 (y / F), .int .i64 (y % F)], .int .i64 0]
    rw [hZ]
end Go.Proofs.Ytnibipabfdalcaa.Nu
