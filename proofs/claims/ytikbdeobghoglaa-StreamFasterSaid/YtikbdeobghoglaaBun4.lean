/- The Big numbers of the document: multiplied. Plain theorems over the abstract machine.
   Conditions: none. -/
import Derived.Test.YtikbdeobghoglaaBun3
import Derived.Test.YtikbdeobghoglaaAmZ
import Derived.Test.YtikbdeobghoglaaBun2
import Derived.Test.YtikbdeobghoglaaAmX
namespace Go.Proofs.Ytikbdeobghoglaa.Nu
open Go Go.RowKit Go.Proofs.Ytikbdeobghoglaa.Am Go.Proofs.Ytikbdeobghoglaa.Af Go.Proofs.Ytikbdeobghoglaa.Md
set_option linter.unusedVariables false
set_option linter.unusedSimpArgs false
set_option linter.defProp false
set_option maxRecDepth 20000
set_option maxHeartbeats 1000000

theorem rep_j3 (n : Nat) : rep n [.int .i64 0] = j3 (List.replicate n 0) := by
  unfold rep j3
  induction n with
  | zero => rfl
  | succ n ih => rw [List.replicate_succ, List.flatten_cons, ih]; rfl
theorem spl_j3 {O : List Nat} {j d : Nat} (hj : j < O.length) : spl (j3 O) j [.int .i64 (d : Int)] = j3 (O.set j d) := by
  rw [spl_one _ _ _ (by rw [j3_len]; omega)]
  simp [j3, List.map_set]
theorem j3_at {O : List Nat} {j d : Nat} (h : O[j]? = some d) : (j3 O)[j]? = some (.int .i64 (d : Int)) := by simp [j3, h]
theorem Dl.zeros24 (n : Nat) : Dl B24 (List.replicate n 0) := fun d hd => by
  rw [(List.mem_replicate.1 hd).2]; decide
theorem em_own {h : Hp} {b : Nat} {O : List Nat} (hg : h.get b = some ⟨j3 O, .own⟩) (hd : Dl B24 O) : Em h (some ⟨b, 0, none⟩) O.length O.length O :=
  ⟨Rd.of rfl (by rw [Nat.mul_one, rdN_mk hg (by simp [j3_len])]; simp [List.take_of_length_le (Nat.le_of_eq (j3_len O))]), Nat.le_refl _, hd, (by rintro _ ⟨rfl⟩; rfl), (fun e => by cases e)⟩
theorem mul_step24 {x y c o : Nat} (hx : x < 16777216) (hy : y < 16777216) (hc : c < 16777216) (ho : o < 16777216) : (o + x * y) + c < 281474976710656 ∧ o + x * y < 281474976710656 ∧ x * y < 281474976710656 := by
  have : x * y ≤ 16777215 * 16777215 := Nat.mul_le_mul (by omega) (by omega)
  omega
theorem c_bMul {h : Hp} {a b : Option Addr} {c d x y : Nat} {g1 g2 : Bool} (la : Em h a (de x).length c (de x)) (lb : Em h b (de y).length d (de y)) (hx : (de x).length ≤ 400000) (hy : (de y).length ≤ 400000) :
    ACalls Try.prog 47 [.agg #[.bool g1, .slice a (de x).length c], .agg #[.bool g2, .slice b (de y).length d]] h fun v h' => BigV (fun z => h.size ≤ z) h' v ((g1 != g2) && decide (0 < x * y)) (x * y) ∧ Fm No h h' := by
  refine dioramaref00_Mul_ok.snd hm rfl fun w => ?_
  rw [WF_eq, dioramaref00_Mul]
  have hval : vL B24 (de x) * y = x * y := by rw [de_val]
  have yval : vL B24 (de y) = y := de_val y
  generalize hX : de x = X at *
  generalize hY : de y = Y at *
  have zl : vL B24 (List.replicate (X.length + Y.length) 0) = 0 := vL_zeros _ _
  obtain ⟨hA, hhA⟩ : ∃ g, h.new ⟨[.bool g1, .slice a X.length c], .own⟩ = g := ⟨_, rfl⟩
  obtain ⟨hB, hhB⟩ : ∃ g, hA.new ⟨[.bool g2, .slice b Y.length d], .own⟩ = g := ⟨_, rfl⟩
  obtain ⟨hC, hhC⟩ : ∃ g, hB.new ⟨[.bool false, .slice none 0 0], .own⟩ = g := ⟨_, rfl⟩
  obtain ⟨hD, hhD⟩ : ∃ g, hC.new ⟨j3 (List.replicate (X.length + Y.length) 0), .own⟩ = g := ⟨_, rfl⟩
  obtain ⟨hE, hhE⟩ : ∃ g, hD.new ⟨[.bool false, .slice (some ⟨hC.size, 0, none⟩) (X.length + Y.length) (X.length + Y.length)], .own⟩ = g := ⟨_, rfl⟩
  have wA : Wf hA := hhA ▸ w.new
  have wB : Wf hB := hhB ▸ wA.new
  have wC : Wf hC := hhC ▸ wB.new
  have wD : Wf hD := hhD ▸ wC.new
  have wE : Wf hE := hhE ▸ wD.new
  have fmA : Fm No h hA := hhA ▸ Fm.new Fm.refl
  have fmB : Fm No hA hB := hhB ▸ Fm.new Fm.refl
  have fmC : Fm No hB hC := hhC ▸ Fm.new Fm.refl
  have fmD : Fm No hC hD := hhD ▸ Fm.new Fm.refl
  have fmE : Fm No hD hE := hhE ▸ Fm.new Fm.refl
  have sA : hA.size = h.size + 1 := by rw [← hhA]; rfl
  have sB : hB.size = h.size + 2 := by rw [← hhB, size_new, sA]
  have sC : hC.size = h.size + 3 := by rw [← hhC, size_new, sB]
  have sD : hD.size = h.size + 4 := by rw [← hhD, size_new, sC]
  have gA : hA.get h.size = some ⟨[.bool g1, .slice a X.length c], .own⟩ := hhA ▸ gnew
  have gB : hB.get hA.size = some ⟨[.bool g2, .slice b Y.length d], .own⟩ := hhB ▸ gnew
  have gC : hC.get hB.size = some ⟨[.bool false, .slice none 0 0], .own⟩ := hhC ▸ gnew
  have gD : hD.get hC.size = some ⟨j3 (List.replicate (X.length + Y.length) 0), .own⟩ := hhD ▸ gnew
  have gE : hE.get hD.size = some ⟨[.bool false, .slice (some ⟨hC.size, 0, none⟩) (X.length + Y.length) (X.length + Y.length)], .own⟩ := hhE ▸ gnew
  have gDE := fmE.keep wD gD (fun f => f)
  have fC := (fmA.trans fmB fun _ _ f => f).trans fmC fun _ _ f => f
  have rds : ∀ g : Hp, Fm No hC g → g.get h.size = some ⟨[.bool g1, .slice a X.length c], .own⟩ ∧ g.get hA.size = some ⟨[.bool g2, .slice b Y.length d], .own⟩ ∧ g.get hB.size = some ⟨[.bool false, .slice none 0 0], .own⟩ := fun g fg =>
    ⟨fg.keep wC (fmC.keep wB (fmB.keep wA gA (fun f => f)) (fun f => f)) (fun f => f), fg.keep wC (fmC.keep wB gB (fun f => f)) (fun f => f), fg.keep wC gC (fun f => f)⟩
  obtain ⟨i0, i1, i2⟩ := rds hC Fm.refl
  have v0 := rd_mk i0 (i := 1)
  have v1 := rd_mk i1 (i := 1)
  simp +contextual (disch := omega) only [↓AM, ↓AV, AP, CQ, CN, CB, i64, hhA, hhB, hhC, hhD, hhE, v0, v1, rep_j3]
  refine ⟨by omega, ?_⟩
  refine WL.mk (fun k t h' => Wf h' ∧ Fm No hC h' ∧ h'.get hD.size = some ⟨[.bool false, .slice (some ⟨hC.size, 0, none⟩) (X.length + Y.length) (X.length + Y.length)], .own⟩ ∧ ∃ O : List Nat, h'.get hC.size = some ⟨j3 O, .own⟩ ∧ O.length = X.length + Y.length ∧ Dl B24 O ∧ ∃ i : Nat, i ≤ X.length ∧ k = X.length - i ∧ vL B24 O = vL B24 (X.take i) * y ∧ (∀ j, i + Y.length ≤ j → j < O.length → O[j]? = some 0) ∧
      t = [(2, some (.pointer (some ⟨h.size, 0, none⟩))), (3, some (.pointer (some ⟨hA.size, 0, none⟩))), (4, some (.pointer (some ⟨hB.size, 0, none⟩))), (5, some (.pointer (some ⟨hD.size, 0, none⟩))), (6, some (.int .i64 (i : Int)))])
    ⟨X.length, wE, fmD.trans fmE fun _ _ f => f, gE, _, gDE, by simp, Dl.zeros24 _, 0, by omega, rfl, by rw [zl]; simp [vL], fun j h1 h2 => by rw [List.getElem?_replicate, if_pos (by simpa using h2)], rfl⟩ ?_
  rintro k t h1 ⟨w1, f1, gX, O, gO, hOl, hOd, i, hi, rfl, hv, hz, rfl⟩
  obtain ⟨q0, q1, q2⟩ := rds h1 f1
  have s0 := rd_mk q0 (i := 1)
  have s1 := rd_mk q1 (i := 1)
  have s3 := rd_mk gX (i := 1)
  by_cases hin : i < X.length
  · simp +contextual (disch := omega) only [↓AM, ↓AV, AP, CQ, CN, CB, i64, s0, s1, s3, hin]
    refine WL.mk (fun k t h' => Wf h' ∧ Fm No hC h' ∧ h'.get hD.size = some ⟨[.bool false, .slice (some ⟨hC.size, 0, none⟩) (X.length + Y.length) (X.length + Y.length)], .own⟩ ∧ ∃ O : List Nat, h'.get hC.size = some ⟨j3 O, .own⟩ ∧ O.length = X.length + Y.length ∧ Dl B24 O ∧ ∃ j cy : Nat, j ≤ Y.length + 1 ∧ (j = Y.length + 1 → cy = 0) ∧ k = Y.length + 1 - j ∧ cy < 16777216 ∧ vL B24 O + B24 ^ (i + j) * cy = vL B24 (X.take i) * y + B24 ^ i * (X.getD i 0 * vL B24 (Y.take j)) ∧ (∀ q, i + Y.length ≤ q → i + j ≤ q → q < O.length → O[q]? = some 0) ∧
        t = [(2, some (.pointer (some ⟨h.size, 0, none⟩))), (3, some (.pointer (some ⟨hA.size, 0, none⟩))), (4, some (.pointer (some ⟨hB.size, 0, none⟩))), (5, some (.pointer (some ⟨hD.size, 0, none⟩))), (6, some (.int .i64 (i : Int))), (7, some (.int .i64 (cy : Int))), (8, some (.int .i64 j))])
      ⟨Y.length + 1, w1, f1, gX, O, gO, hOl, hOd, 0, 0, by omega, by omega, rfl, by decide, by rw [hv]; simp [vL], fun q h1 _ h2 => hz q h1 h2, rfl⟩ ?_
    clear hv hz hOd hOl gO O q0 q1 q2 s0 s1 s3 gX f1 w1 h1
    rintro k t h1 ⟨w1, f1, gX, O, gO, hOl, hOd, j, cy, hj, hlast, rfl, hcy, hv, hz, rfl⟩
    obtain ⟨q0, q1, q2⟩ := rds h1 f1
    have s0 := rd_mk q0 (i := 1)
    have s1 := rd_mk q1 (i := 1)
    have s3 := rd_mk gX (i := 1)
    have fh1 := fC.trans f1 fun _ _ f => f
    obtain ⟨b1, o1, sp1, p, rfl, p1, hp, r1⟩ := (la.rd.keepW w fh1 nNo).dec24 hin
    have hpl : p < 16777216 := la.dl.at hp
    have hpD : X.getD i 0 = p := by rw [List.getD_eq_getElem?_getD, hp]; rfl
    rw [hpD] at hv ⊢
    have ybd := getD24 lb.dl j
    have htk := take_getD24 (Y := Y) j
    have n1 : h1.rdN hA.size 0 2 = some [.bool g2, .slice b Y.length d] := rdN_mk q1 (by simp)
    by_cases hstop : ¬ j < Y.length ∧ cy = 0
    · obtain ⟨e1, rfl⟩ := hstop
      have e0 : ((0 : Int) < ((0 : Nat) : Int)) = False := by simp
      simp +contextual (disch := omega) only [↓AM, ↓AV, AP, CQ, CN, CB, i64, s0, s1, s3, e1, e0]
      rw [List.take_of_length_le (l := Y) (i := j) (by omega), yval] at hv
      refine ⟨_, ?_, w1, f1, gX, O, gO, hOl, hOd, i + 1, by omega, rfl, ?_, ?_, rfl⟩
      · omega
      · have h4 : vL B24 (X.take (i + 1)) = vL B24 (X.take i) + B24 ^ i * p := by rw [take_getD24, hpD]
        rw [h4, Nat.add_mul, Nat.mul_assoc]
        omega
      · intro q h1 h2
        exact hz q (by omega) (by omega) h2
    · have hij : i + j < O.length := by
        rcases Nat.lt_or_ge j Y.length with h | h
        · omega
        · have : ¬ j = Y.length + 1 := fun e => hstop ⟨by omega, hlast e⟩
          omega
      have hij2 : i + j < X.length + Y.length := by omega
      obtain ⟨e, he⟩ : ∃ e, O[i + j]? = some e := ⟨_, List.getElem?_eq_getElem hij⟩
      have hel : e < 16777216 := hOd.at he
      have ue := j3_at he
      have ue1 := (rd_mk gO (i := i + j)).trans ue
      have ul : leIs (i + j + 1) (j3 O) = true := by rw [← leIs_p, j3_len]; omega
      generalize hq : Y.getD j 0 = q at *
      obtain ⟨m1, m2, m3⟩ := mul_step24 hpl ybd hcy hel
      have us : spl (j3 O) (i + j) [.int .i64 ((((e + p * q) + cy) % 16777216 : Nat) : Int)] = j3 (O.set (i + j) (((e + p * q) + cy) % 16777216)) := spl_j3 hij
      have hcond : ¬ j < Y.length → (0 : Int) < (cy : Int) := fun h => by
        have : ¬ cy = 0 := fun e => hstop ⟨h, e⟩
        omega
      have val : vL B24 (O.set (i + j) ((e + p * q + cy) % 16777216)) + B24 ^ (i + (j + 1)) * ((e + p * q + cy) / 16777216) = vL B24 (X.take i) * y + B24 ^ i * (p * vL B24 (Y.take (j + 1))) := by
        have h0 := vL_set (B := B24) (d := (e + p * q + cy) % 16777216) he
        have h1 : B24 ^ (i + j) * ((e + p * q + cy) % 16777216) + B24 ^ (i + j) * (B24 * ((e + p * q + cy) / 16777216)) = B24 ^ (i + j) * (e + p * q + cy) := by rw [← Nat.mul_add]; congr 1; exact Nat.mod_add_div _ 16777216
        have h2 : B24 ^ (i + j) * (e + p * q + cy) = B24 ^ (i + j) * e + B24 ^ (i + j) * (p * q) + B24 ^ (i + j) * cy := by rw [Nat.mul_add, Nat.mul_add]
        have h3 : B24 ^ i * (p * (B24 ^ j * q)) = B24 ^ (i + j) * (p * q) := by rw [Nat.pow_add]; ac_rfl
        rw [htk, Nat.mul_add p, Nat.mul_add (B24 ^ i), h3, show i + (j + 1) = (i + j) + 1 by omega, Nat.pow_succ, Nat.mul_assoc]
        omega
      by_cases hjn : j < Y.length
      · simp +contextual (disch := omega) only [↓AM, ↓AV, AP, CQ, CN, CB, i64, s0, s1, s3, n1, hjn, hin, p1, r1, ue1, hij2]
        refine (c_bdigit (i := j) (lb.rd.keepW w fh1 nNo) (by omega)).use ?_
        rintro _ h3 w3 ⟨rfl, f13⟩
        rw [hq]
        obtain ⟨q6, q7, q8⟩ := rds h3 (f1.trans f13 fun _ _ f => f)
        have t0 := rd_mk q6 (i := 1)
        have n7 : h3.rdN hA.size 0 2 = some [.bool g2, .slice b Y.length d] := rdN_mk q7 (by simp)
        have gO3 := f13.keep w1 gO (fun f => f)
        have gX3 := f13.keep w1 gX (fun f => f)
        have t3 := rd_mk gX3 (i := 1)
        have ue3 := (rd_mk gO3 (i := i + j)).trans ue
        have r3 := (rd_keep (f13.get b1 (rd_lt w1 r1) (fun f => f))).trans r1
        simp +contextual (disch := omega) only [↓AM, ↓AV, AP, CQ, CN, CB, i64, t0, n7, t3, ue3, r3, gO3, hij2, ul, us]
        have f3 : Fm No hC h3 := f1.trans f13 fun _ _ f => f
        have w4 : Wf (h3.put hC.size ⟨j3 (O.set (i + j) ((e + p * q + cy) % 16777216)), .own⟩) := w3.put (w3.lt gO3)
        refine ⟨Y.length + 1 - (j + 1), ?_, w4, f3.put (fun hx => by omega), (get_put (by omega)).trans gX3, O.set (i + j) ((e + p * q + cy) % 16777216), ?_, ?_, ?_, j + 1, (e + p * q + cy) / 16777216, by omega, ?_, rfl, by omega, ?_, ?_, rfl⟩
        · omega
        · first | rfl | exact gput
        · simp [hOl]
        · exact hOd.set (Nat.mod_lt _ (by decide))
        · intro e; omega
        · exact val
        · intro k h1 h2 h3
          rw [List.getElem?_set_ne (by omega)]
          exact hz k h1 (by omega) (by simpa using h3)
      · have hc0 := hcond hjn
        simp +contextual (disch := omega) only [↓AM, ↓AV, AP, CQ, CN, CB, i64, s0, s1, s3, n1, hjn, hc0, hin, p1, r1, ue1, hij2]
        refine (c_bdigit (i := j) (lb.rd.keepW w fh1 nNo) (by omega)).use ?_
        rintro _ h3 w3 ⟨rfl, f13⟩
        rw [hq]
        obtain ⟨q6, q7, q8⟩ := rds h3 (f1.trans f13 fun _ _ f => f)
        have t0 := rd_mk q6 (i := 1)
        have n7 : h3.rdN hA.size 0 2 = some [.bool g2, .slice b Y.length d] := rdN_mk q7 (by simp)
        have gO3 := f13.keep w1 gO (fun f => f)
        have gX3 := f13.keep w1 gX (fun f => f)
        have t3 := rd_mk gX3 (i := 1)
        have ue3 := (rd_mk gO3 (i := i + j)).trans ue
        have r3 := (rd_keep (f13.get b1 (rd_lt w1 r1) (fun f => f))).trans r1
        simp +contextual (disch := omega) only [↓AM, ↓AV, AP, CQ, CN, CB, i64, t0, n7, t3, ue3, r3, gO3, hij2, ul, us]
        have f3 : Fm No hC h3 := f1.trans f13 fun _ _ f => f
        have w4 : Wf (h3.put hC.size ⟨j3 (O.set (i + j) ((e + p * q + cy) % 16777216)), .own⟩) := w3.put (w3.lt gO3)
        refine ⟨Y.length + 1 - (j + 1), ?_, w4, f3.put (fun hx => by omega), (get_put (by omega)).trans gX3, O.set (i + j) ((e + p * q + cy) % 16777216), ?_, ?_, ?_, j + 1, (e + p * q + cy) / 16777216, by omega, ?_, rfl, by omega, ?_, ?_, rfl⟩
        · omega
        · first | rfl | exact gput
        · simp [hOl]
        · exact hOd.set (Nat.mod_lt _ (by decide))
        · intro e2
          have hj2 : j = Y.length := by omega
          have he0 : e = 0 := by
            have := hz (i + j) (by omega) (by omega) hij
            rw [he] at this
            exact Option.some.inj this
          have hq0 : q = 0 := by rw [← hq, List.getD_eq_getElem?_getD, List.getElem?_eq_none (by omega)]; rfl
          subst he0 hq0
          rw [Nat.mul_zero]
          omega
        · exact val
        · intro k h1 h2 h3
          rw [List.getElem?_set_ne (by omega)]
          exact hz k h1 (by omega) (by simpa using h3)
  · have hiX : i = X.length := by omega
    subst hiX
    have fh1 := fC.trans f1 fun _ _ f => f
    have s4 := rd_mk q0 (i := 0)
    have s5 := rd_mk q1 (i := 0)
    obtain ⟨h2, hh2⟩ : ∃ g, h1.put hD.size ⟨[.bool (g1 != g2), .slice (some ⟨hC.size, 0, none⟩) (X.length + Y.length) (X.length + Y.length)], .own⟩ = g := ⟨_, rfl⟩
    have hD1 := w1.lt gX
    have w2 : Wf h2 := hh2 ▸ w1.put hD1
    have f2 : Fm No hC h2 := hh2 ▸ f1.put fun hx => by omega
    have gO2 : h2.get hC.size = some ⟨j3 O, .own⟩ := hh2 ▸ (get_put (by omega)).trans gO
    have y2 : h2.rdN hD.size 0 2 = some [.bool (g1 != g2), .slice (some ⟨hC.size, 0, none⟩) (X.length + Y.length) (X.length + Y.length)] := by rw [← hh2]; exact rdN_mk gput (by simp)
    simp +contextual (disch := omega) only [↓AM, ↓AV, AP, CQ, CN, CB, i64, s0, s1, s3, hin, s4, s5, gX, hh2, y2]
    have lm := em_own gO2 hOd
    rw [hOl] at lm
    refine (c_btrim lm (by omega) (by rintro _ ⟨rfl⟩; rfl) (by simp)).use ?_
    rintro _ h3 w3 ⟨l, f3⟩
    rw [hv, List.take_of_length_le (Nat.le_refl _), hval] at l
    obtain ⟨u, rfl, l⟩ := l
    obtain ⟨q6, q7, q8⟩ := rds h3 (f2.trans f3 fun _ _ f => f)
    obtain ⟨h4, hh4⟩ : ∃ g, h3.put hB.size ⟨[.bool ((g1 != g2) && decide (0 < x * y)), u], .own⟩ = g := ⟨_, rfl⟩
    have y4 : h4.rdN hB.size 0 2 = some [.bool ((g1 != g2) && decide (0 < x * y)), u] := by rw [← hh4]; exact rdN_mk gput (by simp)
    obtain ⟨oa2, c2, rfl, l, hS⟩ := l
    simp +contextual (disch := omega) only [↓AM, ↓AV, AP, CQ, CN, CB, i64, q8, hh4, y4]
    have fp : Fm (fun x => x = hB.size) h3 h4 := hh4 ▸ Fm.put Fm.refl fun _ => rfl
    have f03 := (fC.trans f2 fun _ _ f => f).trans f3 fun _ _ f => f
    have := f2.size
    exact ⟨⟨_, rfl, oa2, c2, rfl, ⟨l.rd.keep w3 fp fun x hx e => by have := hS x hx; omega, l.le, l.dl, l.fl, l.nl⟩, fun z hz => by have := hS z hz; omega⟩, f03.trans fp fun x hx e => by omega⟩
end Go.Proofs.Ytikbdeobghoglaa.Nu

/- Frames: the boxes of a function's own variables, through calls and stores. Plain theorems over the abstract machine.
   Conditions: none. -/
namespace Go.Proofs.Ytikbdeobghoglaa.Nu
open Go Go.RowKit Go.Proofs.Ytikbdeobghoglaa.Am Go.Proofs.Ytikbdeobghoglaa.Af Go.Proofs.Ytikbdeobghoglaa.Md
set_option linter.unusedVariables false
set_option linter.unusedSimpArgs false
set_option linter.defProp false
set_option maxRecDepth 20000
set_option maxHeartbeats 1000000

/-- Digits stay. -/
def Kp (h h' : Hp) : Prop := ∀ oa n c M, Em h oa n c M → Em h' oa n c M
theorem Kp.refl {h : Hp} : Kp h h := fun _ _ _ _ l => l
theorem Kp.trans {a b c : Hp} (x : Kp a b) (y : Kp b c) : Kp a c := fun _ _ _ _ l => y _ _ _ _ (x _ _ _ _ l)
theorem Kp.fm {h h' : Hp} (w : Wf h) (fm : Fm No h h') : Kp h h' := fun _ _ _ _ l => ⟨l.rd.keepW w fm nNo, l.le, l.dl, l.fl, l.nl⟩
theorem Kp.put {h : Hp} {b : Nat} {cs cs' : List Value} (w : Wf h) (hg : h.get b = some ⟨cs, .own⟩) (hs : St cs) (hl : cs'.length = cs.length) : Kp h (h.put b ⟨cs', .own⟩) := fun oa n c M l => by
  refine ⟨⟨l.rd.len, l.rd.nil, fun a ha => ?_⟩, l.le, l.dl, l.fl, l.nl⟩
  rcases l.rd.at_ a ha with ⟨h1, h2⟩ | h3
  · refine .inl ⟨h1, ?_⟩
    rcases Classical.em (a.block = b) with f | f
    · obtain ⟨ob, g1, g2, g3⟩ := rdN_of h2
      rw [f, hg] at g1
      cases g1
      have hM : M = [] := by
        cases M with
        | nil => rfl
        | cons d M =>
          exfalso
          have hn : (d :: M).length = n := l.len
          have g2 : a.off + n * 1 ≤ cs.length := g2
          have hlen : 0 < n := by rw [← hn]; simp
          have := congrArg (·[0]?) g3
          have e : (j3 (d :: M))[0]? = some (.int .i64 (d : Int)) := rfl
          simp only [e, List.getElem?_take, List.getElem?_drop, Nat.mul_one, hlen, if_true, Nat.add_zero] at this
          exact hs _ _ _ this.symm
      have hn : n = 0 := by have := l.len; rw [hM] at this; simpa using this.symm
      subst hM hn
      have g2 : a.off + 0 * 1 ≤ cs.length := g2
      rw [f, rdN_mk gput (by show a.off + 0 * 1 ≤ cs'.length; omega)]
      simp [j3]
    · rw [rdN_keep (get_put f)]; exact h2
  · exact .inr h3
/-- What is known of a box. -/
def Fact (h : Hp) (b : Nat) : List Value → Prop
  | [x, y] => h.get b = some ⟨[x, y], .own⟩ ∧ (∀ i, h.rd b i = ([x, y] : List Value)[i]?) ∧ h.rdN b 0 2 = some [x, y]
  | [x, y, z, u] => h.get b = some ⟨[x, y, z, u], .own⟩ ∧ (∀ i, h.rd b i = ([x, y, z, u] : List Value)[i]?) ∧ h.rdN b 0 4 = some [x, y, z, u] ∧ h.rdN b 0 2 = some [x, y] ∧ h.rdN b 2 2 = some [z, u]
  | cs => h.get b = some ⟨cs, .own⟩ ∧ (∀ i, h.rd b i = cs[i]?)
theorem fact_of {h : Hp} {b : Nat} {cs : List Value} (hg : h.get b = some ⟨cs, .own⟩) : Fact h b cs := by
  unfold Fact
  split
  · exact ⟨hg, fun i => rd_mk hg, rdN_mk hg (by simp)⟩
  · exact ⟨hg, fun i => rd_mk hg, rdN_mk hg (by simp), rdN_mk hg (by simp), rdN_mk hg (by simp)⟩
  · exact ⟨hg, fun i => rd_mk hg⟩
def Facts (h : Hp) : List (Nat × List Value) → Prop
  | [] => True
  | (b, cs) :: r => Fact h b cs ∧ Facts h r
/-- A frame: boxes of one's own, made since the beginning. -/
structure Fr (h0 h : Hp) (l : List (Nat × List Value)) : Prop where
  wf : Wf h
  fm : Fm No h0 h
  get : ∀ b cs, (b, cs) ∈ l → h0.size ≤ b ∧ h.get b = some ⟨cs, .own⟩ ∧ St cs
  nd : (l.map (·.1)).Nodup
theorem Fr.mk0 {h : Hp} (w : Wf h) : Fr h h [] := ⟨w, Fm.refl, (fun b cs hb => by cases hb), by simp⟩
theorem Fr.facts {h0 h : Hp} : ∀ {l : List (Nat × List Value)}, Fr h0 h l → Facts h l
  | [], _ => trivial
  | (b, cs) :: r, F => ⟨fact_of (F.get b cs (by simp)).2.1, Fr.facts (l := r) ⟨F.wf, F.fm, fun b' c' hb => F.get b' c' (by simp [hb]), by have := F.nd; rw [List.map_cons, List.nodup_cons] at this; exact this.2⟩⟩
theorem Fr.new {h0 h : Hp} {l : List (Nat × List Value)} (F : Fr h0 h l) (cs : List Value) (hs : St cs) : ∃ h' b, h.new ⟨cs, .own⟩ = h' ∧ h.size = b ∧ Fr h0 h' ((b, cs) :: l) ∧ Kp h h' ∧ Fm No h h' ∧ h0.size ≤ b ∧ b < h'.size := by
  have fm : Fm No h (h.new ⟨cs, .own⟩) := Fm.new Fm.refl
  refine ⟨_, _, rfl, rfl, ⟨F.wf.new, F.fm.trans fm fun _ _ f => f, fun b c hb => ?_, ?_⟩, Kp.fm F.wf fm, fm, F.fm.size, Nat.lt_succ_self _⟩
  · rcases List.mem_cons.1 hb with e | hb
    · cases e; exact ⟨F.fm.size, gnew, hs⟩
    · obtain ⟨h1, h2, h3⟩ := F.get b c hb
      exact ⟨h1, fm.keep F.wf h2 (fun f => f), h3⟩
  · rw [List.map_cons, List.nodup_cons]
    refine ⟨fun hm => ?_, F.nd⟩
    obtain ⟨⟨b, c⟩, hb, e⟩ := List.mem_map.1 hm
    have := F.wf.lt (F.get b c hb).2.1
    have e : b = h.size := e
    omega
/-- A new object that is no box. -/
theorem Fr.newO {h0 h : Hp} {l : List (Nat × List Value)} (F : Fr h0 h l) (o : Ob) : Fr h0 (h.new o) l ∧ Kp h (h.new o) :=
  have fm : Fm No h (h.new o) := Fm.new Fm.refl
  ⟨⟨F.wf.new, F.fm.trans fm fun _ _ f => f, fun b c hb => ⟨(F.get b c hb).1, fm.keep F.wf (F.get b c hb).2.1 (fun f => f), (F.get b c hb).2.2⟩, F.nd⟩, Kp.fm F.wf fm⟩
theorem Fr.call {h0 h h' : Hp} {l : List (Nat × List Value)} (F : Fr h0 h l) (fm : Fm No h h') (w : Wf h') : Fr h0 h' l ∧ Kp h h' :=
  ⟨⟨w, F.fm.trans fm fun _ _ f => f, fun b c hb => ⟨(F.get b c hb).1, fm.keep F.wf (F.get b c hb).2.1 (fun f => f), (F.get b c hb).2.2⟩, F.nd⟩, Kp.fm F.wf fm⟩
/-- What writes other memory of one's own. -/
theorem Fr.other {h0 h h' : Hp} {l : List (Nat × List Value)} {G : Nat → Prop} (F : Fr h0 h l) (fm : Fm G h h') (w : Wf h') (hG : ∀ x, x < h0.size → ¬ G x) (hl : ∀ b cs, (b, cs) ∈ l → ¬ G b) : Fr h0 h' l :=
  ⟨w, F.fm.trans fm fun x hx g => absurd g (hG x hx), fun b c hb => ⟨(F.get b c hb).1, fm.keep F.wf (F.get b c hb).2.1 (hl b c hb), (F.get b c hb).2.2⟩, F.nd⟩
theorem Fr.putN {h0 h : Hp} {pre : List (Nat × List Value)} {b : Nat} {cs : List Value} {post : List (Nat × List Value)} (F : Fr h0 h (pre ++ (b, cs) :: post)) (cs' : List Value) (hs : St cs') (hl : cs'.length = cs.length) :
    ∃ h', h.put b ⟨cs', .own⟩ = h' ∧ Fr h0 h' (pre ++ (b, cs') :: post) ∧ Kp h h' ∧ Fm (fun x => x = b) h h' := by
  obtain ⟨h1, h2, h3⟩ := F.get b cs (by simp)
  have fm : Fm (fun x => x = b) h (h.put b ⟨cs', .own⟩) := Fm.put Fm.refl fun _ => rfl
  have nd := F.nd
  refine ⟨_, rfl, ⟨F.wf.put (F.wf.lt h2), F.fm.trans fm fun x hx e => by omega, fun b' c' hb => ?_, by simpa using nd⟩, Kp.put F.wf h2 h3 hl, fm⟩
  have ne : ∀ b' c', (b', c') ∈ pre ∨ (b', c') ∈ post → b' ≠ b := by
    rintro b' c' hm rfl
    rw [List.map_append, List.map_cons, List.nodup_append] at nd
    obtain ⟨n1, n2, n3⟩ := nd
    rcases hm with hm | hm
    · exact n3 _ (List.mem_map.2 ⟨_, hm, rfl⟩) _ (by simp) rfl
    · rw [List.nodup_cons] at n2
      exact n2.1 (List.mem_map.2 ⟨_, hm, rfl⟩)
  rcases List.mem_append.1 hb with hb | hb
  · obtain ⟨k1, k2, k3⟩ := F.get b' c' (by simp [hb])
    exact ⟨k1, (get_put (ne b' c' (.inl hb))).trans k2, k3⟩
  · rcases List.mem_cons.1 hb with e | hb
    · cases e; exact ⟨h1, gput, hs⟩
    · obtain ⟨k1, k2, k3⟩ := F.get b' c' (by simp [hb])
      exact ⟨k1, (get_put (ne b' c' (.inr hb))).trans k2, k3⟩
section
variable {h0 h : Hp} {b : Nat} {cs : List Value} {p q r s t u v : Nat × List Value} {l : List (Nat × List Value)}
theorem Fr.put0 (F : Fr h0 h ((b, cs) :: l)) (cs' : List Value) (hs : St cs') (hl : cs'.length = cs.length) : ∃ h', h.put b ⟨cs', .own⟩ = h' ∧ Fr h0 h' ((b, cs') :: l) ∧ Kp h h' ∧ Fm (fun x => x = b) h h' := Fr.putN (pre := []) F cs' hs hl
theorem Fr.put1 (F : Fr h0 h (p :: (b, cs) :: l)) (cs' : List Value) (hs : St cs') (hl : cs'.length = cs.length) : ∃ h', h.put b ⟨cs', .own⟩ = h' ∧ Fr h0 h' (p :: (b, cs') :: l) ∧ Kp h h' ∧ Fm (fun x => x = b) h h' := Fr.putN (pre := [p]) F cs' hs hl
theorem Fr.put2 (F : Fr h0 h (p :: q :: (b, cs) :: l)) (cs' : List Value) (hs : St cs') (hl : cs'.length = cs.length) : ∃ h', h.put b ⟨cs', .own⟩ = h' ∧ Fr h0 h' (p :: q :: (b, cs') :: l) ∧ Kp h h' ∧ Fm (fun x => x = b) h h' := Fr.putN (pre := [p, q]) F cs' hs hl
theorem Fr.put3 (F : Fr h0 h (p :: q :: r :: (b, cs) :: l)) (cs' : List Value) (hs : St cs') (hl : cs'.length = cs.length) : ∃ h', h.put b ⟨cs', .own⟩ = h' ∧ Fr h0 h' (p :: q :: r :: (b, cs') :: l) ∧ Kp h h' ∧ Fm (fun x => x = b) h h' := Fr.putN (pre := [p, q, r]) F cs' hs hl
theorem Fr.put4 (F : Fr h0 h (p :: q :: r :: s :: (b, cs) :: l)) (cs' : List Value) (hs : St cs') (hl : cs'.length = cs.length) : ∃ h', h.put b ⟨cs', .own⟩ = h' ∧ Fr h0 h' (p :: q :: r :: s :: (b, cs') :: l) ∧ Kp h h' ∧ Fm (fun x => x = b) h h' := Fr.putN (pre := [p, q, r, s]) F cs' hs hl
theorem Fr.put5 (F : Fr h0 h (p :: q :: r :: s :: t :: (b, cs) :: l)) (cs' : List Value) (hs : St cs') (hl : cs'.length = cs.length) : ∃ h', h.put b ⟨cs', .own⟩ = h' ∧ Fr h0 h' (p :: q :: r :: s :: t :: (b, cs') :: l) ∧ Kp h h' ∧ Fm (fun x => x = b) h h' := Fr.putN (pre := [p, q, r, s, t]) F cs' hs hl
theorem Fr.put6 (F : Fr h0 h (p :: q :: r :: s :: t :: u :: (b, cs) :: l)) (cs' : List Value) (hs : St cs') (hl : cs'.length = cs.length) : ∃ h', h.put b ⟨cs', .own⟩ = h' ∧ Fr h0 h' (p :: q :: r :: s :: t :: u :: (b, cs') :: l) ∧ Kp h h' ∧ Fm (fun x => x = b) h h' := Fr.putN (pre := [p, q, r, s, t, u]) F cs' hs hl
theorem Fr.put7 (F : Fr h0 h (p :: q :: r :: s :: t :: u :: v :: (b, cs) :: l)) (cs' : List Value) (hs : St cs') (hl : cs'.length = cs.length) : ∃ h', h.put b ⟨cs', .own⟩ = h' ∧ Fr h0 h' (p :: q :: r :: s :: t :: u :: v :: (b, cs') :: l) ∧ Kp h h' ∧ Fm (fun x => x = b) h h' := Fr.putN (pre := [p, q, r, s, t, u, v]) F cs' hs hl
end
/-- A Big. -/
def Bv (h : Hp) (v : Value) (g : Bool) (x : Nat) : Prop := ∃ oa c, v = .agg #[.bool g, .slice oa (de x).length c] ∧ Em h oa (de x).length c (de x)
theorem Bv.kp {h h' : Hp} {v : Value} {g : Bool} {x : Nat} (l : Bv h v g x) (k : Kp h h') : Bv h' v g x := by
  obtain ⟨oa, c, e, l⟩ := l
  exact ⟨oa, c, e, k _ _ _ _ l⟩
theorem BigV.bv {S : Nat → Prop} {h : Hp} {v : Value} {g : Bool} {x : Nat} (l : BigV S h v g x) : Bv h v g x := by
  obtain ⟨u, rfl, oa, c, rfl, l, _⟩ := l
  exact ⟨oa, c, rfl, l⟩
def Zv (h : Hp) (v : Value) (z : Int) : Prop := Bv h v (decide (z < 0)) z.natAbs
theorem Zv.kp {h h' : Hp} {v : Value} {z : Int} (l : Zv h v z) (k : Kp h h') : Zv h' v z := Bv.kp l k
theorem c_Cmp00 {h : Hp} {u v : Value} {x y : Int} (lx : Zv h u x) (ly : Zv h v y) (hx : (de x.natAbs).length ≤ 1000000) (hy : (de y.natAbs).length ≤ 1000000) :
    ACalls Try.prog 46 [u, v] h fun r h' => r = .int .i64 (if x < y then -1 else if x = y then 0 else 1) ∧ Fm No h h' := by
  refine dioramaref00_Cmp_ok.snd hm rfl fun w => ?_
  rw [WF_eq, dioramaref00_Cmp]
  obtain ⟨a, c, rfl, la⟩ := lx
  obtain ⟨b, d, rfl, lb⟩ := ly
  obtain ⟨hA, bA, eA, uA, F, k1, -, -, -⟩ := (Fr.mk0 w).new _ (st2 (b := decide (x < 0)) (oa := a) (n := (de x.natAbs).length) (c := c))
  obtain ⟨hB, bB, eB, uB, F, k2, -, -, -⟩ := F.new _ (st2 (b := decide (y < 0)) (oa := b) (n := (de y.natAbs).length) (c := d))
  obtain ⟨⟨g1, r1, n1⟩, ⟨g2, r2, n2⟩, -⟩ := F.facts
  have k := k1.trans k2
  have la := k _ _ _ _ la
  have lb := k _ _ _ _ lb
  have e_t : (true != true) = false := rfl
  have e_f : (false != false) = false := rfl
  have e_tf : (true != false) = true := rfl
  have e_ft : (false != true) = true := rfl
  have dt : ∀ {p : Prop} [Decidable p], p → decide p = true := fun h => decide_eq_true h
  have df : ∀ {p : Prop} [Decidable p], ¬ p → decide p = false := fun h => decide_eq_false h
  by_cases hx0 : x < 0 <;> by_cases hy0 : y < 0
  · have d1 := dt hx0
    have d2 := dt hy0
    simp only [d1, d2] at eA eB r1 r2 n1 n2 ⊢
    simp +contextual (disch := omega) only [↓AM, ↓AV, AP, CQ, eA, uA, eB, uB, r1, r2, n1, n2, e_t, e_f, e_tf, e_ft]
    refine (c_bsize lb la hy hx).use ?_
    rintro _ h' w' ⟨rfl, fm⟩
    simp +contextual (disch := omega) only [↓AM, ↓AV, AP, CQ]
    refine ⟨?_, F.fm.trans fm fun _ _ f => f⟩
    congr 1
    by_cases hxy : x < y
    · rw [if_pos hxy, if_pos (by omega)]
    · rw [if_neg hxy, if_neg (by omega)]
      by_cases he : x = y
      · rw [if_pos he, if_pos (by omega)]
      · rw [if_neg he, if_neg (by omega)]
  · have d1 := dt hx0
    have d2 := df hy0
    simp only [d1, d2] at eA eB r1 r2 n1 n2 ⊢
    simp +contextual (disch := omega) only [↓AM, ↓AV, AP, CQ, eA, uA, eB, uB, r1, r2, n1, n2, e_t, e_f, e_tf, e_ft]
    exact ⟨by rw [if_pos (by omega)], F.fm⟩
  · have d1 := df hx0
    have d2 := dt hy0
    simp only [d1, d2] at eA eB r1 r2 n1 n2 ⊢
    simp +contextual (disch := omega) only [↓AM, ↓AV, AP, CQ, eA, uA, eB, uB, r1, r2, n1, n2, e_t, e_f, e_tf, e_ft]
    exact ⟨by rw [if_neg (by omega), if_neg (by omega)], F.fm⟩
  · have d1 := df hx0
    have d2 := df hy0
    simp only [d1, d2] at eA eB r1 r2 n1 n2 ⊢
    simp +contextual (disch := omega) only [↓AM, ↓AV, AP, CQ, eA, uA, eB, uB, r1, r2, n1, n2, e_t, e_f, e_tf, e_ft]
    refine (c_bsize la lb hx hy).use ?_
    rintro _ h' w' ⟨rfl, fm⟩
    simp +contextual (disch := omega) only [↓AM, ↓AV, AP, CQ]
    refine ⟨?_, F.fm.trans fm fun _ _ f => f⟩
    congr 1
    by_cases hxy : x < y
    · rw [if_pos hxy, if_pos (by omega)]
    · rw [if_neg hxy, if_neg (by omega)]
      by_cases he : x = y
      · rw [if_pos he, if_pos (by omega)]
      · rw [if_neg he, if_neg (by omega)]
end Go.Proofs.Ytikbdeobghoglaa.Nu

/- The Big numbers of the document: shifted, times a digit. Plain theorems over the abstract machine.
   Conditions: none. -/
namespace Go.Proofs.Ytikbdeobghoglaa.Nu
open Go Go.RowKit Go.Proofs.Ytikbdeobghoglaa.Am Go.Proofs.Ytikbdeobghoglaa.Af Go.Proofs.Ytikbdeobghoglaa.Md
set_option linter.unusedVariables false
set_option linter.unusedSimpArgs false
set_option linter.defProp false
set_option maxRecDepth 20000
set_option maxHeartbeats 1000000

theorem Bv.em {h : Hp} {v : Value} {g : Bool} {x : Nat} (l : Bv h v g x) : ∃ oa c, v = .agg #[.bool g, .slice oa (de x).length c] ∧ Em h oa (de x).length c (de x) := l
/-- A Big in blocks of a kind. -/
def Bs (S : Nat → Prop) (h : Hp) (v : Value) (g : Bool) (x : Nat) : Prop := ∃ oa c, v = .agg #[.bool g, .slice oa (de x).length c] ∧ Em h oa (de x).length c (de x) ∧ ∀ z, At oa z → S z
theorem BigV.bs {S : Nat → Prop} {h : Hp} {v : Value} {g : Bool} {x : Nat} (l : BigV S h v g x) : Bs S h v g x := by
  obtain ⟨u, rfl, oa, c, rfl, l, s⟩ := l
  exact ⟨oa, c, rfl, l, s⟩
theorem Bs.bv {S : Nat → Prop} {h : Hp} {v : Value} {g : Bool} {x : Nat} (l : Bs S h v g x) : Bv h v g x := by
  obtain ⟨oa, c, e, l, _⟩ := l
  exact ⟨oa, c, e, l⟩
theorem Bs.kp {S : Nat → Prop} {h h' : Hp} {v : Value} {g : Bool} {x : Nat} (l : Bs S h v g x) (k : Kp h h') : Bs S h' v g x := by
  obtain ⟨oa, c, e, l, s⟩ := l
  exact ⟨oa, c, e, k _ _ _ _ l, s⟩
theorem c_times {h : Hp} {a : Option Addr} {c x d : Nat} {g : Bool} (la : Em h a (de x).length c (de x)) (hx : (de x).length ≤ 100) (hd : d < 16777216) :
    ACalls Try.prog 139 [.agg #[.bool g, .slice a (de x).length c], .int .i64 (d : Int)] h fun v h' => Bs (fun z => h.size ≤ z) h' v false (x * d) ∧ Fm No h h' := by
  refine dioramaref00_times_ok.snd hm rfl fun w => ?_
  rw [WF_eq, dioramaref00_times]
  obtain ⟨hA, bA, eA, uA, F, k1, -, -, -⟩ := (Fr.mk0 w).new _ (st2 (b := g) (oa := a) (n := (de x).length) (c := c))
  obtain ⟨hB, bB, eB, uB, F, k2, -, -, -⟩ := F.new _ (st2 (b := false) (oa := none) (n := 0) (c := 0))
  obtain ⟨⟨g1, r1, n1⟩, ⟨g2, r2, n2⟩, -⟩ := F.facts
  have la := (k1.trans k2) _ _ _ _ la
  simp +contextual (disch := omega) only [↓AM, ↓AV, AP, CQ, eA, uA, eB, uB, r1, r2, n1, n2]
  refine (c_bOf (z := (d : Int)) (by omega)).use ?_
  rintro _ h1 w1 ⟨l, fm⟩
  obtain ⟨F1, k3⟩ := F.call fm w1
  obtain ⟨b, e, rfl, lb⟩ := l.bv.em
  obtain ⟨⟨g3, r3, n3⟩, ⟨g4, r4, n4⟩, -⟩ := F1.facts
  have hd' : (d : Int).natAbs = d := by omega
  rw [hd'] at lb ⊢
  have hdl : (de d).length ≤ 1 := de_len (by rw [Nat.pow_one]; exact hd)
  simp +contextual (disch := omega) only [↓AM, ↓AV, AP, CQ, eA, uA, eB, uB, r3, r4, n3, n4]
  refine (c_bMul (k3 _ _ _ _ la) lb (by omega) (by omega)).use ?_
  rintro _ h2 w2 ⟨l, fm2⟩
  obtain ⟨F2, k4⟩ := F1.call fm2 w2
  have e0 : ((false != decide ((d : Int) < 0)) && decide (0 < x * d)) = false := by rw [decide_eq_false (show ¬ ((d : Int) < 0) by omega)]; rfl
  rw [e0] at l
  obtain ⟨p, q, rfl, lp, sp⟩ := l.bs
  obtain ⟨h3, e3, F3, k5, -⟩ := F2.put0 [.bool false, .slice p (de (x * d)).length q] st2 rfl
  obtain ⟨⟨g5, r5, n5⟩, ⟨g6, r6, n6⟩, -⟩ := F2.facts
  obtain ⟨⟨g7, r7, n7⟩, -⟩ := F3.facts
  simp +contextual (disch := omega) only [↓AM, ↓AV, AP, CQ, eA, uA, eB, uB, g5, r6, e3, n7]
  exact ⟨⟨p, q, rfl, k5 _ _ _ _ lp, fun z hz => by have := F1.fm.size; have := sp z hz; omega⟩, F3.fm⟩
theorem c_shifted {h : Hp} {a : Option Addr} {c x d : Nat} {g : Bool} (la : Em h a (de x).length c (de x)) (hx : (de x).length ≤ 1000) (hd : d < 16777216) :
    ACalls Try.prog 138 [.agg #[.bool g, .slice a (de x).length c], .int .i64 (d : Int)] h fun v h' => Bs (fun z => h.size ≤ z) h' v false (d + 16777216 * x) ∧ Fm No h h' := by
  refine dioramaref00_shifted_ok.snd hm rfl fun w => ?_
  rw [WF_eq, dioramaref00_shifted]
  obtain ⟨hA, bA, eA, uA, F, k1, -, -, -⟩ := (Fr.mk0 w).new _ (st2 (b := g) (oa := a) (n := (de x).length) (c := c))
  obtain ⟨hB, bB, eB, uB, F, k2, -, -, -⟩ := F.new _ (st2 (b := false) (oa := none) (n := 0) (c := 0))
  obtain ⟨hC, hhC⟩ : ∃ g, hB.new ⟨[.int .i64 (d : Int)], .own⟩ = g := ⟨_, rfl⟩
  obtain ⟨FC, k3⟩ := F.newO ⟨[.int .i64 (d : Int)], .own⟩
  rw [hhC] at FC k3
  obtain ⟨hX, bD, eD, uD, FX, kX, fmX, -, -⟩ := FC.new _ (st2 (b := false) (oa := none) (n := 0) (c := 0))
  obtain ⟨⟨gX, rX, nX⟩, -⟩ := FX.facts
  obtain ⟨hD, eX, FD, kD, fmD⟩ := FX.put0 [.bool false, .slice (some ⟨hB.size, 0, none⟩) 1 1] st2 rfl
  have k4 := kX.trans kD
  obtain ⟨⟨g0, r0, n0⟩, ⟨g1, r1, n1⟩, ⟨g2, r2, n2⟩, -⟩ := FD.facts
  have la := (((k1.trans k2).trans k3).trans k4) _ _ _ _ la
  have hsrc := la.rd.src (c := c)
  have ow : Ow hD 1 (some ⟨hB.size, 0, none⟩) 1 1 [.int .i64 (d : Int)] := by
    have o0 : Ow hC 1 (some ⟨hB.size, 0, none⟩) 1 1 [.int .i64 (d : Int)] := hhC ▸ Ow.new (n := 1) (m := 1) rfl (Nat.le_refl _)
    have hBD : hB.size < bD := by rw [← uD, ← hhC]; exact Nat.lt_succ_self _
    exact (o0.keep FC.wf fmX fun _ _ f => f).keep FX.wf fmD fun z hz f => by rw [At.some] at hz; have hz : hB.size = z := hz; omega
  simp +contextual (disch := omega) only [↓AM, ↓AV, AP, CQ, eA, uA, eB, uB, hhC, eD, uD, gX, eX, r0, r1, r2, hsrc]
  refine Ow.add (m := (de x).length) FD.wf ow ?_ ?_ fun oa' cap' h2 o2 w2 f2 n2 => ?_
  · rw [j3_len, Nat.mul_one]
  · omega
  have hBD : hB.size < bD := by rw [← uD, ← hhC]; exact Nat.lt_succ_self _
  have F2 : Fr h h2 _ := FD.other f2 w2 (fun z hz hat => by rw [At.some] at hat; have := F.fm.size; have : hB.size = z := hat; omega) (fun b cs hb hat => by
    rw [At.some] at hat
    have hat : hB.size = b := hat
    rcases List.mem_cons.1 hb with e | hb
    · cases e; omega
    · have := F.wf.lt (F.get b cs hb).2.1
      omega)
  obtain ⟨h3, e3, F3, k5, f3⟩ := F2.put0 [.bool false, .slice oa' (1 + (de x).length) cap'] st2 rfl
  obtain ⟨⟨g3, r3, n3⟩, -⟩ := F2.facts
  obtain ⟨⟨g4, r4, n4⟩, -⟩ := F3.facts
  have nn : ∀ z, At oa' z → h.size ≤ z ∧ z ≠ bD := fun z hz => by
    rcases n2 z hz with h | h
    · rw [At.some] at h
      have h : hB.size = z := h
      have := F.fm.size
      omega
    · have := FD.wf.lt g0
      have := FD.fm.size
      omega
  have em : Em h3 oa' (1 + (de x).length) cap' (d :: de x) := ⟨(o2.keep w2 f3 fun z hz e => (nn z hz).2 e).rd, o2.le, fun z hz => by
    rcases List.mem_cons.1 hz with rfl | hz
    · exact hd
    · exact la.dl z hz, o2.flag, o2.nil⟩
  simp +contextual (disch := omega) only [↓AM, ↓AV, AP, CQ, eA, uA, eB, uB, hhC, eD, uD, gX, eX, g3, e3, n4]
  refine (c_btrim em (by omega) ?_ o2.nil).use ?_
  · rintro ad rfl
    obtain ⟨_, _, _, _, _, _, hs⟩ := o2.at_ _ rfl
    rcases hs with hs | ⟨hs, _⟩ <;> rw [hs] <;> rfl
  have hsv : vL B24 (d :: de x) = d + 16777216 * x := by show d + B24 * vL B24 (de x) = _; rw [de_val]
  rw [hsv]
  rintro _ h4 w4 ⟨l, fm4⟩
  obtain ⟨F4, k6⟩ := F3.call fm4 w4
  obtain ⟨p, q, rfl, lp, sp⟩ := l.bs
  obtain ⟨h5, e5, F5, k7, -⟩ := F4.put1 [.bool false, .slice p (de (d + 16777216 * x)).length q] st2 rfl
  obtain ⟨-, ⟨g5, r5, n5⟩, -⟩ := F4.facts
  obtain ⟨-, ⟨g7, r7, n7⟩, -⟩ := F5.facts
  have e0 : (false && decide (0 < d + 16777216 * x)) = false := rfl
  simp +contextual (disch := omega) only [↓AM, ↓AV, AP, CQ, eA, uA, eB, uB, hhC, eD, uD, gX, eX, e0, g5, e5, n7]
  exact ⟨⟨p, q, rfl, k7 _ _ _ _ lp, fun z hz => by have := F3.fm.size; have := sp z hz; omega⟩, F5.fm⟩
end Go.Proofs.Ytikbdeobghoglaa.Nu

/- The Big numbers of the document: divided. Plain theorems over the abstract machine.
   Conditions: none. -/
namespace Go.Proofs.Ytikbdeobghoglaa.Nu
open Go Go.RowKit Go.Proofs.Ytikbdeobghoglaa.Am Go.Proofs.Ytikbdeobghoglaa.Af Go.Proofs.Ytikbdeobghoglaa.Md
set_option linter.unusedVariables false
set_option linter.unusedSimpArgs false
set_option linter.defProp false
set_option maxRecDepth 20000
set_option maxHeartbeats 1000000

theorem Em.off {h h' : Hp} {oa : Option Addr} {n c b : Nat} {M : List Nat} (l : Em h oa n c M) (w : Wf h) (f : Fm (fun x => x = b) h h') (ne : ∀ z, At oa z → z ≠ b) : Em h' oa n c M :=
  ⟨l.rd.keep w f ne, l.le, l.dl, l.fl, l.nl⟩
theorem cmp_le {u s : Nat} : ((if u < s then (-1 : Int) else if u = s then 0 else 1) ≤ 0) = (u ≤ s) := by
  by_cases h1 : u < s
  · rw [if_pos h1]; simp; omega
  · rw [if_neg h1]
    by_cases h2 : u = s
    · rw [if_pos h2]; simp; omega
    · rw [if_neg h2]; simp; omega
theorem search_end {lo y s : Nat} (hy : 0 < y) (h1 : y * lo ≤ s) (h2 : s < y * (lo + 1)) : lo = s / y ∧ s - y * lo = s % y := by
  have e : s / y = lo := by
    rw [Nat.mul_comm] at h1 h2
    exact Nat.div_eq_of_lt_le h1 h2
  refine ⟨e.symm, ?_⟩
  have := Nat.mod_add_div s y
  rw [e] at this
  omega
theorem c_DivMod {h : Hp} {a b : Option Addr} {c d x y : Nat} {g1 g2 : Bool} (la : Em h a (de x).length c (de x)) (lb : Em h b (de y).length d (de y)) (hx : (de x).length ≤ 90) (hy : (de y).length ≤ 90) (hy0 : 0 < y) :
    ACalls Try.prog 121 [.agg #[.bool g1, .slice a (de x).length c], .agg #[.bool g2, .slice b (de y).length d]] h fun res h' => ∃ u v, res = .tuple #[u, v] ∧
      Bv h' u ((g1 != g2) && decide (0 < (if (g1 != g2) = true ∧ 0 < x % y then x / y + 1 else x / y))) (if (g1 != g2) = true ∧ 0 < x % y then x / y + 1 else x / y) ∧
      Bv h' v (g2 && decide (0 < (if (g1 != g2) = true ∧ 0 < x % y then y - x % y else x % y))) (if (g1 != g2) = true ∧ 0 < x % y then y - x % y else x % y) ∧ Fm No h h' := by
  refine dioramaref00_DivMod_ok.snd hm rfl fun w => ?_
  rw [WF_eq, dioramaref00_DivMod]
  have xval : vL B24 (de x) = x := de_val x
  generalize hX : de x = X at *
  have zl : ∀ k, vL B24 ((List.replicate X.length 0).drop k) = 0 := fun k => by rw [List.drop_replicate]; exact vL_zeros _ _
  have hyB : y < B24 ^ (de y).length := by have := vL_lt (de_dl y); rwa [de_val] at this
  obtain ⟨hA, bA, eA, uA, FA, -, -, -, lA⟩ := (Fr.mk0 w).new _ (st2 (b := g1) (oa := a) (n := X.length) (c := c))
  obtain ⟨hB, bB, eB, uB, FB, -, -, -, lB⟩ := FA.new _ (st2 (b := g2) (oa := b) (n := (de y).length) (c := d))
  obtain ⟨h4, b4, e4, u4, F4, -, -, -, l4⟩ := FB.new _ (st2 (b := false) (oa := none) (n := 0) (c := 0))
  obtain ⟨h5, b5, e5, u5, F5, -, -, -, l5⟩ := F4.new _ (st2 (b := false) (oa := none) (n := 0) (c := 0))
  obtain ⟨-, -, ⟨-, rB5, -⟩, -⟩ := F5.facts
  obtain ⟨hD0, bD, eD0, uD, FD0, -, -, -, lD⟩ := F5.new _ (st2 (b := false) (oa := none) (n := 0) (c := 0))
  obtain ⟨⟨gD0, -, -⟩, -, -, ⟨gB0, rB0, -⟩, ⟨gA0, rA0, -⟩, -⟩ := FD0.facts
  obtain ⟨hD, eD1, FD, -, -⟩ := FD0.put0 [.bool false, .slice b (de y).length d] st2 rfl
  obtain ⟨hO, eO⟩ : ∃ g, hD.new ⟨j3 (List.replicate X.length 0), .own⟩ = g := ⟨_, rfl⟩
  obtain ⟨bO, uO⟩ : ∃ g, hD.size = g := ⟨_, rfl⟩
  have gO0 : hO.get bO = some ⟨j3 (List.replicate X.length 0), .own⟩ := by rw [← eO, ← uO]; exact gnew
  obtain ⟨FO, -⟩ := FD.newO ⟨j3 (List.replicate X.length 0), .own⟩
  rw [eO] at FO
  obtain ⟨hQ0, bQ, eQ0, uQ, FQ0, -, fQ0, -, lQ⟩ := FO.new _ (st2 (b := false) (oa := none) (n := 0) (c := 0))
  obtain ⟨⟨gQ0, -, -⟩, -⟩ := FQ0.facts
  obtain ⟨hQ, eQ1, FQ, -, fQ⟩ := FQ0.put0 [.bool false, .slice (some ⟨bO, 0, none⟩) X.length X.length] st2 rfl
  obtain ⟨hR, bR, eR, uR, FR, -, fR, -, lR⟩ := FQ.new _ (st2 (b := false) (oa := none) (n := 0) (c := 0))
  have z1 : hD.size = hD0.size := by rw [← eD1]; rfl
  have z2 : hO.size = hD.size + 1 := by rw [← eO]; rfl
  have z3 : hQ.size = hQ0.size := by rw [← eQ1]; rfl
  have ord : bA < bB ∧ bB < b4 ∧ b4 < b5 ∧ b5 < bD ∧ bD < bO ∧ bO < bQ ∧ bQ < bR := ⟨by omega, by omega, by omega, by omega, by omega, by omega, by omega⟩
  have gO1 : hR.get bO = some ⟨j3 (List.replicate X.length 0), .own⟩ := fR.keep FQ.wf ((fQ.get bO (by have := FO.wf.lt gO0; omega) (by omega)).trans (fQ0.keep FO.wf gO0 (fun f => f))) (fun f => f)
  obtain ⟨-, -, -, -, ⟨-, rD, -⟩, -⟩ := FD.facts
  obtain ⟨-, -, -, -, -, -, ⟨-, rD2, -⟩, -⟩ := FR.facts
  simp +contextual (disch := omega) only [↓AM, ↓AV, AP, CQ, CN, i64, eA, uA, eB, uB, e4, u4, e5, u5, eD0, uD, gD0, eD1, eO, uO, eQ0, uQ, gQ0, eQ1, eR, uR, rD, rB5, rB0, rA0, rep_j3]
  refine ⟨by omega, ?_⟩
  simp +contextual (disch := omega) only [↓AM, ↓AV, AP, CQ, CN, i64, eA, uA, eB, uB, e4, u4, e5, u5, eD0, uD, gD0, eD1, eO, uO, eQ0, uQ, gQ0, eQ1, eR, uR, rD2, rep_j3]
  refine WL.mk (fun k t h' => k ≤ X.length ∧ ∃ Q r ra rc, Fr h h' [(bR, [.bool false, .slice ra (de r).length rc]), (bQ, [.bool false, .slice (some ⟨bO, 0, none⟩) X.length X.length]), (bD, [.bool false, .slice b (de y).length d]), (b5, [.bool false, .slice none 0 0]), (b4, [.bool false, .slice none 0 0]), (bB, [.bool g2, .slice b (de y).length d]), (bA, [.bool g1, .slice a X.length c])] ∧ h'.get bO = some ⟨j3 Q, .own⟩ ∧ Q.length = X.length ∧ Dl B24 Q ∧ r < y ∧ vL B24 (X.drop k) = vL B24 (Q.drop k) * y + r ∧ Em h' ra (de r).length rc (de r) ∧ (∀ z, At ra z → z ≠ bO) ∧
      t = [(2, some (.pointer (some ⟨bA, 0, none⟩))), (3, some (.pointer (some ⟨bB, 0, none⟩))), (4, some (.pointer (some ⟨b4, 0, none⟩))), (5, some (.pointer (some ⟨b5, 0, none⟩))), (6, some (.pointer (some ⟨bD, 0, none⟩))), (7, some (.pointer (some ⟨bQ, 0, none⟩))), (8, some (.pointer (some ⟨bR, 0, none⟩))), (9, some (.int .i64 ((k : Int) - 1)))])
    ⟨X.length, Nat.le_refl _, _, 0, none, 0, (by rw [de_0]; exact FR), gO1, by simp, Dl.zeros24 _, hy0, by rw [zl, List.drop_eq_nil_of_le (Nat.le_refl _)]; simp [vL], by rw [de_0]; exact ⟨Rd.mk0, Nat.le_refl _, (fun d hd => by cases hd), (fun a e => by cases e), (fun _ => rfl)⟩, fun z hz => absurd hz At.none, rfl⟩ ?_
  rintro k t h1 ⟨hk, Q, r, ra, rc, F1, gO, hQl, hQd, hr, hv, lr, rO, rfl⟩
  obtain ⟨⟨g0a, r0a, n0a⟩, ⟨g1a, r1a, n1a⟩, ⟨g2a, r2a, n2a⟩, ⟨g3a, r3a, n3a⟩, ⟨g4a, r4a, n4a⟩, ⟨g5a, r5a, n5a⟩, ⟨g6a, r6a, n6a⟩, -⟩ := F1.facts
  have hrl : (de r).length ≤ 90 := Nat.le_trans (de_len (Nat.lt_trans hr hyB)) hy
  cases k with
  | zero =>
    have e2 : ((0 : Int) ≤ ((0 : Nat) : Int) - 1) = False := by simp
    have hv : x = vL B24 Q * y + r := by rw [← xval]; exact hv
    have v1 : vL B24 Q = x / y := by rw [hv, Nat.mul_comm, Nat.mul_add_div hy0, Nat.div_eq_of_lt hr]; rfl
    have v2 : x % y = r := by rw [hv, Nat.mul_comm, Nat.mul_add_mod, Nat.mod_eq_of_lt hr]
    have lm := em_own gO hQd
    rw [hQl] at lm
    rw [v2]
    have hql : (de (x / y)).length ≤ 90 := by
      have h1 : x < B24 ^ X.length := by have := vL_lt la.dl; rwa [xval] at this
      exact Nat.le_trans (de_len (Nat.lt_of_le_of_lt (Nat.div_le_self x y) h1)) hx
    simp +contextual (disch := omega) only [↓AM, ↓AV, AP, CQ, CN, i64, eA, uA, eB, uB, e4, u4, e5, u5, eD0, uD, gD0, eD1, eO, uO, eQ0, uQ, gQ0, eQ1, eR, uR, e2, r0a, n0a, r1a, n1a, r2a, n2a, r3a, n3a, r4a, n4a, r5a, n5a, r6a, n6a]
    refine (c_btrim lm (by omega) (by rintro _ ⟨rfl⟩; rfl) (by simp)).use ?_
    rintro _ h2 w2 ⟨l2, fm2⟩
    rw [v1] at l2
    obtain ⟨qa, qc, rfl, lq, qS⟩ := l2.bs
    obtain ⟨F2, k2⟩ := F1.call fm2 w2
    obtain ⟨-, ⟨g1b, -, -⟩, -⟩ := F2.facts
    obtain ⟨h3, e3, F3, k3, -⟩ := F2.put1 [.bool false, .slice qa (de (x / y)).length qc] st2 rfl
    have ef : (false && decide (0 < x / y)) = false := rfl
    have lq3 := k3 _ _ _ _ lq
    have lr3 := k3 _ _ _ _ (k2 _ _ _ _ lr)
    obtain ⟨⟨g0c, r0c, n0c⟩, ⟨g1c, r1c, n1c⟩, ⟨g2c, r2c, n2c⟩, ⟨g3c, r3c, n3c⟩, ⟨g4c, r4c, n4c⟩, ⟨g5c, r5c, n5c⟩, ⟨g6c, r6c, n6c⟩, -⟩ := F3.facts
    by_cases hne : (g1 != g2) = true
    · by_cases hr0 : 0 < r
      · have e7 : ((0 : Int) < ((de r).length : Int)) = True := eq_true (by
          have : (de r).length ≠ 0 := fun e => by
            have := dig_nil.1 (List.length_eq_zero_iff.1 e : dig B24 b24 r = [])
            omega
          omega)
        simp +contextual (disch := omega) only [↓AM, ↓AV, AP, CQ, CN, i64, eA, uA, eB, uB, e4, u4, e5, u5, eD0, uD, gD0, eD1, eO, uO, eQ0, uQ, gQ0, eQ1, eR, uR, hne, hr0, e3, g1b, ef, r0c, n0c, r1c, n1c, r2c, n2c, r3c, n3c, r4c, n4c, r5c, n5c, r6c, n6c, e7]
        refine (c_bOf (z := 1) (by decide)).use ?_
        rintro _ h4 w4 ⟨lone, fm4⟩
        obtain ⟨oa1, c1, rfl, l1⟩ := lone.bv
        obtain ⟨F4, k4⟩ := F3.call fm4 w4
        obtain ⟨⟨g0d, r0d, n0d⟩, ⟨g1d, r1d, n1d⟩, ⟨g2d, r2d, n2d⟩, -⟩ := F4.facts
        simp +contextual (disch := omega) only [↓AM, ↓AV, AP, CQ, CN, i64, eA, uA, eB, uB, e4, u4, e5, u5, eD0, uD, gD0, eD1, eO, uO, eQ0, uQ, gQ0, eQ1, eR, uR, hne, hr0, n1d, r1d]
        refine ⟨⟨_, rfl, rfl⟩, ?_⟩
        refine (c_bplus (k4 _ _ _ _ lq3) l1 (by omega) (by have : (de (Int.natAbs 1)).length ≤ 1 := de_len (by decide); omega)).use ?_
        rintro _ h5 w5 ⟨⟨pa, pc, L, rfl, lp, vP, lP, -, -⟩, fm5⟩
        obtain ⟨F5, k5⟩ := F4.call fm5 w5
        obtain ⟨⟨g0k, r0k, n0k⟩, ⟨g1k, r1k, n1k⟩, ⟨g2k, r2k, n2k⟩, -⟩ := F5.facts
        obtain ⟨h6, e6, F6, k6, -⟩ := F5.put1 [.bool false, .slice pa L.length pc] st2 rfl
        obtain ⟨⟨g0l, r0l, n0l⟩, ⟨g1l, r1l, n1l⟩, ⟨g2l, r2l, n2l⟩, -⟩ := F6.facts
        simp +contextual (disch := omega) only [↓AM, ↓AV, AP, CQ, CN, i64, eA, uA, eB, uB, e4, u4, e5, u5, eD0, uD, gD0, eD1, eO, uO, eQ0, uQ, gQ0, eQ1, eR, uR, hne, hr0, g1k, e6, n2l, n0l]
        have lb6 : Em h6 b (de y).length d (de y) := ⟨lb.rd.keepW w F6.fm nNo, lb.le, lb.dl, lb.fl, lb.nl⟩
        refine (c_bminus lb6 (k6 _ _ _ _ (k5 _ _ _ _ (k4 _ _ _ _ lr3))) (by omega) (by omega) (by omega)).use ?_
        rintro _ h7 w7 ⟨lsev, fm7⟩
        obtain ⟨na, nc, rfl, l7⟩ := lsev.bv
        obtain ⟨F7, k7⟩ := F6.call fm7 w7
        obtain ⟨⟨g0m, r0m, n0m⟩, -⟩ := F7.facts
        obtain ⟨h8, e8, F8, k8, -⟩ := F7.put0 [.bool false, .slice na (de (y - r)).length nc] st2 rfl
        have hyr : (de (y - r)).length ≤ 90 := Nat.le_trans (de_len (Nat.lt_of_le_of_lt (Nat.sub_le y r) hyB)) hy
        have lp8 := k8 _ _ _ _ (k7 _ _ _ _ (k6 _ _ _ _ lp))
        have l78 := k8 _ _ _ _ l7
        have vP : vL B24 L = x / y + 1 := vP
        simp +contextual (disch := omega) only [↓AM, ↓AV, AP, CQ, CN, i64, eA, uA, eB, uB, e4, u4, e5, u5, eD0, uD, gD0, eD1, eO, uO, eQ0, uQ, gQ0, eQ1, eR, uR, hne, hr0, g0m, e8]
        obtain ⟨-, ⟨g1d, -, -⟩, -, -, -, ⟨-, r5d, -⟩, ⟨-, r6d, -⟩, -⟩ := F8.facts
        obtain ⟨hY, eY, FY, kY, -⟩ := F8.put1 [.bool true, .slice pa L.length pc] st2 rfl
        obtain ⟨⟨g0e, -, -⟩, -, -, -, -, ⟨-, r5e, -⟩, ⟨-, r6e, -⟩, -⟩ := FY.facts
        obtain ⟨hZ, eZ, FZ, kZ, -⟩ := FY.put0 [.bool g2, .slice na (de (y - r)).length nc] st2 rfl
        have lqZ := kZ _ _ _ _ (kY _ _ _ _ lp8)
        have lrZ := kZ _ _ _ _ (kY _ _ _ _ l78)
        obtain ⟨⟨-, r0f, n0f⟩, ⟨-, r1f, n1f⟩, -⟩ := FZ.facts
        simp +contextual (disch := omega) only [↓AM, ↓AV, AP, CQ, CN, i64, eA, uA, eB, uB, e4, u4, e5, u5, eD0, uD, gD0, eD1, eO, uO, eQ0, uQ, gQ0, eQ1, eR, uR, hne, hr0, e8, g1d, r5d, r6d, eY, g0e, r5e, r6e, eZ, r0f, n0f, r1f, n1f]
        refine (c_btrim lqZ (by omega) lqZ.fl lqZ.nl).use ?_
        rintro _ hU wU ⟨lU, fmU⟩
        rw [vP] at lU
        obtain ⟨FU, kU⟩ := FZ.call fmU wU
        obtain ⟨⟨-, r0g, n0g⟩, -⟩ := FU.facts
        simp +contextual (disch := omega) only [↓AM, ↓AV, AP, CQ, CN, i64, eA, uA, eB, uB, e4, u4, e5, u5, eD0, uD, gD0, eD1, eO, uO, eQ0, uQ, gQ0, eQ1, eR, uR, hne, hr0, r0g, n0g]
        refine ⟨⟨_, rfl, rfl⟩, ?_⟩
        refine (c_btrim (kU _ _ _ _ lrZ) (by omega) lrZ.fl lrZ.nl).use ?_
        rintro _ hV wV ⟨lV, fmV⟩
        rw [de_val] at lV
        obtain ⟨FV, kV⟩ := FU.call fmV wV
        obtain ⟨ua, uc, rfl, lu⟩ := lU.bv
        obtain ⟨va, vc, rfl, lv⟩ := lV.bv
        obtain ⟨-, -, -, -, ⟨g4h, -, -⟩, -⟩ := FV.facts
        obtain ⟨hW, eW, FW, kW, -⟩ := FV.put4 [.bool (true && decide (0 < (x / y + 1))), .slice ua (de (x / y + 1)).length uc] st2 rfl
        obtain ⟨-, -, -, ⟨g3i, -, -⟩, -⟩ := FW.facts
        obtain ⟨hL, eL, FL, kL, -⟩ := FW.put3 [.bool (g2 && decide (0 < (y - r))), .slice va (de (y - r)).length vc] st2 rfl
        obtain ⟨-, -, -, ⟨-, -, n3j⟩, ⟨-, -, n4j⟩, -⟩ := FL.facts
        simp +contextual (disch := omega) only [↓AM, ↓AV, AP, CQ, CN, i64, eA, uA, eB, uB, e4, u4, e5, u5, eD0, uD, gD0, eD1, eO, uO, eQ0, uQ, gQ0, eQ1, eR, uR, hne, hr0, g4h, eW, g3i, eL, n3j, n4j]
        exact ⟨_, _, rfl, ⟨ua, uc, rfl, kL _ _ _ _ (kW _ _ _ _ (kV _ _ _ _ lu))⟩, ⟨va, vc, rfl, kL _ _ _ _ (kW _ _ _ _ lv)⟩, FL.fm⟩
      · have e7 : ((0 : Int) < ((de r).length : Int)) = False := eq_false (by rw [show r = 0 by omega, de_0]; simp)
        simp +contextual (disch := omega) only [↓AM, ↓AV, AP, CQ, CN, i64, eA, uA, eB, uB, e4, u4, e5, u5, eD0, uD, gD0, eD1, eO, uO, eQ0, uQ, gQ0, eQ1, eR, uR, hne, hr0, e3, g1b, ef, r0c, n0c, r1c, n1c, r2c, n2c, r3c, n3c, r4c, n4c, r5c, n5c, r6c, n6c, e7]
        obtain ⟨-, ⟨g1d, -, -⟩, -, -, -, ⟨-, r5d, -⟩, ⟨-, r6d, -⟩, -⟩ := F3.facts
        obtain ⟨hY, eY, FY, kY, -⟩ := F3.put1 [.bool true, .slice qa (de (x / y)).length qc] st2 rfl
        have eY2 : h2.put bQ ⟨[.bool true, .slice qa (de (x / y)).length qc], .own⟩ = hY := by rw [← eY, ← e3, put_put]
        obtain ⟨⟨g0e, -, -⟩, -, -, -, -, ⟨-, r5e, -⟩, ⟨-, r6e, -⟩, -⟩ := FY.facts
        obtain ⟨hZ, eZ, FZ, kZ, -⟩ := FY.put0 [.bool g2, .slice ra (de r).length rc] st2 rfl
        have lqZ := kZ _ _ _ _ (kY _ _ _ _ lq3)
        have lrZ := kZ _ _ _ _ (kY _ _ _ _ lr3)
        obtain ⟨⟨-, r0f, n0f⟩, ⟨-, r1f, n1f⟩, -⟩ := FZ.facts
        simp +contextual (disch := omega) only [↓AM, ↓AV, AP, CQ, CN, i64, eA, uA, eB, uB, e4, u4, e5, u5, eD0, uD, gD0, eD1, eO, uO, eQ0, uQ, gQ0, eQ1, eR, uR, hne, hr0, g1d, r5d, r6d, e3, eY, eY2, put_put, g0e, r5e, r6e, eZ, r0f, n0f, r1f, n1f]
        refine (c_btrim lqZ (by omega) lqZ.fl lqZ.nl).use ?_
        rintro _ hU wU ⟨lU, fmU⟩
        rw [de_val] at lU
        obtain ⟨FU, kU⟩ := FZ.call fmU wU
        obtain ⟨⟨-, r0g, n0g⟩, -⟩ := FU.facts
        simp +contextual (disch := omega) only [↓AM, ↓AV, AP, CQ, CN, i64, eA, uA, eB, uB, e4, u4, e5, u5, eD0, uD, gD0, eD1, eO, uO, eQ0, uQ, gQ0, eQ1, eR, uR, hne, hr0, r0g, n0g]
        refine ⟨⟨_, rfl, rfl⟩, ?_⟩
        refine (c_btrim (kU _ _ _ _ lrZ) (by omega) lrZ.fl lrZ.nl).use ?_
        rintro _ hV wV ⟨lV, fmV⟩
        rw [de_val] at lV
        obtain ⟨FV, kV⟩ := FU.call fmV wV
        obtain ⟨ua, uc, rfl, lu⟩ := lU.bv
        obtain ⟨va, vc, rfl, lv⟩ := lV.bv
        obtain ⟨-, -, -, -, ⟨g4h, -, -⟩, -⟩ := FV.facts
        obtain ⟨hW, eW, FW, kW, -⟩ := FV.put4 [.bool (true && decide (0 < (x / y))), .slice ua (de (x / y)).length uc] st2 rfl
        obtain ⟨-, -, -, ⟨g3i, -, -⟩, -⟩ := FW.facts
        obtain ⟨hL, eL, FL, kL, -⟩ := FW.put3 [.bool (g2 && decide (0 < r)), .slice va (de r).length vc] st2 rfl
        obtain ⟨-, -, -, ⟨-, -, n3j⟩, ⟨-, -, n4j⟩, -⟩ := FL.facts
        simp +contextual (disch := omega) only [↓AM, ↓AV, AP, CQ, CN, i64, eA, uA, eB, uB, e4, u4, e5, u5, eD0, uD, gD0, eD1, eO, uO, eQ0, uQ, gQ0, eQ1, eR, uR, hne, g4h, eW, g3i, eL, n3j, n4j]
        simp only [if_neg hr0]
        exact ⟨_, _, rfl, ⟨ua, uc, rfl, kL _ _ _ _ (kW _ _ _ _ (kV _ _ _ _ lu))⟩, ⟨va, vc, rfl, kL _ _ _ _ (kW _ _ _ _ lv)⟩, FL.fm⟩
    · have hne : (g1 != g2) = false := by simpa using hne
      simp +contextual (disch := omega) only [↓AM, ↓AV, AP, CQ, CN, i64, eA, uA, eB, uB, e4, u4, e5, u5, eD0, uD, gD0, eD1, eO, uO, eQ0, uQ, gQ0, eQ1, eR, uR, hne, e3, g1b, ef, r0c, n0c, r1c, n1c, r2c, n2c, r3c, n3c, r4c, n4c, r5c, n5c, r6c, n6c]
      obtain ⟨-, ⟨g1d, -, -⟩, -, -, -, ⟨-, r5d, -⟩, ⟨-, r6d, -⟩, -⟩ := F3.facts
      obtain ⟨hY, eY, FY, kY, -⟩ := F3.put1 [.bool false, .slice qa (de (x / y)).length qc] st2 rfl
      have eY2 : h2.put bQ ⟨[.bool false, .slice qa (de (x / y)).length qc], .own⟩ = hY := by rw [← eY, ← e3, put_put]
      have eYX : hY = h3 := by rw [← eY2]; exact e3
      subst eYX
      obtain ⟨⟨g0e, -, -⟩, -, -, -, -, ⟨-, r5e, -⟩, ⟨-, r6e, -⟩, -⟩ := FY.facts
      obtain ⟨hZ, eZ, FZ, kZ, -⟩ := FY.put0 [.bool g2, .slice ra (de r).length rc] st2 rfl
      have lqZ := kZ _ _ _ _ (kY _ _ _ _ lq3)
      have lrZ := kZ _ _ _ _ (kY _ _ _ _ lr3)
      obtain ⟨⟨-, r0f, n0f⟩, ⟨-, r1f, n1f⟩, -⟩ := FZ.facts
      simp +contextual (disch := omega) only [↓AM, ↓AV, AP, CQ, CN, i64, eA, uA, eB, uB, e4, u4, e5, u5, eD0, uD, gD0, eD1, eO, uO, eQ0, uQ, gQ0, eQ1, eR, uR, hne, g1d, r5d, r6d, e3, eY, eY2, put_put, g0e, r5e, r6e, eZ, r0f, n0f, r1f, n1f]
      refine (c_btrim lqZ (by omega) lqZ.fl lqZ.nl).use ?_
      rintro _ hU wU ⟨lU, fmU⟩
      rw [de_val] at lU
      obtain ⟨FU, kU⟩ := FZ.call fmU wU
      obtain ⟨⟨-, r0g, n0g⟩, -⟩ := FU.facts
      simp +contextual (disch := omega) only [↓AM, ↓AV, AP, CQ, CN, i64, eA, uA, eB, uB, e4, u4, e5, u5, eD0, uD, gD0, eD1, eO, uO, eQ0, uQ, gQ0, eQ1, eR, uR, hne, r0g, n0g]
      refine ⟨⟨_, rfl, rfl⟩, ?_⟩
      refine (c_btrim (kU _ _ _ _ lrZ) (by omega) lrZ.fl lrZ.nl).use ?_
      rintro _ hV wV ⟨lV, fmV⟩
      rw [de_val] at lV
      obtain ⟨FV, kV⟩ := FU.call fmV wV
      obtain ⟨ua, uc, rfl, lu⟩ := lU.bv
      obtain ⟨va, vc, rfl, lv⟩ := lV.bv
      obtain ⟨-, -, -, -, ⟨g4h, -, -⟩, -⟩ := FV.facts
      obtain ⟨hW, eW, FW, kW, -⟩ := FV.put4 [.bool (false && decide (0 < (x / y))), .slice ua (de (x / y)).length uc] st2 rfl
      obtain ⟨-, -, -, ⟨g3i, -, -⟩, -⟩ := FW.facts
      obtain ⟨hL, eL, FL, kL, -⟩ := FW.put3 [.bool (g2 && decide (0 < r)), .slice va (de r).length vc] st2 rfl
      obtain ⟨-, -, -, ⟨-, -, n3j⟩, ⟨-, -, n4j⟩, -⟩ := FL.facts
      simp +contextual (disch := omega) only [↓AM, ↓AV, AP, CQ, CN, i64, eA, uA, eB, uB, e4, u4, e5, u5, eD0, uD, gD0, eD1, eO, uO, eQ0, uQ, gQ0, eQ1, eR, uR, hne, g4h, eW, g3i, eL, n3j, n4j]
      exact ⟨_, _, rfl, ⟨ua, uc, rfl, kL _ _ _ _ (kW _ _ _ _ (kV _ _ _ _ lu))⟩, ⟨va, vc, rfl, kL _ _ _ _ (kW _ _ _ _ lv)⟩, FL.fm⟩
  | succ k =>
    obtain ⟨b1, o1, sp1, p, rfl, p1, hp, rr⟩ := (la.rd.keepW w F1.fm nNo).dec24 (i := k) (by omega)
    have hpl : p < 16777216 := la.dl.at hp
    have hk1 : k < X.length := by omega
    simp +contextual (disch := omega) only [↓AM, ↓AV, AP, CQ, CN, i64, eA, uA, eB, uB, e4, u4, e5, u5, eD0, uD, gD0, eD1, eO, uO, eQ0, uQ, gQ0, eQ1, eR, uR, r0a, n0a, r1a, n1a, r2a, n2a, r3a, n3a, r4a, n4a, r5a, n5a, r6a, n6a, p1, rr, hk1]
    refine (c_shifted lr (by omega) hpl).use ?_
    rintro _ h2 w2 ⟨⟨sa, sc, rfl, ls, sS⟩, fm2⟩
    have hbO := F1.wf.lt gO
    obtain ⟨F2, -⟩ := F1.call fm2 w2
    have gO2 := fm2.keep F1.wf gO (fun f => f)
    have hsb : p + 16777216 * r < y * 16777216 := by omega
    generalize hs : p + 16777216 * r = s at *
    obtain ⟨h3, e3, F3, k3, f3⟩ := F2.put0 [.bool false, .slice sa (de s).length sc] st2 rfl
    have ls3 := k3 _ _ _ _ ls
    have gO3 := f3.keep F2.wf gO2 (by omega)
    obtain ⟨⟨g0b, -, -⟩, -⟩ := F2.facts
    simp +contextual (disch := omega) only [↓AM, ↓AV, AP, CQ, CN, i64, eA, uA, eB, uB, e4, u4, e5, u5, eD0, uD, gD0, eD1, eO, uO, eQ0, uQ, gQ0, eQ1, eR, uR, g0b, e3]
    have hB : y * 16777216 < B24 ^ ((de y).length + 1) := by rw [Nat.pow_succ]; exact Nat.mul_lt_mul_of_pos_right hyB (by decide)
    have hsl : (de s).length ≤ 91 := Nat.le_trans (de_len (Nat.lt_trans hsb hB)) (by omega)
    refine WL.mk (fun m t h' => Wf h' ∧ Fm No h3 h' ∧ ∃ lo hi : Nat, lo ≤ hi ∧ hi < 16777216 ∧ m = hi - lo ∧ y * lo ≤ s ∧ s < y * (hi + 1) ∧
        t = [(2, some (.pointer (some ⟨bA, 0, none⟩))), (3, some (.pointer (some ⟨bB, 0, none⟩))), (4, some (.pointer (some ⟨b4, 0, none⟩))), (5, some (.pointer (some ⟨b5, 0, none⟩))), (6, some (.pointer (some ⟨bD, 0, none⟩))), (7, some (.pointer (some ⟨bQ, 0, none⟩))), (8, some (.pointer (some ⟨bR, 0, none⟩))), (9, some (.int .i64 (k : Int))), (10, some (.int .i64 (lo : Int))), (11, some (.int .i64 (hi : Int)))])
      ⟨16777215, F3.wf, Fm.refl, 0, 16777215, by omega, by omega, rfl, by simp, hsb, rfl⟩ ?_
    rintro m t h4 ⟨w4, fm4, lo, hi, hlh, hhi, rfl, hlo, hhs, rfl⟩
    obtain ⟨F4, k4⟩ := F3.call fm4 w4
    have ls4 := k4 _ _ _ _ ls3
    obtain ⟨⟨g0b, r0b, n0b⟩, ⟨g1b, r1b, n1b⟩, ⟨g2b, r2b, n2b⟩, ⟨g3b, r3b, n3b⟩, ⟨g4b, r4b, n4b⟩, ⟨g5b, r5b, n5b⟩, ⟨g6b, r6b, n6b⟩, -⟩ := F4.facts
    have lb4 : Em h4 b (de y).length d (de y) := ⟨lb.rd.keepW w F4.fm nNo, lb.le, lb.dl, lb.fl, lb.nl⟩
    by_cases hlt2 : lo < hi
    · have t2 : ∀ z : Nat, (z : Int).tdiv 2 = ((z / 2 : Nat) : Int) := fun z => ntdiv z 2
      have n2 : ((2 : Int) = 0) = False := by simp
      simp +contextual (disch := omega) only [↓AM, ↓AV, AP, CQ, CN, i64, eA, uA, eB, uB, e4, u4, e5, u5, eD0, uD, gD0, eD1, eO, uO, eQ0, uQ, gQ0, eQ1, eR, uR, hlt2, t2, n2, r0b, n0b, r1b, n1b, r2b, n2b, r3b, n3b, r4b, n4b, r5b, n5b, r6b, n6b]
      generalize hmid : (lo + hi + 1) / 2 = mid at *
      have hm1 : lo < mid := by omega
      have hm2 : mid ≤ hi := by omega
      refine (c_times lb4 (by omega) (by omega)).use ?_
      rintro _ h5 w5 ⟨⟨pa, pc, rfl, lp, -⟩, fm5⟩
      obtain ⟨F5, k5⟩ := F4.call fm5 w5
      obtain ⟨⟨g0c, r0c, n0c⟩, ⟨g1c, r1c, n1c⟩, ⟨g2c, r2c, n2c⟩, ⟨g3c, r3c, n3c⟩, ⟨g4c, r4c, n4c⟩, ⟨g5c, r5c, n5c⟩, ⟨g6c, r6c, n6c⟩, -⟩ := F5.facts
      simp +contextual (disch := omega) only [↓AM, ↓AV, AP, CQ, CN, i64, eA, uA, eB, uB, e4, u4, e5, u5, eD0, uD, gD0, eD1, eO, uO, eQ0, uQ, gQ0, eQ1, eR, uR, r0c, n0c, r1c, n1c, r2c, n2c, r3c, n3c, r4c, n4c, r5c, n5c, r6c, n6c]
      have hpl2 : (de (y * mid)).length ≤ 91 := Nat.le_trans (de_len (Nat.lt_of_le_of_lt (Nat.mul_le_mul_left y (show mid ≤ 16777216 by omega)) hB)) (by omega)
      refine ⟨⟨_, rfl, rfl⟩, ?_⟩
      refine (c_bsize lp (k5 _ _ _ _ ls4) (by omega) (by omega)).use ?_
      rintro _ h6 w6 ⟨rfl, fm6⟩
      obtain ⟨F6, -⟩ := F5.call fm6 w6
      have fm36 := (fm4.trans fm5 fun _ _ f => f).trans fm6 fun _ _ f => f
      by_cases hle : y * mid ≤ s
      · have ec : ((if y * mid < s then (-1 : Int) else if y * mid = s then 0 else 1) ≤ 0) = True := by rw [cmp_le]; exact eq_true hle
        simp +contextual (disch := omega) only [↓AM, ↓AV, AP, CQ, CN, i64, eA, uA, eB, uB, e4, u4, e5, u5, eD0, uD, gD0, eD1, eO, uO, eQ0, uQ, gQ0, eQ1, eR, uR, ec]
        exact ⟨_, by omega, w6, fm36, mid, hi, hm2, hhi, rfl, hle, hhs, rfl⟩
      · have ec : ((if y * mid < s then (-1 : Int) else if y * mid = s then 0 else 1) ≤ 0) = False := by rw [cmp_le]; exact eq_false hle
        simp +contextual (disch := omega) only [↓AM, ↓AV, AP, CQ, CN, i64, eA, uA, eB, uB, e4, u4, e5, u5, eD0, uD, gD0, eD1, eO, uO, eQ0, uQ, gQ0, eQ1, eR, uR, ec]
        have e1 : (mid : Int) - 1 = ((mid - 1 : Nat) : Int) := by omega
        have e2 : mid - 1 + 1 = mid := by omega
        rw [e1]
        exact ⟨_, by omega, w6, fm36, lo, mid - 1, by omega, by omega, rfl, hlo, by rw [e2]; omega, rfl⟩
    · have : lo = hi := by omega
      subst this
      obtain ⟨end1, end2⟩ := search_end hy0 hlo hhs
      have gO4 := fm4.keep F3.wf gO3 (fun f => f)
      have ul : leIs (k + 1) (j3 Q) = true := by rw [← leIs_p, j3_len]; omega
      have us : spl (j3 Q) k [.int .i64 (lo : Int)] = j3 (Q.set k lo) := spl_j3 (by omega)
      obtain ⟨h5, e5⟩ : ∃ g, h4.put bO ⟨j3 (Q.set k lo), .own⟩ = g := ⟨_, rfl⟩
      have fO : Fm (fun x => x = bO) h4 h5 := e5 ▸ Fm.put Fm.refl fun _ => rfl
      have w5 : Wf h5 := e5 ▸ w4.put (w4.lt gO4)
      have F5 := F4.other fO w5 (fun x hx e => by omega) (fun bb cs hb e => by
        simp only [List.mem_cons, Prod.mk.injEq, List.mem_nil_iff, or_false] at hb
        omega)
      have gO5 : h5.get bO = some ⟨j3 (Q.set k lo), .own⟩ := e5 ▸ gput
      have sne : ∀ z, At sa z → z ≠ bO := fun z hz => by have := sS z hz; omega
      have ls5 := ls4.off w4 fO sne
      have lb5 : Em h5 b (de y).length d (de y) := ⟨lb.rd.keepW w F5.fm nNo, lb.le, lb.dl, lb.fl, lb.nl⟩
      obtain ⟨⟨g0c, r0c, n0c⟩, ⟨g1c, r1c, n1c⟩, ⟨g2c, r2c, n2c⟩, ⟨g3c, r3c, n3c⟩, ⟨g4c, r4c, n4c⟩, ⟨g5c, r5c, n5c⟩, ⟨g6c, r6c, n6c⟩, -⟩ := F5.facts
      simp +contextual (disch := omega) only [↓AM, ↓AV, AP, CQ, CN, i64, eA, uA, eB, uB, e4, u4, e5, u5, eD0, uD, gD0, eD1, eO, uO, eQ0, uQ, gQ0, eQ1, eR, uR, hlt2, r0b, n0b, r1b, n1b, r2b, n2b, r3b, n3b, r4b, n4b, r5b, n5b, r6b, n6b, gO4, ul, us, e5, r0c, n0c, r1c, n1c, r2c, n2c, r3c, n3c, r4c, n4c, r5c, n5c, r6c, n6c, hk1]
      refine (c_times lb5 (by omega) (by omega)).use ?_
      rintro _ h6 w6 ⟨⟨pa, pc, rfl, lp, -⟩, fm6⟩
      obtain ⟨F6, k6⟩ := F5.call fm6 w6
      obtain ⟨⟨g0d, r0d, n0d⟩, ⟨g1d, r1d, n1d⟩, ⟨g2d, r2d, n2d⟩, ⟨g3d, r3d, n3d⟩, ⟨g4d, r4d, n4d⟩, ⟨g5d, r5d, n5d⟩, ⟨g6d, r6d, n6d⟩, -⟩ := F6.facts
      simp +contextual (disch := omega) only [↓AM, ↓AV, AP, CQ, CN, i64, eA, uA, eB, uB, e4, u4, e5, u5, eD0, uD, gD0, eD1, eO, uO, eQ0, uQ, gQ0, eQ1, eR, uR, r0d, n0d, r1d, n1d, r2d, n2d, r3d, n3d, r4d, n4d, r5d, n5d, r6d, n6d]
      have hpl2 : (de (y * lo)).length ≤ 91 := Nat.le_trans (de_len (Nat.lt_of_le_of_lt (Nat.mul_le_mul_left y (show lo ≤ 16777216 by omega)) hB)) (by omega)
      refine ⟨⟨_, rfl, rfl⟩, ?_⟩
      refine (c_bminus (k6 _ _ _ _ ls5) lp (by omega) (by omega) hlo).use ?_
      rintro _ h7 w7 ⟨l7, fm7⟩
      obtain ⟨na, nc, rfl, l7, nS⟩ := l7.bs
      obtain ⟨F7, k7⟩ := F6.call fm7 w7
      obtain ⟨⟨g0e, -, -⟩, -⟩ := F7.facts
      obtain ⟨h8, e8, F8, k8, f8⟩ := F7.put0 [.bool false, .slice na (de (s - y * lo)).length nc] st2 rfl
      simp +contextual (disch := omega) only [↓AM, ↓AV, AP, CQ, CN, i64, eA, uA, eB, uB, e4, u4, e5, u5, eD0, uD, gD0, eD1, eO, uO, eQ0, uQ, gQ0, eQ1, eR, uR, g0e, e8]
      have gO8 := f8.keep w7 (fm7.keep w6 (fm6.keep w5 gO5 (fun f => f)) (fun f => f)) (by omega)
      refine ⟨k, by omega, by omega, Q.set k lo, s - y * lo, na, nc, F8, gO8, by simp [hQl], hQd.set (by omega), ?_, ?_, k8 _ _ _ _ l7, fun z hz => by have := nS z hz; have := w6.lt (fm6.keep w5 gO5 (fun f => f)); omega, rfl⟩
      · rw [end2]; exact Nat.mod_lt _ hy0
      · have hx1 : X.drop k = p :: X.drop (k + 1) := by
          rw [List.drop_eq_getElem_cons hk1]
          rw [List.getElem?_eq_getElem hk1] at hp
          rw [Option.some.inj hp]
        have hq1 : (Q.set k lo).drop k = lo :: Q.drop (k + 1) := by
          rw [List.drop_eq_getElem_cons (by simp; omega), List.getElem_set_self, List.drop_set_of_lt (by omega)]
        rw [hx1, hq1, vL, vL, hv]
        have e4 : B24 * (vL B24 (Q.drop (k + 1)) * y + r) = B24 * vL B24 (Q.drop (k + 1)) * y + 16777216 * r := by rw [Nat.mul_add, Nat.mul_assoc]
        rw [e4, Nat.add_mul, Nat.mul_comm lo y]
        omega
end Go.Proofs.Ytikbdeobghoglaa.Nu

/- The Big numbers of the document: quotients of whole numbers, divisors, fractions. Plain theorems over the abstract machine.
   Conditions: none. -/
namespace Go.Proofs.Ytikbdeobghoglaa.Nu
open Go Go.RowKit Go.Proofs.Ytikbdeobghoglaa.Am Go.Proofs.Ytikbdeobghoglaa.Af Go.Proofs.Ytikbdeobghoglaa.Md
set_option linter.unusedVariables false
set_option linter.unusedSimpArgs false
set_option linter.defProp false
set_option maxRecDepth 20000
set_option maxHeartbeats 1000000

theorem Fr.tail {h0 h : Hp} {p : Nat × List Value} {l : List (Nat × List Value)} (F : Fr h0 h (p :: l)) : Fr h0 h l :=
  ⟨F.wf, F.fm, fun b cs hb => F.get b cs (by simp [hb]), by have := F.nd; rw [List.map_cons, List.nodup_cons] at this; exact this.2⟩
theorem c_DivModN {h : Hp} {a b : Option Addr} {c d x y : Nat} (la : Em h a (de x).length c (de x)) (lb : Em h b (de y).length d (de y)) (hx : (de x).length ≤ 90) (hy : (de y).length ≤ 90) (hy0 : 0 < y) :
    ACalls Try.prog 121 [.agg #[.bool false, .slice a (de x).length c], .agg #[.bool false, .slice b (de y).length d]] h fun res h' => ∃ u v, res = .tuple #[u, v] ∧ Bv h' u false (x / y) ∧ Bv h' v false (x % y) ∧ Fm No h h' := by
  refine (c_DivMod la lb hx hy hy0).mono ?_
  rintro r h' ⟨u, v, rfl, h1, h2, fm⟩
  refine ⟨u, v, rfl, ?_, ?_, fm⟩
  · simpa using h1
  · simpa using h2
theorem ediv_neg {z : Int} {y : Nat} (hy : 0 < y) (hz : z < 0) : (0 < z.natAbs % y → z / (y : Int) = -((z.natAbs / y + 1 : Nat) : Int) ∧ z % (y : Int) = ((y - z.natAbs % y : Nat) : Int)) ∧ (¬ 0 < z.natAbs % y → z / (y : Int) = -((z.natAbs / y : Nat) : Int) ∧ z % (y : Int) = ((z.natAbs % y : Nat) : Int)) := by
  have hm := Nat.div_add_mod z.natAbs y
  have hl := Nat.mod_lt z.natAbs hy
  generalize z.natAbs % y = m at *
  generalize z.natAbs / y = q at *
  have hm' : (y : Int) * (q : Int) + (m : Int) = -z := by
    have : ((y * q + m : Nat) : Int) = (z.natAbs : Int) := by rw [hm]
    rw [Int.natCast_add, Int.natCast_mul] at this
    omega
  refine ⟨fun hr => (Int.ediv_emod_unique (by omega)).2 ⟨?_, by omega, by omega⟩, fun hr => (Int.ediv_emod_unique (by omega)).2 ⟨?_, by omega, by omega⟩⟩
  · have : ((y - m : Nat) : Int) = (y : Int) - (m : Int) := by omega
    rw [this, Int.mul_neg, Int.natCast_add, Int.mul_add, Int.natCast_one, Int.mul_one]
    omega
  · rw [Int.mul_neg]
    omega
theorem ediv_nn {z : Int} {y : Nat} (hz : ¬ z < 0) : z / (y : Int) = ((z.natAbs / y : Nat) : Int) ∧ z % (y : Int) = ((z.natAbs % y : Nat) : Int) := by
  obtain ⟨n, rfl⟩ : ∃ n : Nat, z = (n : Int) := ⟨z.natAbs, by omega⟩
  exact ⟨rfl, rfl⟩
theorem zv_pos {h : Hp} {v : Value} {n : Nat} (l : Bv h v false n) : Zv h v (n : Int) := by
  unfold Zv
  rw [decide_eq_false (show ¬ ((n : Nat) : Int) < 0 by omega), show ((n : Nat) : Int).natAbs = n by omega]
  exact l
theorem zv_neg {h : Hp} {v : Value} {n : Nat} (l : Bv h v (decide (0 < n)) n) : Zv h v (-(n : Int)) := by
  unfold Zv
  rw [show decide (-(n : Int) < 0) = decide (0 < n) from decide_eq_decide.2 (by omega), show (-(n : Int)).natAbs = n by omega]
  exact l
theorem c_DivModI {h : Hp} {u v : Value} {z : Int} {y : Nat} (lu : Zv h u z) (lv : Zv h v (y : Int)) (hx : (de z.natAbs).length ≤ 90) (hy : (de y).length ≤ 90) (hy0 : 0 < y) :
    ACalls Try.prog 121 [u, v] h fun res h' => ∃ p q, res = .tuple #[p, q] ∧ Zv h' p (z / y) ∧ Zv h' q (z % y) ∧ Fm No h h' := by
  obtain ⟨a, c, rfl, la⟩ := lu
  obtain ⟨b, d, rfl, lb⟩ := lv
  have ey : (y : Int).natAbs = y := by omega
  rw [ey] at lb ⊢
  have eg : decide ((y : Int) < 0) = false := by simp
  rw [eg]
  refine (c_DivMod la lb hx hy hy0).mono ?_
  rintro r h' ⟨p, q, rfl, h1, h2, fm⟩
  refine ⟨p, q, rfl, ?_, ?_, fm⟩
  · by_cases hz : z < 0
    · obtain ⟨e1, e2⟩ := ediv_neg hy0 hz
      rw [decide_eq_true hz] at h1
      by_cases hr : 0 < z.natAbs % y
      · rw [(e1 hr).1]
        have hc : (true != false) = true ∧ 0 < z.natAbs % y := ⟨rfl, hr⟩
        rw [if_pos hc] at h1
        exact zv_neg h1
      · rw [(e2 hr).1]
        have hc : ¬ ((true != false) = true ∧ 0 < z.natAbs % y) := fun h => hr h.2
        rw [if_neg hc] at h1
        exact zv_neg h1
    · rw [(ediv_nn (y := y) hz).1]
      rw [decide_eq_false hz] at h1
      have hc : ¬ ((false != false) = true ∧ 0 < z.natAbs % y) := fun h => by cases h.1
      rw [if_neg hc] at h1
      exact zv_pos h1
  · have h2' : Bv h' q false _ := h2
    by_cases hz : z < 0
    · obtain ⟨e1, e2⟩ := ediv_neg hy0 hz
      rw [decide_eq_true hz] at h2'
      by_cases hr : 0 < z.natAbs % y
      · rw [(e1 hr).2]
        have hc : (true != false) = true ∧ 0 < z.natAbs % y := ⟨rfl, hr⟩
        rw [if_pos hc] at h2'
        exact zv_pos h2'
      · rw [(e2 hr).2]
        have hc : ¬ ((true != false) = true ∧ 0 < z.natAbs % y) := fun h => hr h.2
        rw [if_neg hc] at h2'
        exact zv_pos h2'
    · rw [(ediv_nn (y := y) hz).2]
      rw [decide_eq_false hz] at h2'
      have hc : ¬ ((false != false) = true ∧ 0 < z.natAbs % y) := fun h => by cases h.1
      rw [if_neg hc] at h2'
      exact zv_pos h2'
theorem de_pos {r : Nat} : 0 < (de r).length ↔ 0 < r := by
  constructor
  · intro h
    refine Nat.pos_of_ne_zero fun e => ?_
    rw [e, de_0] at h
    simp at h
  · intro h
    refine Nat.pos_of_ne_zero fun e => ?_
    have := dig_nil.1 (List.length_eq_zero_iff.1 e : dig B24 b24 r = [])
    omega
theorem de_mono {x y : Nat} (h : x ≤ y) : (de x).length ≤ (de y).length := by
  refine de_len ?_
  have := vL_lt (de_dl y)
  rw [de_val] at this
  omega
theorem c_Gcd {h : Hp} {a b : Option Addr} {c d x y : Nat} {g1 g2 : Bool} (la : Em h a (de x).length c (de x)) (lb : Em h b (de y).length d (de y)) (hx : (de x).length ≤ 90) (hy : (de y).length ≤ 90) :
    ACalls Try.prog 120 [.agg #[.bool g1, .slice a (de x).length c], .agg #[.bool g2, .slice b (de y).length d]] h fun v h' => Bv h' v false (Nat.gcd x y) ∧ Fm No h h' := by
  refine dioramaref00_Gcd_ok.snd hm rfl fun w => ?_
  rw [WF_eq, dioramaref00_Gcd]
  obtain ⟨hA, bA, eA, uA, FA, -, -, -, lA⟩ := (Fr.mk0 w).new _ (st2 (b := g1) (oa := a) (n := (de x).length) (c := c))
  obtain ⟨hB, bB, eB, uB, FB, -, -, -, lB⟩ := FA.new _ (st2 (b := g2) (oa := b) (n := (de y).length) (c := d))
  obtain ⟨h4, b4, e4, u4, F4, -, -, -, l4⟩ := FB.new _ (st2 (b := false) (oa := none) (n := 0) (c := 0))
  obtain ⟨-, ⟨-, rB4, -⟩, ⟨-, rA4, -⟩, -⟩ := F4.facts
  obtain ⟨h5, b6, e5, u5, F5, -, -, -, l5⟩ := F4.new _ (st2 (b := false) (oa := none) (n := 0) (c := 0))
  obtain ⟨h6, b5, e6, u6, F6, -, -, -, l6⟩ := F5.new _ (st2 (b := false) (oa := none) (n := 0) (c := 0))
  obtain ⟨⟨g50, -, -⟩, ⟨g60, -, -⟩, -, ⟨-, rB6, -⟩, ⟨-, rA6, -⟩, -⟩ := F6.facts
  obtain ⟨h7, e7, F7, -, -⟩ := F6.put0 [.bool false, .slice a (de x).length c] st2 rfl
  obtain ⟨-, ⟨g61, -, -⟩, -, ⟨-, rB7, -⟩, -⟩ := F7.facts
  obtain ⟨h8, e8, F8, -, -⟩ := F7.put1 [.bool false, .slice b (de y).length d] st2 rfl
  have ha8 : Em h8 a (de x).length c (de x) := ⟨la.rd.keepW w F8.fm nNo, la.le, la.dl, la.fl, la.nl⟩
  have hb8 : Em h8 b (de y).length d (de y) := ⟨lb.rd.keepW w F8.fm nNo, lb.le, lb.dl, lb.fl, lb.nl⟩
  simp +contextual (disch := omega) only [↓AM, ↓AV, AP, CQ, CN, i64, eA, uA, eB, uB, e4, u4, rA4, rB4, e5, u5, e6, u6, rA6, rB6, g50, g60, e7, g61, e8, rB7]
  refine WL.mk (fun k t h' => ∃ X Y p pc q qc, Fr h h' [(b5, [.bool false, .slice p (de X).length pc]), (b6, [.bool false, .slice q (de Y).length qc]), (b4, [.bool false, .slice none 0 0]), (bB, [.bool g2, .slice b (de y).length d]), (bA, [.bool g1, .slice a (de x).length c])] ∧ Em h' p (de X).length pc (de X) ∧ Em h' q (de Y).length qc (de Y) ∧ Nat.gcd X Y = Nat.gcd x y ∧ (de X).length ≤ 90 ∧ (de Y).length ≤ 90 ∧ k = Y ∧
      t = [(4, some (.pointer (some ⟨b4, 0, none⟩))), (5, some (.pointer (some ⟨b5, 0, none⟩))), (6, some (.pointer (some ⟨b6, 0, none⟩)))])
    ⟨y, x, y, a, c, b, d, F8, ha8, hb8, rfl, hx, hy, rfl, rfl⟩ ?_
  rintro Y t h1 ⟨X, _, p, pc, q, qc, F1, lX, lY, hg, hXl, hYl, rfl, rfl⟩
  obtain ⟨⟨g0a, r0a, n0a⟩, ⟨g1a, r1a, n1a⟩, ⟨g2a, r2a, n2a⟩, -⟩ := F1.facts
  by_cases hY : 0 < Y
  · have e0 : ((0 : Int) < ((de Y).length : Int)) = True := eq_true (by have := de_pos.2 hY; omega)
    simp +contextual (disch := omega) only [↓AM, ↓AV, AP, CQ, CN, i64, e0, r0a, r1a, n0a, n1a]
    refine (c_DivModN lX lY hXl hYl hY).use ?_
    rintro _ h2 w2 ⟨u, v, rfl, ⟨ua, uc, rfl, lu⟩, ⟨va, vc, rfl, lv⟩, fm2⟩
    obtain ⟨F2, k2⟩ := F1.call fm2 w2
    obtain ⟨h3, b7, e3, u3, F3, k3, -, -, -⟩ := F2.new _ (st2 (b := false) (oa := none) (n := 0) (c := 0))
    obtain ⟨h4, b8, e4, u4, F4, k4, -, -, -⟩ := F3.new _ (st2 (b := false) (oa := none) (n := 0) (c := 0))
    obtain ⟨-, ⟨g7, -, -⟩, -⟩ := F4.facts
    obtain ⟨h5, e5, F5, k5, -⟩ := F4.put1 [.bool false, .slice ua (de (X / Y)).length uc] st2 rfl
    obtain ⟨⟨g8, -, -⟩, -⟩ := F5.facts
    obtain ⟨h6, e6, F6, k6, -⟩ := F5.put0 [.bool false, .slice va (de (X % Y)).length vc] st2 rfl
    obtain ⟨⟨g8a, r8a, n8a⟩, -, ⟨g5a, r5a, n5a⟩, ⟨g6a, r6a, n6a⟩, -⟩ := F6.facts
    obtain ⟨h7, e7, F7, k7, -⟩ := F6.put2 [.bool false, .slice q (de Y).length qc] st2 rfl
    obtain ⟨⟨g8b, r8b, n8b⟩, -, ⟨g5b, r5b, n5b⟩, ⟨g6b, r6b, n6b⟩, -⟩ := F7.facts
    obtain ⟨h8, e8, F8, k8, -⟩ := F7.put3 [.bool false, .slice va (de (X % Y)).length vc] st2 rfl
    obtain ⟨⟨g8c, r8c, n8c⟩, -, ⟨g5c, r5c, n5c⟩, ⟨g6c, r6c, n6c⟩, -⟩ := F8.facts
    simp +contextual (disch := omega) only [↓AM, ↓AV, AP, CQ, CN, i64, e3, u3, e4, u4, g7, e5, g8, e6, n8a, g5a, n6a, e7, n8b, g6b, e8, n8c]
    have kk := ((((k3.trans k4).trans k5).trans k6).trans k7).trans k8
    refine ⟨⟨_, rfl, rfl⟩, ?_⟩
    refine ⟨X % Y, Nat.mod_lt _ hY, Y, X % Y, q, qc, va, vc, F8.tail.tail, kk _ _ _ _ (k2 _ _ _ _ lY), kk _ _ _ _ lv, ?_, hYl, ?_, rfl⟩
    · rw [← hg, Nat.gcd_comm X Y, Nat.gcd_rec Y X, Nat.gcd_comm]
    · exact Nat.le_trans (de_mono (Nat.mod_le X Y)) hXl
  · have e0 : ((0 : Int) < ((de Y).length : Int)) = False := eq_false (by rw [show Y = 0 by omega, de_0]; simp)
    obtain ⟨h2, e2, F2, k2, -⟩ := F1.put2 [.bool false, .slice p (de X).length pc] st2 rfl
    obtain ⟨-, -, ⟨g2b, r2b, n2b⟩, -⟩ := F2.facts
    simp +contextual (disch := omega) only [↓AM, ↓AV, AP, CQ, CN, i64, e0, r0a, r1a, n0a, n1a, g2a, e2, n2b]
    have hY0 : Y = 0 := by omega
    rw [hY0, Nat.gcd_zero_right] at hg
    rw [← hg]
    exact ⟨⟨p, pc, rfl, k2 _ _ _ _ lX⟩, F2.fm⟩
end Go.Proofs.Ytikbdeobghoglaa.Nu

/- The fractions of the document. Plain theorems over the abstract machine.
   Conditions: none. -/
namespace Go.Proofs.Ytikbdeobghoglaa.Nu
open Go Go.RowKit Go.Proofs.Ytikbdeobghoglaa.Am Go.Proofs.Ytikbdeobghoglaa.Af Go.Proofs.Ytikbdeobghoglaa.Md
set_option linter.unusedVariables false
set_option linter.unusedSimpArgs false
set_option linter.defProp false
set_option maxRecDepth 20000
set_option maxHeartbeats 1000000

/-- A fraction's cells. -/
def Fc (g1 : Bool) (a : Option Addr) (x c : Nat) (g2 : Bool) (b : Option Addr) (y d : Nat) : List Value := [.bool g1, .slice a (de x).length c, .bool g2, .slice b (de y).length d]
/-- A fraction: above and below. -/
def Fv (h : Hp) (v : Value) (n : Int) (m : Nat) : Prop := ∃ a c b d, v = .agg #[.bool (decide (n < 0)), .slice a (de n.natAbs).length c, .bool false, .slice b (de m).length d] ∧ Em h a (de n.natAbs).length c (de n.natAbs) ∧ Em h b (de m).length d (de m)
theorem Fv.kp {h h' : Hp} {v : Value} {n : Int} {m : Nat} (l : Fv h v n m) (k : Kp h h') : Fv h' v n m := by
  obtain ⟨a, c, b, d, e, l1, l2⟩ := l
  exact ⟨a, c, b, d, e, k _ _ _ _ l1, k _ _ _ _ l2⟩
def lowN (n : Int) (m : Nat) : Int := n / (Nat.gcd n.natAbs m : Int)
def lowD (n : Int) (m : Nat) : Nat := m / Nat.gcd n.natAbs m
theorem zv_e {z : Int} {h : Hp} {v : Value} (l : Zv h v z) : ∃ a c, v = .agg #[.bool (decide (z < 0)), .slice a (de z.natAbs).length c] ∧ Em h a (de z.natAbs).length c (de z.natAbs) := l
theorem nab (m : Nat) : ((m : Nat) : Int).natAbs = m := by omega
theorem dlt (m : Nat) : decide (((m : Nat) : Int) < 0) = false := decide_eq_false (by omega)
theorem c_Lowest {h : Hp} {a b : Option Addr} {c d : Nat} {n : Int} {m : Nat} (la : Em h a (de n.natAbs).length c (de n.natAbs)) (lb : Em h b (de m).length d (de m)) (hx : (de n.natAbs).length ≤ 90) (hy : (de m).length ≤ 90) (hm0 : 0 < m) :
    ACalls Try.prog 91 [.agg #[.bool (decide (n < 0)), .slice a (de n.natAbs).length c, .bool false, .slice b (de m).length d]] h fun v h' => Fv h' v (lowN n m) (lowD n m) ∧ Fm No h h' := by
  refine dioramaref00_Lowest_ok.snd hm rfl fun w => ?_
  rw [WF_eq, dioramaref00_Lowest]
  obtain ⟨hA, b1, eA, uA, FA, -, -, -, lA⟩ := (Fr.mk0 w).new _ (st4 (b := decide (n < 0)) (oa := a) (n := (de n.natAbs).length) (c := c) (b' := false) (oa' := b) (n' := (de m).length) (c' := d))
  obtain ⟨hB, b2, eB, uB, FB, -, -, -, lB⟩ := FA.new _ (st4 (b := false) (oa := none) (n := 0) (c := 0) (b' := false) (oa' := none) (n' := 0) (c' := 0))
  obtain ⟨-, ⟨gA, rA, nA, nA0, nA2⟩, -⟩ := FB.facts
  have la1 : Em hB a _ c _ := ⟨la.rd.keepW w FB.fm nNo, la.le, la.dl, la.fl, la.nl⟩
  have lb1 : Em hB b _ d _ := ⟨lb.rd.keepW w FB.fm nNo, lb.le, lb.dl, lb.fl, lb.nl⟩
  simp +contextual (disch := omega) only [↓AM, ↓AV, AP, CQ, CN, i64, eA, uA, eB, uB, rA, nA0, nA2]
  refine (c_Gcd la1 lb1 hx hy).use ?_
  rintro _ h2 w2 ⟨⟨ga, gc, rfl, lg⟩, fm2⟩
  obtain ⟨F2, k2⟩ := FB.call fm2 w2
  obtain ⟨h3, b3, e3, u3, F3, k3, -, -, -⟩ := F2.new _ (st2 (b := false) (oa := none) (n := 0) (c := 0))
  obtain ⟨⟨g3, -, -⟩, -⟩ := F3.facts
  obtain ⟨h4, e4, F4, k4, -⟩ := F3.put0 [.bool false, .slice ga (de (Nat.gcd n.natAbs m)).length gc] st2 rfl
  obtain ⟨⟨g3a, r3a, n3a⟩, ⟨g2a, r2a, n2a, n2b, n2c⟩, ⟨g1a, r1a, n1a, n1b, n1c⟩, -⟩ := F4.facts
  have kk := (k2.trans k3).trans k4
  have hg0 : 0 < Nat.gcd n.natAbs m := Nat.gcd_pos_of_pos_right _ hm0
  have hgl : (de (Nat.gcd n.natAbs m)).length ≤ 90 := Nat.le_trans (de_mono (Nat.gcd_le_right _ hm0)) hy
  have lg4 := (k3.trans k4) _ _ _ _ lg
  by_cases hn : n = 0
  · subst hn
    have e0 : EqI ((de (Int.natAbs 0)).length : Int) 0 = True := eq_true (by rw [show Int.natAbs 0 = 0 from rfl, de_0]; rfl)
    simp +contextual (disch := omega) only [↓AM, ↓AV, AP, CQ, CN, i64, eA, uA, eB, uB, e3, u3, g3, e4, r1a, n1b, n1c, e0]
    refine (c_bOf (z := 1) (by decide)).use ?_
    rintro _ h5 w5 ⟨lone, fm5⟩
    obtain ⟨oa1, c1, rfl, l1⟩ := lone.bv
    obtain ⟨F5, k5⟩ := F4.call fm5 w5
    obtain ⟨-, ⟨g2d, -⟩, -⟩ := F5.facts
    obtain ⟨h6, e6, F6, k6, -⟩ := F5.put1 [.bool false, .slice none 0 0, .bool false, .slice oa1 (de (Int.natAbs 1)).length c1] st4 rfl
    obtain ⟨-, ⟨-, -, n2d, -, -⟩, -⟩ := F6.facts
    have ed : decide ((1 : Int) < 0) = false := rfl
    simp +contextual (disch := omega) only [↓AM, ↓AV, AP, CQ, CN, i64, eA, uA, eB, uB, e3, u3, ed, g2d, e6, n2d]
    have e1 : lowN 0 m = 0 := by simp [lowN]
    have e2 : lowD 0 m = 1 := by simp [lowD]; exact Nat.div_self hm0
    rw [e1, e2]
    exact ⟨⟨none, 0, oa1, c1, by rw [show Int.natAbs 0 = 0 from rfl, de_0]; rfl, by rw [show Int.natAbs 0 = 0 from rfl, de_0]; exact ⟨Rd.mk0, Nat.le_refl _, (fun d hd => by cases hd), (fun a e => by cases e), fun _ => rfl⟩, k6 _ _ _ _ l1⟩, F6.fm⟩
  · have e0 : EqI ((de n.natAbs).length : Int) 0 = False := eq_false (by have := de_pos.2 (show 0 < n.natAbs by omega); unfold EqI; omega)
    simp +contextual (disch := omega) only [↓AM, ↓AV, AP, CQ, CN, i64, eA, uA, eB, uB, e3, u3, g3, e4, r1a, n1b, n1c, e0, n3a]
    have zn : Zv h4 (.agg #[.bool (decide (n < 0)), .slice a (de n.natAbs).length c]) n := ⟨a, c, rfl, kk _ _ _ _ la1⟩
    have zg : Zv h4 (.agg #[.bool false, .slice ga (de (Nat.gcd n.natAbs m)).length gc]) ((Nat.gcd n.natAbs m : Nat) : Int) := zv_pos ⟨ga, gc, rfl, lg4⟩
    refine (c_DivModI zn zg hx hgl hg0).use ?_
    rintro _ h5 w5 ⟨p, q, rfl, zp, zq, fm5⟩
    obtain ⟨pa, pc, rfl, lp⟩ := zv_e zp
    obtain ⟨qa, qc, rfl, lq⟩ := zv_e zq
    obtain ⟨F5, k5⟩ := F4.call fm5 w5
    obtain ⟨h6, b4, e6, u6, F6, k6, -, -, -⟩ := F5.new _ (st2 (b := false) (oa := none) (n := 0) (c := 0))
    obtain ⟨h7, b5, e7, u7, F7, k7, -, -, -⟩ := F6.new _ (st2 (b := false) (oa := none) (n := 0) (c := 0))
    obtain ⟨-, ⟨g4d, -, -⟩, -⟩ := F7.facts
    obtain ⟨h8, e8, F8, k8, -⟩ := F7.put1 [.bool (decide (n / ((Nat.gcd n.natAbs m : Nat) : Int) < 0)), .slice pa (de (n / ((Nat.gcd n.natAbs m : Nat) : Int)).natAbs).length pc] st2 rfl
    obtain ⟨⟨g5d, -, -⟩, -⟩ := F8.facts
    obtain ⟨h9, e9, F9, k9, -⟩ := F8.put0 [.bool (decide (n % ((Nat.gcd n.natAbs m : Nat) : Int) < 0)), .slice qa (de (n % ((Nat.gcd n.natAbs m : Nat) : Int)).natAbs).length qc] st2 rfl
    obtain ⟨-, ⟨g4e, r4e, n4e⟩, ⟨g3e, r3e, n3e⟩, ⟨g2e, r2e, n2e, n2eb, n2ec⟩, ⟨g1e, r1e, n1e, n1eb, n1ec⟩, -⟩ := F9.facts
    simp +contextual (disch := omega) only [↓AM, ↓AV, AP, CQ, CN, i64, eA, uA, eB, uB, e3, u3, e6, u6, e7, u7, g4d, e8, g5d, e9, n1ec, n3e]
    have k49 := ((((k5.trans k6).trans k7).trans k8).trans k9)
    have lb9 := k49 _ _ _ _ (kk _ _ _ _ lb1)
    refine (c_DivModN lb9 (k49 _ _ _ _ lg4) hy hgl hg0).use ?_
    rintro _ h10 w10 ⟨p2, q2, rfl, ⟨ra, rc, rfl, lr⟩, ⟨sa, sc, rfl, ls⟩, fm10⟩
    obtain ⟨F10, k10⟩ := F9.call fm10 w10
    obtain ⟨h11, b6, e11, u11, F11, k11, -, -, -⟩ := F10.new _ (st2 (b := false) (oa := none) (n := 0) (c := 0))
    obtain ⟨h12, b7, e12, u12, F12, k12, -, -, -⟩ := F11.new _ (st2 (b := false) (oa := none) (n := 0) (c := 0))
    obtain ⟨-, ⟨g6d, -, -⟩, -⟩ := F12.facts
    obtain ⟨h13, e13, F13, k13, -⟩ := F12.put1 [.bool false, .slice ra (de (m / Nat.gcd n.natAbs m)).length rc] st2 rfl
    obtain ⟨⟨g7d, -, -⟩, -⟩ := F13.facts
    obtain ⟨h14, e14, F14, k14, -⟩ := F13.put0 [.bool false, .slice sa (de (m % Nat.gcd n.natAbs m)).length sc] st2 rfl
    obtain ⟨-, ⟨-, -, n6f⟩, -, ⟨-, -, n4f⟩, -, ⟨g2f, -⟩, -⟩ := F14.facts
    obtain ⟨h15, e15, F15, k15, -⟩ := F14.put5 [.bool (decide (n / ((Nat.gcd n.natAbs m : Nat) : Int) < 0)), .slice pa (de (n / ((Nat.gcd n.natAbs m : Nat) : Int)).natAbs).length pc, .bool false, .slice ra (de (m / Nat.gcd n.natAbs m)).length rc] st4 rfl
    obtain ⟨-, -, -, -, -, ⟨-, -, n2g, -⟩, -⟩ := F15.facts
    simp +contextual (disch := omega) only [↓AM, ↓AV, AP, CQ, CN, i64, eA, uA, eB, uB, e3, u3, e6, u6, e7, u7, e11, u11, e12, u12, g6d, e13, g7d, e14, n6f, n4f, g2f, e15, n2g]
    have k1115 := (((k11.trans k12).trans k13).trans k14).trans k15
    exact ⟨⟨pa, pc, ra, rc, rfl, k1115 _ _ _ _ (k10 _ _ _ _ (((k6.trans k7).trans k8).trans k9 _ _ _ _ lp)), k1115 _ _ _ _ lr⟩, F15.fm⟩
end Go.Proofs.Ytikbdeobghoglaa.Nu

/- The fractions of the document: made and compared. Plain theorems over the abstract machine.
   Conditions: none. -/
namespace Go.Proofs.Ytikbdeobghoglaa.Nu
open Go Go.RowKit Go.Proofs.Ytikbdeobghoglaa.Am Go.Proofs.Ytikbdeobghoglaa.Af Go.Proofs.Ytikbdeobghoglaa.Md
set_option linter.unusedVariables false
set_option linter.unusedSimpArgs false
set_option linter.defProp false
set_option maxRecDepth 20000
set_option maxHeartbeats 1000000

theorem sgn_mul (x y : Int) : decide (x * y < 0) = ((decide (x < 0) != decide (y < 0)) && decide (0 < x.natAbs * y.natAbs)) := by
  by_cases hx : x < 0
  · by_cases hy : y < 0
    · rw [decide_eq_true hx, decide_eq_true hy, decide_eq_false (by have := Int.mul_pos_of_neg_of_neg hx hy; omega)]; rfl
    · rw [decide_eq_true hx, decide_eq_false hy]
      rcases Decidable.em (y = 0) with rfl | h0
      · simp
      · have := Int.mul_neg_of_neg_of_pos hx (show 0 < y by omega)
        rw [decide_eq_true this, decide_eq_true (Nat.mul_pos (by omega) (by omega))]; rfl
  · by_cases hy : y < 0
    · rw [decide_eq_false hx, decide_eq_true hy]
      rcases Decidable.em (x = 0) with rfl | h0
      · simp
      · have := Int.mul_neg_of_pos_of_neg (show 0 < x by omega) hy
        rw [decide_eq_true this, decide_eq_true (Nat.mul_pos (by omega) (by omega))]; rfl
    · rw [decide_eq_false hx, decide_eq_false hy, decide_eq_false (by have := Int.mul_nonneg (show 0 ≤ x by omega) (show 0 ≤ y by omega); omega)]; rfl
theorem c_MulZ {h : Hp} {u v : Value} {x y : Int} (lx : Zv h u x) (ly : Zv h v y) (hx : (de x.natAbs).length ≤ 400000) (hy : (de y.natAbs).length ≤ 400000) :
    ACalls Try.prog 47 [u, v] h fun r h' => Zv h' r (x * y) ∧ Fm No h h' := by
  obtain ⟨a, c, rfl, la⟩ := lx
  obtain ⟨b, d, rfl, lb⟩ := ly
  refine (c_bMul la lb hx hy).mono ?_
  rintro r h' ⟨l, fm⟩
  refine ⟨?_, fm⟩
  unfold Zv
  rw [sgn_mul, Int.natAbs_mul]
  exact l.bv
theorem de_mul {x y k l : Nat} (hx : (de x).length ≤ k) (hy : (de y).length ≤ l) : (de (x * y)).length ≤ k + l := by
  have h1 := vL_lt (de_dl x)
  have h2 := vL_lt (de_dl y)
  rw [de_val] at h1 h2
  refine de_len ?_
  have h3 : B24 ^ (de x).length ≤ B24 ^ k := Nat.pow_le_pow_right (by decide) hx
  have h4 : B24 ^ (de y).length ≤ B24 ^ l := Nat.pow_le_pow_right (by decide) hy
  rw [Nat.pow_add]
  exact Nat.mul_lt_mul_of_lt_of_le (Nat.lt_of_lt_of_le h1 h3) (Nat.le_trans (Nat.le_of_lt h2) h4) (Nat.lt_of_lt_of_le (by omega) h4)
theorem de3 {x : Nat} (h : x ≤ 9223372036854775807) : (de x).length ≤ 3 := de_len (Nat.lt_of_le_of_lt h (by decide))
theorem c_FracOf {h : Hp} {n : Int} {m : Nat} (hn : n.natAbs ≤ 9223372036854775807) (hm : m ≤ 9223372036854775807) (hm0 : 0 < m) :
    ACalls Try.prog 48 [.int .i64 n, .int .i64 (m : Int)] h fun v h' => Fv h' v (lowN n m) (lowD n m) ∧ Fm No h h' := by
  refine dioramaref00_FracOf_ok.snd Af.hm rfl fun w => ?_
  rw [WF_eq, dioramaref00_FracOf]
  obtain ⟨hA, b1, eA, uA, FA, -, -, -, lA⟩ := (Fr.mk0 w).new _ (st4 (b := false) (oa := none) (n := 0) (c := 0) (b' := false) (oa' := none) (n' := 0) (c' := 0))
  simp +contextual (disch := omega) only [↓AM, ↓AV, AP, CQ, CN, i64, eA, uA]
  refine (c_bOf hn).use ?_
  rintro _ h2 w2 ⟨ln0, fm2⟩
  obtain ⟨a, c, rfl, ln⟩ := ln0.bv
  obtain ⟨F2, k2⟩ := FA.call fm2 w2
  simp +contextual (disch := omega) only [↓AM, ↓AV, AP, CQ, CN, i64, eA, uA]
  refine (c_bOf (z := (m : Int)) (by rw [nab]; exact hm)).use ?_
  rintro _ h3 w3 ⟨lm0, fm3⟩
  obtain ⟨b, d, rfl, lm⟩ := lm0.bv
  rw [nab] at lm ⊢
  rw [dlt]
  obtain ⟨F3, k3⟩ := F2.call fm3 w3
  simp +contextual (disch := omega) only [↓AM, ↓AV, AP, CQ, CN, i64, eA, uA]
  refine (c_Lowest (k3 _ _ _ _ ln) lm (Nat.le_trans (de3 hn) (by decide)) (Nat.le_trans (de3 hm) (by decide)) hm0).use ?_
  rintro _ h4 w4 ⟨⟨p, q, r, s, rfl, l1, l2⟩, fm4⟩
  obtain ⟨F4, k4⟩ := F3.call fm4 w4
  obtain ⟨⟨g1, -⟩, -⟩ := F4.facts
  obtain ⟨h5, e5, F5, k5, -⟩ := F4.put0 [.bool (decide (lowN n m < 0)), .slice p (de (lowN n m).natAbs).length q, .bool false, .slice r (de (lowD n m)).length s] st4 rfl
  obtain ⟨⟨-, -, n1, -⟩, -⟩ := F5.facts
  simp +contextual (disch := omega) only [↓AM, ↓AV, AP, CQ, CN, i64, eA, uA, g1, e5, n1]
  exact ⟨⟨p, q, r, s, rfl, k5 _ _ _ _ l1, k5 _ _ _ _ l2⟩, F5.fm⟩
theorem st2i {k l : IntKind} {a b : Int} : ∀ (h : Hp), Fm No h (h.new ⟨[.int k a, .int l b], .own⟩) := fun h => Fm.new Fm.refl
theorem c_OfTime {h : Hp} {n : Int} {m : Nat} (hn : n.natAbs ≤ 9223372036854775807) (hm : m ≤ 9223372036854775807) (hm0 : 0 < m) :
    ACalls Try.prog 21 [.agg #[.int .i64 n, .int .i64 (m : Int)]] h fun v h' => Fv h' v (lowN n m) (lowD n m) ∧ Fm No h h' := by
  refine dioramaref00_OfTime_ok.snd Af.hm rfl fun w => ?_
  rw [WF_eq, dioramaref00_OfTime]
  obtain ⟨h0, e0⟩ : ∃ g, h.new ⟨[.int .i64 n, .int .i64 (m : Int)], .own⟩ = g := ⟨_, rfl⟩
  have w0 : Wf h0 := e0 ▸ w.new
  have f0 : Fm No h h0 := e0 ▸ Fm.new Fm.refl
  have g0 : h0.get h.size = some ⟨[.int .i64 n, .int .i64 (m : Int)], .own⟩ := e0 ▸ gnew
  obtain ⟨hA, b1, eA, uA, FA, -, fA, -, lA⟩ := (Fr.mk0 w0).new _ (st4 (b := false) (oa := none) (n := 0) (c := 0) (b' := false) (oa' := none) (n' := 0) (c' := 0))
  have r0 : ∀ i, hA.rd h.size i = ([.int .i64 n, .int .i64 (m : Int)] : List Value)[i]? := fun i => rd_mk (fA.keep w0 g0 (fun f => f))
  simp +contextual (disch := omega) only [↓AM, ↓AV, AP, CQ, CN, i64, e0, eA, uA, r0]
  refine (c_FracOf hn hm hm0).use ?_
  rintro _ h4 w4 ⟨⟨p, q, r, s, rfl, l1, l2⟩, fm4⟩
  obtain ⟨F4, k4⟩ := FA.call fm4 w4
  obtain ⟨⟨g1, -⟩, -⟩ := F4.facts
  obtain ⟨h5, e5, F5, k5, -⟩ := F4.put0 [.bool (decide (lowN n m < 0)), .slice p (de (lowN n m).natAbs).length q, .bool false, .slice r (de (lowD n m)).length s] st4 rfl
  obtain ⟨⟨-, -, n1, -⟩, -⟩ := F5.facts
  simp +contextual (disch := omega) only [↓AM, ↓AV, AP, CQ, CN, i64, e0, eA, uA, g1, e5, n1]
  exact ⟨⟨p, q, r, s, rfl, k5 _ _ _ _ l1, k5 _ _ _ _ l2⟩, f0.trans F5.fm fun _ _ f => f⟩
theorem c_CmpF {h : Hp} {u v : Value} {n1 n2 : Int} {m1 m2 : Nat} (lu : Fv h u n1 m1) (lv : Fv h v n2 m2) (k1 : (de n1.natAbs).length ≤ 400) (k2 : (de m1).length ≤ 400) (k3 : (de n2.natAbs).length ≤ 400) (k4 : (de m2).length ≤ 400) :
    ACalls Try.prog 20 [u, v] h fun r h' => r = .int .i64 (if n1 * m2 < n2 * m1 then -1 else if n1 * m2 = n2 * m1 then 0 else 1) ∧ Fm No h h' := by
  refine dioramaref00_CmpF_ok.snd Af.hm rfl fun w => ?_
  rw [WF_eq, dioramaref00_CmpF]
  obtain ⟨a1, c1, b1, d1, rfl, l1, l2⟩ := lu
  obtain ⟨a2, c2, b2, d2, rfl, l3, l4⟩ := lv
  obtain ⟨hA, x1, eA, uA, FA, kA, -, -, -⟩ := (Fr.mk0 w).new _ (st4 (b := decide (n1 < 0)) (oa := a1) (n := (de n1.natAbs).length) (c := c1) (b' := false) (oa' := b1) (n' := (de m1).length) (c' := d1))
  obtain ⟨hB, x2, eB, uB, FB, kB, -, -, -⟩ := FA.new _ (st4 (b := decide (n2 < 0)) (oa := a2) (n := (de n2.natAbs).length) (c := c2) (b' := false) (oa' := b2) (n' := (de m2).length) (c' := d2))
  obtain ⟨⟨g2, -, n2a, n2b, n2c⟩, ⟨g1, -, n1a, n1b, n1c⟩, -⟩ := FB.facts
  have kk := kA.trans kB
  have z1 : Zv hB (.agg #[.bool (decide (n1 < 0)), .slice a1 (de n1.natAbs).length c1]) n1 := ⟨a1, c1, rfl, kk _ _ _ _ l1⟩
  have z2 : Zv hB (.agg #[.bool (decide (n2 < 0)), .slice a2 (de n2.natAbs).length c2]) n2 := ⟨a2, c2, rfl, kk _ _ _ _ l3⟩
  have z3 : Zv hB (.agg #[.bool false, .slice b1 (de m1).length d1]) (m1 : Int) := zv_pos ⟨b1, d1, rfl, kk _ _ _ _ l2⟩
  have z4 : Zv hB (.agg #[.bool false, .slice b2 (de m2).length d2]) (m2 : Int) := zv_pos ⟨b2, d2, rfl, kk _ _ _ _ l4⟩
  simp +contextual (disch := omega) only [↓AM, ↓AV, AP, CQ, CN, i64, eA, uA, eB, uB, n1b, n2c, n2b, n1c]
  refine (c_MulZ z1 z4 (by omega) (by rw [nab]; omega)).use ?_
  rintro p h2 w2 ⟨lp, fm2⟩
  obtain ⟨F2, kC⟩ := FB.call fm2 w2
  obtain ⟨⟨-, -, n3a, n3b, n3c⟩, ⟨-, -, n4a, n4b, n4c⟩, -⟩ := F2.facts
  simp +contextual (disch := omega) only [↓AM, ↓AV, AP, CQ, CN, i64, n3b, n3c, n4b, n4c]
  refine ⟨⟨_, rfl, rfl⟩, ⟨_, rfl, rfl⟩, ?_⟩
  refine (c_MulZ (z2.kp kC) (z3.kp kC) (by omega) (by rw [nab]; omega)).use ?_
  rintro q h3 w3 ⟨lq, fm3⟩
  obtain ⟨F3, kD⟩ := F2.call fm3 w3
  simp +contextual (disch := omega) only [↓AM, ↓AV, AP, CQ, CN, i64]
  have s1 := de_mul k1 k4
  have s2 := de_mul k3 k2
  refine (c_Cmp00 (lp.kp kD) lq (by rw [Int.natAbs_mul, nab]; omega) (by rw [Int.natAbs_mul, nab]; omega)).use ?_
  rintro _ h5 w5 ⟨rfl, fm5⟩
  simp +contextual (disch := omega) only [↓AM, ↓AV, AP, CQ, CN, i64]
  exact F3.fm.trans fm5 fun _ _ f => f
end Go.Proofs.Ytikbdeobghoglaa.Nu

/- The functions of the program in the abstract machine's words, printed by a program of ours; each is the program's by the kernel's reckoning.
   Conditions: none. -/
namespace Go.Proofs.Ytikbdeobghoglaa.Af
open Go Go.RowKit Go.Proofs.Ytikbdeobghoglaa.Am
/-- diorama/dioramalaw27.StreamWindows -/
def dioramalaw27_StreamWindows : AF := ⟨94, [.tmp 2],
 .seq (
  .ops [D 1 (.box (T 0)),
   D 2 (.mv (.const (.bool false)))]) (
 .trim [3, 4, 5, 6] (
  .draw [⟨0, 0, 0, D 19 (.fa 0 (T 1))⟩,
   ⟨1, 1, 1, D 20 (.ld1 (T 19))⟩,
   ⟨2, 0, 0, D 21 (.fa 1 (T 1))⟩,
   ⟨3, 1, 4, D 22 (.ldN 2 (T 21))⟩,
   ⟨4, 0, 0, D 23 (.fa 3 (T 1))⟩,
   ⟨5, 1, 16, D 24 (.ld1 (T 23))⟩,
   ⟨6, 0, 0, D 25 (.fa 4 (T 1))⟩,
   ⟨7, 1, 64, D 26 (.ld1 (T 25))⟩,
   ⟨8, 2, 0, D 4 (.alloc [(.int .i64 0), (.int .i64 0)])⟩,
   ⟨9, 0, 259, D 3 (.mv (T 20))⟩,
   ⟨10, 4, 783, E (.st 2 (T 4) (T 22))⟩,
   ⟨11, 0, 1855, D 5 (.mv (T 24))⟩,
   ⟨12, 0, 4095, D 6 (.mv (T 26))⟩]) (
 .trim [3, 4, 5, 6] (
  .seq (
   .ops [D 27 (.mv (T 3)),
    D 28 (.call 9 [(T 27)]),
    D 29 (.un .not (T 28))]) (
  .cond (T 29) (
   .seq (
    .ops [D 30 (.call 10 []),
     D 2 (.mv (T 30))]) (
   .ret)) (
   .skip))) (
 .trim [3, 4, 5, 6, 7, 8, 9] (
  .ops [D 32 (.mv (T 3)),
   D 33 (.ldN 2 (T 4)),
   D 34 (.mv (T 5)),
   D 35 (.call 11 [(T 32), (T 33), (T 34)]),
   D 31 (.mv (T 35)),
   D 36 (.ext (T 31) 0),
   D 37 (.ext (T 31) 1),
   D 38 (.ext (T 31) 2),
   D 7 (.mv (T 36)),
   D 8 (.mv (T 37)),
   D 9 (.mv (T 38))]) (
 .trim [3, 4, 5, 6, 7, 8, 9, 10, 11, 12] (
  .ops [D 40 (.mv (T 3)),
   D 41 (.ldN 2 (T 4)),
   D 42 (.mv (T 5)),
   D 43 (.call 12 [(T 40), (T 41), (T 42)]),
   D 39 (.mv (T 43)),
   D 44 (.ext (T 39) 0),
   D 45 (.ext (T 39) 1),
   D 46 (.ext (T 39) 2),
   D 10 (.mv (T 44)),
   D 11 (.mv (T 45)),
   D 12 (.mv (T 46))]) (
 .trim [3, 4, 5, 6] (
  .trim [3, 4, 5, 6, 59] (
   .ops [D 47 (.mv (T 7)),
    D 48 (.mv (T 10)),
    D 49 (.bin .neq (T 47) (T 48)),
    D 50 (.mv (T 49)),
    ⟨(some 51), some (50, false), .mv (T 8)⟩,
    ⟨(some 52), some (50, false), .mv (T 11)⟩,
    ⟨(some 53), some (50, false), .bin .neq (T 51) (T 52)⟩,
    D 54 (.pick (T 50) (.const (.bool true)) (T 53)),
    D 55 (.mv (T 54)),
    ⟨(some 56), some (55, false), .mv (T 9)⟩,
    ⟨(some 57), some (55, false), .mv (T 12)⟩,
    ⟨(some 58), some (55, false), .bin .neq (T 56) (T 57)⟩,
    D 59 (.pick (T 55) (.const (.bool true)) (T 58))]) (
  .cond (T 59) (
   .seq (
    .ops [D 2 (.mv (.const (.bool false)))]) (
   .ret)) (
   .skip))) (
 .trim [3, 4, 5, 6, 13, 14, 15] (
  .ops [D 61 (.mv (T 3)),
   D 62 (.ldN 2 (T 4)),
   D 63 (.mv (T 5)),
   D 64 (.mv (T 6)),
   D 65 (.call 13 [(T 61), (T 62), (T 63), (T 64)]),
   D 60 (.mv (T 65)),
   D 66 (.ext (T 60) 0),
   D 67 (.ext (T 60) 1),
   D 68 (.ext (T 60) 2),
   D 13 (.mv (T 66)),
   D 14 (.mv (T 67)),
   D 15 (.mv (T 68))]) (
 .trim [13, 14, 15, 16, 17, 18] (
  .ops [D 70 (.mv (T 3)),
   D 71 (.ldN 2 (T 4)),
   D 72 (.mv (T 5)),
   D 73 (.mv (T 6)),
   D 74 (.call 14 [(T 70), (T 71), (T 72), (T 73)]),
   D 69 (.mv (T 74)),
   D 75 (.ext (T 69) 0),
   D 76 (.ext (T 69) 1),
   D 77 (.ext (T 69) 2),
   D 16 (.mv (T 75)),
   D 17 (.mv (T 76)),
   D 18 (.mv (T 77))]) (
 .trim [2] (
  .ops [D 78 (.mv (T 13)),
   D 79 (.mv (T 16)),
   D 80 (.bin .eql (T 78) (T 79)),
   D 81 (.mv (T 80)),
   ⟨(some 82), some (81, true), .mv (T 14)⟩,
   ⟨(some 83), some (81, true), .mv (T 17)⟩,
   ⟨(some 84), some (81, true), .bin .eql (T 82) (T 83)⟩,
   D 85 (.pick (T 81) (T 84) (.const (.bool false))),
   D 86 (.mv (T 85)),
   ⟨(some 87), some (86, true), .mv (T 15)⟩,
   ⟨(some 88), some (86, true), .mv (T 18)⟩,
   ⟨(some 89), some (86, true), .bin .eql (T 87) (T 88)⟩,
   D 90 (.pick (T 86) (T 89) (.const (.bool false))),
   D 91 (.mv (T 90)),
   ⟨(some 92), some (91, true), .call 10 []⟩,
   D 93 (.pick (T 91) (T 92) (.const (.bool false))),
   D 2 (.mv (T 93))]) (
 .ret)))))))))⟩
theorem dioramalaw27_StreamWindows_ok : Ok Try.prog 3 dioramalaw27_StreamWindows := ⟨by kernel_rfl, by kernel_rfl⟩

/-- diorama/dioramalaw27.StreamFollows -/
def dioramalaw27_StreamFollows : AF := ⟨71, [.tmp 6],
 .seq (
  .ops [D 6 (.mv (.const (.bool false)))]) (
 .trim [0, 1, 2] (
  .trim [0, 1, 2, 21] (
   .ops [D 14 (.mv (T 0)),
    D 15 (.call 9 [(T 14)]),
    D 16 (.un .not (T 15)),
    D 17 (.mv (T 16)),
    ⟨(some 18), some (17, false), .mv (T 1)⟩,
    ⟨(some 19), some (17, false), .len (T 18)⟩,
    ⟨(some 20), some (17, false), .bin .gtr (T 19) (I 100)⟩,
    D 21 (.pick (T 17) (.const (.bool true)) (T 20))]) (
  .cond (T 21) (
   .seq (
    .ops [D 22 (.call 10 []),
     D 6 (.mv (T 22))]) (
   .ret)) (
   .skip))) (
 .trim [0, 1, 2, 7, 8, 9] (
  .ops [D 24 (.mv (T 0)),
   D 25 (.mv (T 1)),
   D 26 (.mv (T 2)),
   D 27 (.call 15 [(T 24), (T 25), (T 26)]),
   D 23 (.mv (T 27)),
   D 28 (.ext (T 23) 0),
   D 29 (.ext (T 23) 1),
   D 30 (.ext (T 23) 2),
   D 7 (.mv (T 28)),
   D 8 (.mv (T 29)),
   D 9 (.mv (T 30))]) (
 .trim [7, 8, 9, 10, 11, 12] (
  .ops [D 32 (.mv (T 0)),
   D 33 (.mv (T 1)),
   D 34 (.mv (T 2)),
   D 35 (.call 16 [(T 32), (T 33), (T 34)]),
   D 31 (.mv (T 35)),
   D 36 (.ext (T 31) 0),
   D 37 (.ext (T 31) 1),
   D 38 (.ext (T 31) 2),
   D 10 (.mv (T 36)),
   D 11 (.mv (T 37)),
   D 12 (.mv (T 38))]) (
 .trim [7] (
  .trim [7, 53] (
   .ops [D 39 (.mv (T 9)),
    D 40 (.mv (T 12)),
    D 41 (.bin .neq (T 39) (T 40)),
    D 42 (.mv (T 41)),
    ⟨(some 43), some (42, false), .mv (T 7)⟩,
    ⟨(some 44), some (42, false), .mv (T 10)⟩,
    ⟨(some 45), some (42, false), .call 17 [(T 43), (T 44)]⟩,
    ⟨(some 46), some (42, false), .un .not (T 45)⟩,
    D 47 (.pick (T 42) (.const (.bool true)) (T 46)),
    D 48 (.mv (T 47)),
    ⟨(some 49), some (48, false), .mv (T 8)⟩,
    ⟨(some 50), some (48, false), .mv (T 11)⟩,
    ⟨(some 51), some (48, false), .call 17 [(T 49), (T 50)]⟩,
    ⟨(some 52), some (48, false), .un .not (T 51)⟩,
    D 53 (.pick (T 48) (.const (.bool true)) (T 52))]) (
  .cond (T 53) (
   .seq (
    .ops [D 6 (.mv (.const (.bool false)))]) (
   .ret)) (
   .skip))) (
 .trim [] (
  .seq (
   .ops [D 13 (.mv (I 1))]) (
  .block 0 (
   .loop [7, 13] (
    .seq (
     .seq (
      .ops [D 54 (.mv (T 13)),
       D 55 (.mv (T 7)),
       D 56 (.len (T 55)),
       D 57 (.bin .lss (T 54) (T 56))]) (
     .cond (T 57) (
      .skip) (
      .exit 0))) (
    .trim [7, 13] (
     .block 1 (
      .trim [7, 13, 69] (
       .draw [⟨0, 0, 0, D 60 (.mv (T 7))⟩,
        ⟨1, 0, 0, D 61 (.mv (T 13))⟩,
        ⟨2, 0, 3, D 62 (.ia 1 (T 60) (T 61))⟩,
        ⟨3, 1, 7, D 63 (.ld1 (T 62))⟩,
        ⟨4, 0, 0, D 64 (.mv (T 7))⟩,
        ⟨5, 0, 0, D 65 (.mv (T 13))⟩,
        ⟨6, 0, 32, D 66 (.bin .sub (T 65) (I 1))⟩,
        ⟨7, 0, 112, D 67 (.ia 1 (T 64) (T 66))⟩,
        ⟨8, 1, 240, D 68 (.ld1 (T 67))⟩,
        ⟨9, 0, 511, D 69 (.bin .leq (T 63) (T 68))⟩]) (
      .cond (T 69) (
       .seq (
        .ops [D 6 (.mv (.const (.bool false)))]) (
       .ret)) (
       .skip)))) (
    .ops [D 58 (.mv (T 13)),
     D 59 (.bin .add (T 58) (I 1)),
     D 13 (.mv (T 59))])))))) (
 .seq (
  .ops [D 70 (.call 10 []),
   D 6 (.mv (T 70))]) (
 .ret)))))))⟩
theorem dioramalaw27_StreamFollows_ok : Ok Try.prog 4 dioramalaw27_StreamFollows := ⟨by kernel_rfl, by kernel_rfl⟩

/-- diorama/stream.Window -/
def stream_Window : AF := ⟨32, [.tmp 6, .tmp 7, .tmp 8],
 .seq (
  .ops [D 4 (.box (T 1)),
   D 6 (.mv (I 0)),
   D 7 (.mv (I 0)),
   D 8 (.mv (I 0))]) (
 .trim [9, 10] (
  .ops [D 12 (.mv (T 0)),
   D 13 (.ldN 2 (T 4)),
   D 14 (.mv (T 2)),
   D 15 (.call 29 [(T 12), (T 13), (T 14)]),
   D 11 (.mv (T 15)),
   D 16 (.ext (T 11) 0),
   D 17 (.ext (T 11) 1),
   D 9 (.mv (T 16)),
   D 10 (.mv (T 17))]) (
 .trim [9] (
  .trim [9, 10, 24] (
   .ops [D 18 (.mv (T 10)),
    D 19 (.bin .neq (T 18) (I 0)),
    D 20 (.mv (T 19)),
    ⟨(some 21), some (20, false), .mv (T 9)⟩,
    ⟨(some 22), some (20, false), .len (T 21)⟩,
    ⟨(some 23), some (20, false), .bin .eql (T 22) (I 0)⟩,
    D 24 (.pick (T 20) (.const (.bool true)) (T 23))]) (
  .cond (T 24) (
   .seq (
    .ops [D 25 (.mv (T 10)),
     D 6 (.mv (I 0)),
     D 7 (.mv (I 0)),
     D 8 (.mv (T 25))]) (
   .ret)) (
   .skip))) (
 .trim [6, 7, 8] (
  .ops [D 26 (.mv (T 9)),
   D 27 (.ia 7 (T 26) (I 0)),
   D 28 (.fa 0 (T 27)),
   D 29 (.ld1 (T 28)),
   D 30 (.mv (T 9)),
   D 31 (.len (T 30)),
   D 6 (.mv (T 29)),
   D 7 (.mv (T 31)),
   D 8 (.mv (I 0))]) (
 .ret))))⟩
theorem stream_Window_ok : Ok Try.prog 11 stream_Window := ⟨by kernel_rfl, by kernel_rfl⟩

/-- diorama/dioramaref27.Window -/
def dioramaref27_Window : AF := ⟨31, [.tmp 6, .tmp 7, .tmp 8],
 .seq (
  .ops [D 4 (.box (T 1)),
   D 6 (.mv (I 0)),
   D 7 (.mv (I 0)),
   D 8 (.mv (I 0))]) (
 .seq (
  .ops [D 11 (.mv (T 0)),
   D 12 (.ldN 2 (T 4)),
   D 13 (.mv (T 2)),
   D 14 (.call 30 [(T 11), (T 12), (T 13)]),
   D 9 (.mv (T 14))]) (
 .trim [0, 2, 4] (
  .seq (
   .ops [D 15 (.mv (T 9)),
    D 16 (.bin .neq (T 15) (I 0))]) (
  .cond (T 16) (
   .seq (
    .ops [D 17 (.mv (T 9)),
     D 6 (.mv (I 0)),
     D 7 (.mv (I 0)),
     D 8 (.mv (T 17))]) (
   .ret)) (
   .skip))) (
 .seq (
  .ops [D 18 (.mv (T 0)),
   D 19 (.ldN 2 (T 4)),
   D 20 (.mv (T 2)),
   D 21 (.call 31 [(T 18), (T 19), (T 20)]),
   D 10 (.mv (T 21))]) (
 .trim [10] (
  .seq (
   .ops [D 22 (.mv (T 10)),
    D 23 (.len (T 22)),
    D 24 (.bin .eql (T 23) (I 0))]) (
  .cond (T 24) (
   .seq (
    .ops [D 6 (.mv (I 0)),
     D 7 (.mv (I 0)),
     D 8 (.mv (I 0))]) (
   .ret)) (
   .skip))) (
 .trim [6, 7, 8] (
  .ops [D 25 (.mv (T 10)),
   D 26 (.ia 7 (T 25) (I 0)),
   D 27 (.fa 0 (T 26)),
   D 28 (.ld1 (T 27)),
   D 29 (.mv (T 10)),
   D 30 (.len (T 29)),
   D 6 (.mv (T 28)),
   D 7 (.mv (T 30)),
   D 8 (.mv (I 0))]) (
 .ret))))))⟩
theorem dioramaref27_Window_ok : Ok Try.prog 12 dioramaref27_Window := ⟨by kernel_rfl, by kernel_rfl⟩

/-- diorama/stream.Next -/
def stream_Next : AF := ⟨57, [.tmp 8, .tmp 9, .tmp 10],
 .seq (
  .ops [D 5 (.box (T 1)),
   D 7 (.box (T 3)),
   D 8 (.mv (I 0)),
   D 9 (.mv (I 0)),
   D 10 (.mv (I 0))]) (
 .trim [7, 11, 12] (
  .ops [D 14 (.mv (T 0)),
   D 15 (.ldN 2 (T 5)),
   D 16 (.mv (T 2)),
   D 17 (.call 29 [(T 14), (T 15), (T 16)]),
   D 13 (.mv (T 17)),
   D 18 (.ext (T 13) 0),
   D 19 (.ext (T 13) 1),
   D 11 (.mv (T 18)),
   D 12 (.mv (T 19))]) (
 .trim [7, 11] (
  .seq (
   .ops [D 20 (.mv (T 12)),
    D 21 (.bin .neq (T 20) (I 0))]) (
  .cond (T 21) (
   .seq (
    .ops [D 22 (.mv (T 12)),
     D 8 (.mv (I 0)),
     D 9 (.mv (I 0)),
     D 10 (.mv (T 22))]) (
   .ret)) (
   .skip))) (
 .trim [7, 11] (
  .seq (
   .ops [D 23 (.ld1 (T 7)),
    D 24 (.bin .lss (T 23) (I 0))]) (
  .cond (T 24) (
   .seq (
    .ops [D 8 (.mv (I 0)),
     D 9 (.mv (I 0)),
     D 10 (.mv (I 1))]) (
   .ret)) (
   .skip))) (
 .trim [] (
  .block 0 (
   .seq (
    .ops [D 26 (.mv (T 11)),
     D 27 (.len (T 26)),
     D 28 (.bin .eql (T 27) (I 0)),
     D 25 (.mv (T 28))]) (
   .cond (T 25) (
    .seq (
     .ops [D 8 (.mv (I 0)),
      D 9 (.mv (I 1)),
      D 10 (.mv (I 0))]) (
    .ret)) (
    .seq (
     .ops [D 30 (.ld1 (T 7)),
      D 31 (.bin .eql (T 30) (I 0)),
      D 29 (.mv (T 31))]) (
    .cond (T 29) (
     .trim [8, 9, 10] (
      .ops [D 32 (.mv (T 11)),
       D 33 (.mv (T 11)),
       D 34 (.len (T 33)),
       D 35 (.bin .sub (T 34) (I 1)),
       D 36 (.ia 7 (T 32) (T 35)),
       D 37 (.fa 0 (T 36)),
       D 38 (.ld1 (T 37)),
       D 8 (.mv (T 38)),
       D 9 (.mv (I 0)),
       D 10 (.mv (I 0))]) (
     .ret)) (
     .seq (
      .ops [D 40 (.mv (T 11)),
       D 41 (.mkf 33 [] [(T 7)]),
       D 42 (.call 32 [(T 40), (T 41)]),
       D 39 (.mv (T 42))]) (
     .cond (T 39) (
      .seq (
       .ops [D 43 (.ld1 (T 7)),
        D 44 (.bin .add (T 43) (I 1)),
        D 8 (.mv (T 44)),
        D 9 (.mv (I 0)),
        D 10 (.mv (I 0))]) (
      .ret)) (
      .trim [11, 45] (
       .draw [⟨0, 1, 0, D 46 (.ld1 (T 7))⟩,
        ⟨1, 0, 0, D 47 (.mv (T 11))⟩,
        ⟨2, 0, 2, D 48 (.ia 7 (T 47) (I 0))⟩,
        ⟨3, 0, 6, D 49 (.fa 0 (T 48))⟩,
        ⟨4, 1, 14, D 50 (.ld1 (T 49))⟩,
        ⟨5, 0, 30, D 51 (.bin .sub (T 50) (I 1))⟩,
        ⟨6, 0, 63, D 52 (.bin .lss (T 46) (T 51))⟩,
        ⟨7, 0, 127, D 45 (.mv (T 52))⟩]) (
      .cond (T 45) (
       .seq (
        .ops [D 53 (.mv (T 11)),
         D 54 (.ia 7 (T 53) (I 0)),
         D 55 (.fa 0 (T 54)),
         D 56 (.ld1 (T 55)),
         D 8 (.mv (T 56)),
         D 9 (.mv (I 2)),
         D 10 (.mv (I 0))]) (
       .ret)) (
       .skip)))))))))) (
 .seq (
  .ops [D 8 (.mv (I 0)),
   D 9 (.mv (I 1)),
   D 10 (.mv (I 0))]) (
 .ret))))))⟩
theorem stream_Next_ok : Ok Try.prog 13 stream_Next := ⟨by kernel_rfl, by kernel_rfl⟩

/-- diorama/dioramaref27.Next -/
def dioramaref27_Next : AF := ⟨34, [.tmp 8, .tmp 9, .tmp 10],
 .seq (
  .ops [D 5 (.box (T 1)),
   D 8 (.mv (I 0)),
   D 9 (.mv (I 0)),
   D 10 (.mv (I 0))]) (
 .seq (
  .ops [D 14 (.mv (T 0)),
   D 15 (.ldN 2 (T 5)),
   D 16 (.mv (T 2)),
   D 17 (.call 30 [(T 14), (T 15), (T 16)]),
   D 11 (.mv (T 17))]) (
 .trim [0, 2, 3, 5] (
  .seq (
   .ops [D 18 (.mv (T 11)),
    D 19 (.bin .neq (T 18) (I 0))]) (
  .cond (T 19) (
   .seq (
    .ops [D 20 (.mv (T 11)),
     D 8 (.mv (I 0)),
     D 9 (.mv (I 0)),
     D 10 (.mv (T 20))]) (
   .ret)) (
   .skip))) (
 .trim [0, 2, 3, 5] (
  .seq (
   .ops [D 21 (.mv (T 3)),
    D 22 (.bin .lss (T 21) (I 0))]) (
  .cond (T 22) (
   .seq (
    .ops [D 8 (.mv (I 0)),
     D 9 (.mv (I 0)),
     D 10 (.mv (I 1))]) (
   .ret)) (
   .skip))) (
 .trim [12, 13] (
  .ops [D 24 (.mv (T 0)),
   D 25 (.ldN 2 (T 5)),
   D 26 (.mv (T 2)),
   D 27 (.call 31 [(T 24), (T 25), (T 26)]),
   D 28 (.mv (T 3)),
   D 29 (.call 34 [(T 27), (T 28)]),
   D 23 (.mv (T 29)),
   D 30 (.ext (T 23) 0),
   D 31 (.ext (T 23) 1),
   D 12 (.mv (T 30)),
   D 13 (.mv (T 31))]) (
 .seq (
  .ops [D 32 (.mv (T 12)),
   D 33 (.mv (T 13)),
   D 8 (.mv (T 32)),
   D 9 (.mv (T 33)),
   D 10 (.mv (I 0))]) (
 .ret))))))⟩
theorem dioramaref27_Next_ok : Ok Try.prog 14 dioramaref27_Next := ⟨by kernel_rfl, by kernel_rfl⟩

/-- diorama/stream.Follow -/
def stream_Follow : AF := ⟨90, [.tmp 6, .tmp 7, .tmp 8],
 .seq (
  .ops [D 6 (.mv (.const (.slice none 0 0))),
   D 7 (.mv (.const (.slice none 0 0))),
   D 8 (.mv (I 0))]) (
 .trim [0, 1, 2] (
  .seq (
   .ops [D 23 (.mv (T 1)),
    D 24 (.len (T 23)),
    D 25 (.mv (I 0))]) (
  .block 0 (
   .loop [0, 1, 2, 23, 24, 25] (
    .seq (
     .ops [D 26 (.bin .lss (T 25) (T 24))]) (
    .seq (
     .cond (T 26) (
      .skip) (
      .exit 0)) (
    .trim [0, 1, 2, 23, 24, 25] (
     .block 1 (
      .seq (
       .ops [D 27 (.mv (T 25)),
        D 28 (.ia 2 (T 23) (T 25)),
        D 29 (.ldN 2 (T 28)),
        D 10 (.alloc [(.int .i64 0), (.int .i64 0)]),
        D 9 (.mv (T 27)),
        E (.st 2 (T 10) (T 29))]) (
      .trim [0, 1, 2, 9, 10, 23, 24, 25] (
       .seq (
        .ops [D 30 (.ldN 2 (T 10)),
         D 31 (.call 35 [(T 30)]),
         D 32 (.un .not (T 31))]) (
       .cond (T 32) (
        .seq (
         .ops [D 6 (.mv (.const (.slice none 0 0))),
          D 7 (.mv (.const (.slice none 0 0))),
          D 8 (.mv (I 4))]) (
        .ret)) (
        .skip))) (
      .seq (
       .ops [D 33 (.mv (T 9)),
        D 34 (.bin .gtr (T 33) (I 0))]) (
      .cond (T 34) (
       .trim [0, 1, 2, 11, 23, 24, 25] (
        .draw [⟨0, 0, 0, D 36 (.mv (T 1))⟩,
         ⟨1, 0, 0, D 37 (.mv (T 9))⟩,
         ⟨2, 0, 2, D 38 (.bin .sub (T 37) (I 1))⟩,
         ⟨3, 0, 7, D 39 (.ia 2 (T 36) (T 38))⟩,
         ⟨4, 1, 15, D 40 (.ldN 2 (T 39))⟩,
         ⟨5, 1, 0, D 41 (.ldN 2 (T 10))⟩,
         ⟨6, 4, 63, D 42 (.call 36 [(T 40), (T 41)])⟩,
         ⟨7, 0, 127, D 35 (.mv (T 42))⟩,
         ⟨8, 0, 255, D 43 (.ext (T 35) 0)⟩,
         ⟨9, 0, 255, D 44 (.ext (T 35) 1)⟩,
         ⟨10, 0, 511, D 11 (.mv (T 43))⟩,
         ⟨11, 0, 2047, D 12 (.mv (T 44))⟩]) (
       .seq (
        .ops [D 45 (.mv (T 11)),
         D 46 (.bin .geq (T 45) (I 0))]) (
       .cond (T 46) (
        .seq (
         .ops [D 6 (.mv (.const (.slice none 0 0))),
          D 7 (.mv (.const (.slice none 0 0))),
          D 8 (.mv (I 4))]) (
        .ret)) (
        .skip)))) (
       .skip)))))) (
    .ops [D 47 (.bin .add (T 25) (I 1)),
     D 25 (.mv (T 47))]))))))) (
 .trim [0, 1, 2] (
  .trim [0, 1, 2, 14] (
   .ops [D 49 (.mv (T 0)),
    D 50 (.build [(.int .i64 0), (.int .i64 0)] [(1, 1, (I 1))]),
    D 51 (.mv (T 2)),
    D 52 (.call 29 [(T 49), (T 50), (T 51)]),
    D 48 (.mv (T 52)),
    D 53 (.ext (T 48) 0),
    D 54 (.ext (T 48) 1),
    D 13 (.mv (T 53)),
    D 14 (.mv (T 54))]) (
  .seq (
   .ops [D 55 (.mv (T 14)),
    D 56 (.bin .neq (T 55) (I 0))]) (
  .cond (T 56) (
   .seq (
    .ops [D 57 (.mv (T 14)),
     D 6 (.mv (.const (.slice none 0 0))),
     D 7 (.mv (.const (.slice none 0 0))),
     D 8 (.mv (T 57))]) (
   .ret)) (
   .skip)))) (
 .seq (
  .ops [D 15 (.mv (.const (.slice none 0 0))),
   D 16 (.mv (.const (.slice none 0 0)))]) (
 .seq (
  .ops [D 17 (.mv (I 0))]) (
 .trim [15, 16] (
  .seq (
   .ops [D 58 (.mv (T 1)),
    D 59 (.len (T 58)),
    D 60 (.mv (I 0))]) (
  .block 2 (
   .loop [0, 2, 15, 16, 17, 58, 59, 60] (
    .seq (
     .ops [D 61 (.bin .lss (T 60) (T 59))]) (
    .seq (
     .cond (T 61) (
      .skip) (
      .exit 2)) (
    .trim [0, 2, 15, 16, 17, 58, 59, 60] (
     .block 3 (
      .seq (
       .ops [D 62 (.ia 2 (T 58) (T 60)),
        D 63 (.ldN 2 (T 62)),
        D 19 (.alloc [(.int .i64 0), (.int .i64 0)]),
        E (.st 2 (T 19) (T 63))]) (
      .trim [0, 2, 15, 16, 17, 20, 21, 58, 59, 60] (
       .ops [D 65 (.mv (T 0)),
        D 66 (.ldN 2 (T 19)),
        D 67 (.mv (T 2)),
        D 68 (.mv (T 17)),
        D 69 (.call 13 [(T 65), (T 66), (T 67), (T 68)]),
        D 64 (.mv (T 69)),
        D 70 (.ext (T 64) 0),
        D 71 (.ext (T 64) 1),
        D 72 (.ext (T 64) 2),
        D 20 (.mv (T 70)),
        D 21 (.mv (T 71)),
        D 22 (.mv (T 72))]) (
      .seq (
       .seq (
        .ops [D 73 (.mv (T 21)),
         D 74 (.bin .eql (T 73) (I 1))]) (
       .cond (T 74) (
        .exit 3) (
        .skip))) (
      .trim [0, 2, 15, 16, 20, 58, 59, 60] (
       .seq (
        .ops [D 75 (.mv (T 21)),
         D 76 (.bin .eql (T 75) (I 2))]) (
       .cond (T 76) (
        .ops [D 77 (.mv (T 16)),
         D 78 (.mv (T 15)),
         D 79 (.len (T 78)),
         D 80 (.bslice [(.int .i64 0)] 1 [(0, 1, (T 79))]),
         D 81 (.app 1 8 (T 77) (T 80)),
         D 16 (.mv (T 81))]) (
        .skip))) (
      .seq (
       .ops [D 82 (.mv (T 15)),
        D 83 (.mv (T 20)),
        D 84 (.bslice [(.int .i64 0)] 1 [(0, 1, (T 83))]),
        D 85 (.app 1 8 (T 82) (T 84)),
        D 15 (.mv (T 85))]) (
      .ops [D 86 (.mv (T 20)),
       D 17 (.mv (T 86))]))))))) (
    .ops [D 87 (.bin .add (T 60) (I 1)),
     D 60 (.mv (T 87))]))))))) (
 .seq (
  .ops [D 88 (.mv (T 15)),
   D 89 (.mv (T 16)),
   D 6 (.mv (T 88)),
   D 7 (.mv (T 89)),
   D 8 (.mv (I 0))]) (
 .ret)))))))⟩
theorem stream_Follow_ok : Ok Try.prog 15 stream_Follow := ⟨by kernel_rfl, by kernel_rfl⟩

/-- diorama/dioramaref27.Follow -/
def dioramaref27_Follow : AF := ⟨89, [.tmp 6, .tmp 7, .tmp 8],
 .seq (
  .ops [D 6 (.mv (.const (.slice none 0 0))),
   D 7 (.mv (.const (.slice none 0 0))),
   D 8 (.mv (I 0))]) (
 .trim [0, 1, 2] (
  .seq (
   .ops [D 9 (.mv (I 0))]) (
  .block 0 (
   .loop [0, 1, 2, 9] (
    .seq (
     .seq (
      .ops [D 17 (.mv (T 9)),
       D 18 (.mv (T 1)),
       D 19 (.len (T 18)),
       D 20 (.bin .lss (T 17) (T 19))]) (
     .cond (T 20) (
      .skip) (
      .exit 0))) (
    .trim [0, 1, 2, 9] (
     .block 1 (
      .trim [0, 1, 2, 9, 47] (
       .draw [⟨0, 0, 0, D 23 (.mv (T 1))⟩,
        ⟨1, 0, 0, D 24 (.mv (T 9))⟩,
        ⟨2, 0, 3, D 25 (.ia 2 (T 23) (T 24))⟩,
        ⟨3, 1, 7, D 26 (.ldN 2 (T 25))⟩,
        ⟨4, 4, 15, D 27 (.call 28 [(T 26)])⟩,
        ⟨5, 0, 31, D 28 (.un .not (T 27))⟩,
        ⟨6, 0, 63, D 29 (.mv (T 28))⟩,
        ⟨7, 0, 127, ⟨(some 30), some (29, false), .mv (T 9)⟩⟩,
        ⟨8, 0, 255, ⟨(some 31), some (29, false), .bin .gtr (T 30) (I 0)⟩⟩,
        ⟨9, 0, 511, ⟨(some 32), some (29, false), .mv (T 31)⟩⟩,
        ⟨10, 0, 1023, ⟨(some 33), some (32, true), .mv (T 1)⟩⟩,
        ⟨11, 0, 1023, ⟨(some 34), some (32, true), .mv (T 9)⟩⟩,
        ⟨12, 0, 3071, ⟨(some 35), some (32, true), .bin .sub (T 34) (I 1)⟩⟩,
        ⟨13, 0, 8191, ⟨(some 36), some (32, true), .ia 2 (T 33) (T 35)⟩⟩,
        ⟨14, 1, 16383, ⟨(some 37), some (32, true), .ldN 2 (T 36)⟩⟩,
        ⟨16, 0, 1023, ⟨(some 39), some (32, true), .mv (T 1)⟩⟩,
        ⟨17, 0, 1023, ⟨(some 40), some (32, true), .mv (T 9)⟩⟩,
        ⟨18, 0, 197631, ⟨(some 41), some (32, true), .ia 2 (T 39) (T 40)⟩⟩,
        ⟨19, 1, 459775, ⟨(some 42), some (32, true), .ldN 2 (T 41)⟩⟩,
        ⟨15, 4, 32767, ⟨(some 38), some (32, true), .call 21 [(T 37)]⟩⟩,
        ⟨20, 4, 1048575, ⟨(some 43), some (32, true), .call 21 [(T 42)]⟩⟩,
        ⟨21, 4, 2097151, ⟨(some 44), some (32, true), .call 20 [(T 38), (T 43)]⟩⟩,
        ⟨22, 0, 4194303, ⟨(some 45), some (32, true), .bin .geq (T 44) (I 0)⟩⟩,
        ⟨23, 0, 8388607, ⟨(some 46), some (29, false), .pick (T 32) (T 45) (.const (.bool false))⟩⟩,
        ⟨24, 0, 16777215, D 47 (.pick (T 29) (.const (.bool true)) (T 46))⟩]) (
      .cond (T 47) (
       .seq (
        .ops [D 6 (.mv (.const (.slice none 0 0))),
         D 7 (.mv (.const (.slice none 0 0))),
         D 8 (.mv (I 4))]) (
       .ret)) (
       .skip)))) (
    .ops [D 21 (.mv (T 9)),
     D 22 (.bin .add (T 21) (I 1)),
     D 9 (.mv (T 22))])))))) (
 .seq (
  .ops [D 48 (.mv (T 0)),
   D 49 (.build [(.int .i64 0), (.int .i64 0)] [(0, 1, (I 0)), (1, 1, (I 1))]),
   D 50 (.mv (T 2)),
   D 51 (.call 30 [(T 48), (T 49), (T 50)]),
   D 10 (.mv (T 51))]) (
 .trim [0, 1, 2] (
  .seq (
   .ops [D 52 (.mv (T 10)),
    D 53 (.bin .neq (T 52) (I 0))]) (
  .cond (T 53) (
   .seq (
    .ops [D 54 (.mv (T 10)),
     D 6 (.mv (.const (.slice none 0 0))),
     D 7 (.mv (.const (.slice none 0 0))),
     D 8 (.mv (T 54))]) (
   .ret)) (
   .skip))) (
 .seq (
  .ops [D 11 (.mv (.const (.slice none 0 0))),
   D 12 (.mv (.const (.slice none 0 0)))]) (
 .seq (
  .ops [D 13 (.mv (I 0))]) (
 .trim [11, 12] (
  .seq (
   .ops [D 14 (.mv (I 0))]) (
  .block 2 (
   .loop [0, 1, 2, 11, 12, 13, 14] (
    .seq (
     .seq (
      .ops [D 55 (.mv (T 14)),
       D 56 (.mv (T 1)),
       D 57 (.len (T 56)),
       D 58 (.bin .lss (T 55) (T 57))]) (
     .cond (T 58) (
      .skip) (
      .exit 2))) (
    .trim [0, 1, 2, 11, 12, 13, 14] (
     .block 3 (
      .trim [0, 1, 2, 11, 12, 13, 14, 15, 16] (
       .ops [D 62 (.mv (T 0)),
        D 63 (.mv (T 1)),
        D 64 (.mv (T 14)),
        D 65 (.ia 2 (T 63) (T 64)),
        D 66 (.ldN 2 (T 65)),
        D 67 (.mv (T 2)),
        D 68 (.call 31 [(T 62), (T 66), (T 67)]),
        D 69 (.mv (T 13)),
        D 70 (.call 34 [(T 68), (T 69)]),
        D 61 (.mv (T 70)),
        D 71 (.ext (T 61) 0),
        D 72 (.ext (T 61) 1),
        D 15 (.mv (T 71)),
        D 16 (.mv (T 72))]) (
      .seq (
       .seq (
        .ops [D 73 (.mv (T 16)),
         D 74 (.bin .eql (T 73) (I 1))]) (
       .cond (T 74) (
        .exit 3) (
        .skip))) (
      .trim [0, 1, 2, 11, 12, 14, 15] (
       .seq (
        .ops [D 75 (.mv (T 16)),
         D 76 (.bin .eql (T 75) (I 2))]) (
       .cond (T 76) (
        .ops [D 77 (.mv (T 12)),
         D 78 (.mv (T 11)),
         D 79 (.len (T 78)),
         D 80 (.bslice [(.int .i64 0)] 1 [(0, 1, (T 79))]),
         D 81 (.app 1 8 (T 77) (T 80)),
         D 12 (.mv (T 81))]) (
        .skip))) (
      .seq (
       .ops [D 82 (.mv (T 11)),
        D 83 (.mv (T 15)),
        D 84 (.bslice [(.int .i64 0)] 1 [(0, 1, (T 83))]),
        D 85 (.app 1 8 (T 82) (T 84)),
        D 11 (.mv (T 85))]) (
      .ops [D 86 (.mv (T 15)),
       D 13 (.mv (T 86))])))))) (
    .ops [D 59 (.mv (T 14)),
     D 60 (.bin .add (T 59) (I 1)),
     D 14 (.mv (T 60))])))))) (
 .seq (
  .ops [D 87 (.mv (T 11)),
   D 88 (.mv (T 12)),
   D 6 (.mv (T 87)),
   D 7 (.mv (T 88)),
   D 8 (.mv (I 0))]) (
 .ret))))))))⟩
theorem dioramaref27_Follow_ok : Ok Try.prog 16 dioramaref27_Follow := ⟨by kernel_rfl, by kernel_rfl⟩

/-- diorama/stream.there -/
def stream_there : AF := ⟨51, [.tmp 6, .tmp 7],
 .seq (
  .ops [D 4 (.box (T 1)),
   D 6 (.mv (.const (.slice none 0 0))),
   D 7 (.mv (I 0))]) (
 .trim [0, 2, 4] (
  .trim [0, 2, 4, 19] (
   .ops [D 13 (.ldN 2 (T 4)),
    D 14 (.call 35 [(T 13)]),
    D 15 (.un .not (T 14)),
    D 16 (.mv (T 15)),
    ⟨(some 17), some (16, false), .mv (T 0)⟩,
    ⟨(some 18), some (16, false), .call 32 [(T 17), (.func 57)]⟩,
    D 19 (.pick (T 16) (.const (.bool true)) (T 18))]) (
  .cond (T 19) (
   .seq (
    .ops [D 6 (.mv (.const (.slice none 0 0))),
     D 7 (.mv (I 4))]) (
   .ret)) (
   .skip))) (
 .trim [0, 2, 4] (
  .seq (
   .ops [D 20 (.mv (T 2)),
    D 21 (.call 49 [(T 20), (I 1), (I 60)]),
    D 22 (.un .not (T 21))]) (
  .cond (T 22) (
   .seq (
    .ops [D 6 (.mv (.const (.slice none 0 0))),
     D 7 (.mv (I 1))]) (
   .ret)) (
   .skip))) (
 .seq (
  .ops [D 8 (.mv (.const (.slice none 0 0)))]) (
 .trim [2, 8] (
  .seq (
   .ops [D 23 (.mv (T 0)),
    D 24 (.len (T 23)),
    D 25 (.mv (I 0))]) (
  .block 0 (
   .loop [2, 4, 8, 23, 24, 25] (
    .seq (
     .ops [D 26 (.bin .lss (T 25) (T 24))]) (
    .seq (
     .cond (T 26) (
      .skip) (
      .exit 0)) (
    .trim [2, 4, 8, 23, 24, 25] (
     .block 1 (
      .seq (
       .ops [D 27 (.ia 7 (T 23) (T 25)),
        D 28 (.ldN 7 (T 27)),
        D 10 (.alloc [(.int .i64 0), (.int .i64 0), (.int .i64 0), (.int .i64 0), (.int .i64 0), (.slice none 0 0), (.bool false)]),
        E (.st 7 (T 10) (T 28))]) (
      .trim [2, 4, 8, 10, 11, 23, 24, 25] (
       .ops [D 30 (.fa 1 (T 10)),
        D 31 (.fa 2 (T 30)),
        D 32 (.ldN 2 (T 31)),
        D 33 (.ldN 2 (T 4)),
        D 34 (.call 36 [(T 32), (T 33)]),
        D 29 (.mv (T 34)),
        D 35 (.ext (T 29) 0),
        D 36 (.ext (T 29) 1),
        D 11 (.mv (T 35)),
        D 12 (.mv (T 36))]) (
      .seq (
       .ops [D 37 (.mv (T 11)),
        D 38 (.bin .leq (T 37) (I 0))]) (
      .cond (T 38) (
       .ops [D 39 (.mv (T 8)),
        D 40 (.ldN 7 (T 10)),
        D 41 (.bslice [(.int .i64 0), (.int .i64 0), (.int .i64 0), (.int .i64 0), (.int .i64 0), (.slice none 0 0), (.bool false)] 1 [(0, 7, (T 40))]),
        D 42 (.app 7 72 (T 39) (T 41)),
        D 8 (.mv (T 42))]) (
       .skip)))))) (
    .ops [D 43 (.bin .add (T 25) (I 1)),
     D 25 (.mv (T 43))]))))))) (
 .trim [6, 7] (
  .ops [D 44 (.mv (T 8)),
   D 45 (.mv (T 8)),
   D 46 (.len (T 45)),
   D 47 (.mv (T 2)),
   D 48 (.bin .sub (T 46) (T 47)),
   D 49 (.mx [(I 0), (T 48)]),
   D 50 (.slc 7 (T 44) (some (T 49)) none none),
   D 6 (.mv (T 50)),
   D 7 (.mv (I 0))]) (
 .ret))))))⟩
theorem stream_there_ok : Ok Try.prog 29 stream_there := ⟨by kernel_rfl, by kernel_rfl⟩

/-- diorama/dioramaref27.live -/
def dioramaref27_live : AF := ⟨27, [.tmp 6],
 .seq (
  .ops [D 4 (.box (T 1)),
   D 6 (.mv (I 0))]) (
 .seq (
  .seq (
   .ops [D 8 (.ldN 2 (T 4)),
    D 9 (.call 28 [(T 8)]),
    D 10 (.un .not (T 9))]) (
  .cond (T 10) (
   .seq (
    .ops [D 6 (.mv (I 4))]) (
   .ret)) (
   .skip))) (
 .trim [2] (
  .seq (
   .ops [D 7 (.mv (I 0))]) (
  .block 0 (
   .loop [0, 2, 7] (
    .seq (
     .seq (
      .ops [D 11 (.mv (T 7)),
       D 12 (.mv (T 0)),
       D 13 (.len (T 12)),
       D 14 (.bin .lss (T 11) (T 13))]) (
     .cond (T 14) (
      .skip) (
      .exit 0))) (
    .trim [0, 2, 7] (
     .block 1 (
      .trim [0, 2, 7, 23] (
       .ops [D 17 (.mv (T 0)),
        D 18 (.mv (T 7)),
        D 19 (.ia 7 (T 17) (T 18)),
        D 20 (.fa 1 (T 19)),
        D 21 (.ldN 4 (T 20)),
        D 22 (.call 59 [(T 21)]),
        D 23 (.un .not (T 22))]) (
      .cond (T 23) (
       .seq (
        .ops [D 6 (.mv (I 4))]) (
       .ret)) (
       .skip)))) (
    .ops [D 15 (.mv (T 7)),
     D 16 (.bin .add (T 15) (I 1)),
     D 7 (.mv (T 16))])))))) (
 .seq (
  .seq (
   .ops [D 24 (.mv (T 2)),
    D 25 (.call 42 [(T 24), (I 1), (I 60)]),
    D 26 (.un .not (T 25))]) (
  .cond (T 26) (
   .seq (
    .ops [D 6 (.mv (I 1))]) (
   .ret)) (
   .skip))) (
 .seq (
  .ops [D 6 (.mv (I 0))]) (
 .ret)))))⟩
theorem dioramaref27_live_ok : Ok Try.prog 30 dioramaref27_live := ⟨by kernel_rfl, by kernel_rfl⟩

/-- diorama/dioramaref27.there -/
def dioramaref27_there : AF := ⟨44, [.tmp 6],
 .seq (
  .ops [D 4 (.box (T 1)),
   D 6 (.mv (.const (.slice none 0 0)))]) (
 .seq (
  .ops [D 7 (.mv (.const (.slice none 0 0)))]) (
 .trim [2, 7] (
  .seq (
   .ops [D 8 (.mv (I 0))]) (
  .block 0 (
   .loop [0, 2, 4, 7, 8] (
    .seq (
     .seq (
      .ops [D 9 (.mv (T 8)),
       D 10 (.mv (T 0)),
       D 11 (.len (T 10)),
       D 12 (.bin .lss (T 9) (T 11))]) (
     .cond (T 12) (
      .skip) (
      .exit 0))) (
    .trim [0, 2, 4, 7, 8] (
     .block 1 (
      .trim [0, 2, 4, 7, 8, 25] (
       .draw [⟨0, 0, 0, D 15 (.mv (T 0))⟩,
        ⟨1, 0, 0, D 16 (.mv (T 8))⟩,
        ⟨2, 0, 3, D 17 (.ia 7 (T 15) (T 16))⟩,
        ⟨3, 0, 7, D 18 (.fa 1 (T 17))⟩,
        ⟨4, 0, 15, D 19 (.fa 2 (T 18))⟩,
        ⟨5, 1, 31, D 20 (.ldN 2 (T 19))⟩,
        ⟨7, 1, 0, D 22 (.ldN 2 (T 4))⟩,
        ⟨6, 4, 63, D 21 (.call 21 [(T 20)])⟩,
        ⟨8, 4, 255, D 23 (.call 21 [(T 22)])⟩,
        ⟨9, 4, 511, D 24 (.call 20 [(T 21), (T 23)])⟩,
        ⟨10, 0, 1023, D 25 (.bin .leq (T 24) (I 0))⟩]) (
      .cond (T 25) (
       .ops [D 26 (.mv (T 7)),
        D 27 (.mv (T 0)),
        D 28 (.mv (T 8)),
        D 29 (.ia 7 (T 27) (T 28)),
        D 30 (.ldN 7 (T 29)),
        D 31 (.bslice [(.int .i64 0), (.int .i64 0), (.int .i64 0), (.int .i64 0), (.int .i64 0), (.slice none 0 0), (.bool false)] 1 [(0, 7, (T 30))]),
        D 32 (.app 7 72 (T 26) (T 31)),
        D 7 (.mv (T 32))]) (
       .skip)))) (
    .ops [D 13 (.mv (T 8)),
     D 14 (.bin .add (T 13) (I 1)),
     D 8 (.mv (T 14))])))))) (
 .trim [7] (
  .seq (
   .ops [D 33 (.mv (T 7)),
    D 34 (.len (T 33)),
    D 35 (.mv (T 2)),
    D 36 (.bin .gtr (T 34) (T 35))]) (
  .cond (T 36) (
   .ops [D 37 (.mv (T 7)),
    D 38 (.mv (T 7)),
    D 39 (.len (T 38)),
    D 40 (.mv (T 2)),
    D 41 (.bin .sub (T 39) (T 40)),
    D 42 (.slc 7 (T 37) (some (T 41)) none none),
    D 7 (.mv (T 42))]) (
   .skip))) (
 .seq (
  .ops [D 43 (.mv (T 7)),
   D 6 (.mv (T 43))]) (
 .ret)))))⟩
theorem dioramaref27_there_ok : Ok Try.prog 31 dioramaref27_there := ⟨by kernel_rfl, by kernel_rfl⟩

/-- diorama/dioramaref27.next -/
def dioramaref27_next : AF := ⟨55, [.tmp 4, .tmp 5],
 .seq (
  .ops [D 4 (.mv (I 0)),
   D 5 (.mv (I 0))]) (
 .trim [0, 1] (
  .seq (
   .ops [D 7 (.mv (T 0)),
    D 8 (.len (T 7)),
    D 9 (.bin .eql (T 8) (I 0))]) (
  .cond (T 9) (
   .seq (
    .ops [D 4 (.mv (I 0)),
     D 5 (.mv (I 1))]) (
   .ret)) (
   .skip))) (
 .trim [0, 1] (
  .seq (
   .ops [D 10 (.mv (T 1)),
    D 11 (.bin .eql (T 10) (I 0))]) (
  .cond (T 11) (
   .trim [4, 5] (
    .ops [D 12 (.mv (T 0)),
     D 13 (.mv (T 0)),
     D 14 (.len (T 13)),
     D 15 (.bin .sub (T 14) (I 1)),
     D 16 (.ia 7 (T 12) (T 15)),
     D 17 (.fa 0 (T 16)),
     D 18 (.ld1 (T 17)),
     D 4 (.mv (T 18)),
     D 5 (.mv (I 0))]) (
   .ret)) (
   .skip))) (
 .trim [0, 1] (
  .trim [0, 1, 27] (
   .ops [D 19 (.mv (T 1)),
    D 20 (.mv (T 0)),
    D 21 (.mv (T 0)),
    D 22 (.len (T 21)),
    D 23 (.bin .sub (T 22) (I 1)),
    D 24 (.ia 7 (T 20) (T 23)),
    D 25 (.fa 0 (T 24)),
    D 26 (.ld1 (T 25)),
    D 27 (.bin .geq (T 19) (T 26))]) (
  .cond (T 27) (
   .seq (
    .ops [D 4 (.mv (I 0)),
     D 5 (.mv (I 1))]) (
   .ret)) (
   .skip))) (
 .trim [0, 1] (
  .seq (
   .ops [D 6 (.mv (I 0))]) (
  .block 0 (
   .loop [0, 1, 6] (
    .seq (
     .seq (
      .ops [D 28 (.mv (T 6)),
       D 29 (.mv (T 0)),
       D 30 (.len (T 29)),
       D 31 (.bin .lss (T 28) (T 30))]) (
     .cond (T 31) (
      .skip) (
      .exit 0))) (
    .trim [0, 1, 6] (
     .block 1 (
      .trim [0, 1, 6, 41] (
       .ops [D 34 (.mv (T 0)),
        D 35 (.mv (T 6)),
        D 36 (.ia 7 (T 34) (T 35)),
        D 37 (.fa 0 (T 36)),
        D 38 (.ld1 (T 37)),
        D 39 (.mv (T 1)),
        D 40 (.bin .add (T 39) (I 1)),
        D 41 (.bin .eql (T 38) (T 40))]) (
      .cond (T 41) (
       .seq (
        .ops [D 42 (.mv (T 1)),
         D 43 (.bin .add (T 42) (I 1)),
         D 4 (.mv (T 43)),
         D 5 (.mv (I 0))]) (
       .ret)) (
       .skip)))) (
    .ops [D 32 (.mv (T 6)),
     D 33 (.bin .add (T 32) (I 1)),
     D 6 (.mv (T 33))])))))) (
 .trim [] (
  .trim [0, 50] (
   .ops [D 44 (.mv (T 1)),
    D 45 (.bin .add (T 44) (I 1)),
    D 46 (.mv (T 0)),
    D 47 (.ia 7 (T 46) (I 0)),
    D 48 (.fa 0 (T 47)),
    D 49 (.ld1 (T 48)),
    D 50 (.bin .lss (T 45) (T 49))]) (
  .cond (T 50) (
   .seq (
    .ops [D 51 (.mv (T 0)),
     D 52 (.ia 7 (T 51) (I 0)),
     D 53 (.fa 0 (T 52)),
     D 54 (.ld1 (T 53)),
     D 4 (.mv (T 54)),
     D 5 (.mv (I 2))]) (
   .ret)) (
   .skip))) (
 .seq (
  .ops [D 4 (.mv (I 0)),
   D 5 (.mv (I 1))]) (
 .ret)))))))⟩
theorem dioramaref27_next_ok : Ok Try.prog 34 dioramaref27_next := ⟨by kernel_rfl, by kernel_rfl⟩

/-- diorama/stream.checkNet -/
def stream_checkNet : AF := ⟨59, [.tmp 6],
 .seq (
  .ops [D 4 (.box (T 1)),
   D 6 (.mv (I 0))]) (
 .seq (
  .ops [D 7 (.alloc [.nilFunc]),
   E (.st 1 (T 7) (.func 63))]) (
 .trim [0, 2, 4] (
  .trim [0, 2, 4, 19] (
   .ops [D 11 (.ld1 (T 7)),
    D 12 (.ldN 2 (T 4)),
    D 13 (.callv (T 11) [(T 12)]),
    D 14 (.un .not (T 13)),
    D 15 (.mv (T 14)),
    ⟨(some 16), some (15, false), .mv (T 0)⟩,
    ⟨(some 17), some (15, false), .mkf 65 [] [(T 7)]⟩,
    ⟨(some 18), some (15, false), .call 64 [(T 16), (T 17)]⟩,
    D 19 (.pick (T 15) (.const (.bool true)) (T 18))]) (
  .cond (T 19) (
   .seq (
    .ops [D 6 (.mv (I 4))]) (
   .ret)) (
   .skip))) (
 .seq (
  .ops [D 8 (.mv (.func 66))]) (
 .trim [0, 8] (
  .trim [0, 8, 33] (
   .ops [D 20 (.mv (T 2)),
    D 21 (.call 49 [(T 20), (I 0), (I 1048576)]),
    D 22 (.un .not (T 21)),
    D 23 (.mv (T 22)),
    ⟨(some 24), some (23, false), .mv (T 0)⟩,
    ⟨(some 25), some (23, false), .len (T 24)⟩,
    ⟨(some 26), some (23, false), .bin .gtr (T 25) (I 100)⟩,
    D 27 (.pick (T 23) (.const (.bool true)) (T 26)),
    D 28 (.mv (T 27)),
    ⟨(some 29), some (28, false), .mv (T 8)⟩,
    ⟨(some 30), some (28, false), .ldN 2 (T 4)⟩,
    ⟨(some 31), some (28, false), .callv (T 29) [(T 30), (I 0)]⟩,
    ⟨(some 32), some (28, false), .un .not (T 31)⟩,
    D 33 (.pick (T 28) (.const (.bool true)) (T 32))]) (
  .cond (T 33) (
   .seq (
    .ops [D 6 (.mv (I 1))]) (
   .ret)) (
   .skip))) (
 .trim [] (
  .seq (
   .ops [D 34 (.mv (T 0)),
    D 35 (.len (T 34)),
    D 36 (.mv (I 0))]) (
  .block 0 (
   .loop [8, 34, 35, 36] (
    .seq (
     .ops [D 37 (.bin .lss (T 36) (T 35))]) (
    .seq (
     .cond (T 37) (
      .skip) (
      .exit 0)) (
    .trim [8, 34, 35, 36] (
     .block 1 (
      .seq (
       .ops [D 38 (.ia 5 (T 34) (T 36)),
        D 39 (.ldN 5 (T 38)),
        D 10 (.alloc [(.int .i64 0), (.int .i64 0), (.int .i64 0), (.int .i64 0), (.int .i64 0)]),
        E (.st 5 (T 10) (T 39))]) (
      .trim [8, 34, 35, 36, 57] (
       .ops [D 40 (.fa 0 (T 10)),
        D 41 (.ld1 (T 40)),
        D 42 (.call 49 [(T 41), (I 0), (I 1000000000)]),
        D 43 (.un .not (T 42)),
        D 44 (.mv (T 43)),
        ⟨(some 45), some (44, false), .mv (T 8)⟩,
        ⟨(some 46), some (44, false), .fa 1 (T 10)⟩,
        ⟨(some 47), some (44, false), .ldN 2 (T 46)⟩,
        ⟨(some 48), some (44, false), .callv (T 45) [(T 47), (I 1)]⟩,
        ⟨(some 49), some (44, false), .un .not (T 48)⟩,
        D 50 (.pick (T 44) (.const (.bool true)) (T 49)),
        D 51 (.mv (T 50)),
        ⟨(some 52), some (51, false), .mv (T 8)⟩,
        ⟨(some 53), some (51, false), .fa 3 (T 10)⟩,
        ⟨(some 54), some (51, false), .ldN 2 (T 53)⟩,
        ⟨(some 55), some (51, false), .callv (T 52) [(T 54), (I 0)]⟩,
        ⟨(some 56), some (51, false), .un .not (T 55)⟩,
        D 57 (.pick (T 51) (.const (.bool true)) (T 56))]) (
      .cond (T 57) (
       .seq (
        .ops [D 6 (.mv (I 1))]) (
       .ret)) (
       .skip))))) (
    .ops [D 58 (.bin .add (T 36) (I 1)),
     D 36 (.mv (T 58))]))))))) (
 .seq (
  .ops [D 6 (.mv (I 0))]) (
 .ret)))))))⟩
theorem stream_checkNet_ok : Ok Try.prog 37 stream_checkNet := ⟨by kernel_rfl, by kernel_rfl⟩

/-- diorama/stream.transfer -/
def stream_transfer : AF := ⟨32, [.tmp 6, .tmp 7],
 .seq (
  .ops [D 3 (.box (T 0)),
   D 4 (.box (T 1)),
   D 6 (.mv (.const (.pointer none))),
   D 7 (.mv (.const (.bool false)))]) (
 .seq (
  .ops [D 12 (.mkf 71 [] [(T 3)]),
   D 8 (.mv (T 12))]) (
 .seq (
  .ops [D 9 (.alloc [(.pointer none)])]) (
 .seq (
  .ops [D 13 (.mv (T 8)),
   D 14 (.mkf 73 [] [(T 4), (T 9)]),
   D 15 (.callv (T 13) [(T 14)])]) (
 .seq (
  .seq (
   .ops [D 16 (.ld1 (T 9)),
    D 17 (.nileq false 0 (T 16) (.const (.pointer none)))]) (
  .cond (T 17) (
   .seq (
    .ops [D 6 (.mv (.const (.pointer none))),
     D 7 (.mv (.const (.bool false)))]) (
   .ret)) (
   .skip))) (
 .trim [2, 8, 9] (
  .seq (
   .ops [D 18 (.mv (T 2)),
    D 19 (.bin .eql (T 18) (I 0))]) (
  .cond (T 19) (
   .seq (
    .ops [D 20 (.ld1 (T 9)),
     D 6 (.mv (T 20)),
     D 7 (.mv (.const (.bool true)))]) (
   .ret)) (
   .skip))) (
 .trim [8, 9, 10] (
  .ops [D 21 (.alloc [(.bool false), (.slice none 0 0)]),
   D 22 (.mv (T 2)),
   D 23 (.call 68 [(T 22)]),
   D 24 (.call 68 [(I 1000000)]),
   D 25 (.call 67 [(T 21), (T 23), (T 24)]),
   D 10 (.alloc [(.pointer none)]),
   E (.st 1 (T 10) (T 25))]) (
 .seq (
  .ops [D 11 (.alloc [(.pointer none)])]) (
 .seq (
  .ops [D 26 (.mv (T 8)),
   D 27 (.mkf 75 [] [(T 9), (T 10), (T 11)]),
   D 28 (.callv (T 26) [(T 27)])]) (
 .seq (
  .draw [⟨0, 1, 0, D 29 (.ld1 (T 11))⟩,
   ⟨1, 1, 0, D 30 (.ld1 (T 11))⟩,
   ⟨2, 0, 2, D 31 (.nileq true 0 (T 30) (.const (.pointer none)))⟩,
   ⟨3, 0, 1, D 6 (.mv (T 29))⟩,
   ⟨4, 0, 15, D 7 (.mv (T 31))⟩]) (
 .ret))))))))))⟩
theorem stream_transfer_ok : Ok Try.prog 39 stream_transfer := ⟨by kernel_rfl, by kernel_rfl⟩

/-- diorama/stream.transfer$1 -/
def stream_transfer_1 : AF := ⟨34, [],
 .seq (
  .ops [D 9 (.alloc [(.bool false), (.slice none 0 0)]),
   D 3 (.mv (T 9))]) (
 .seq (
  .ops [D 10 (.ld1 (T 1)),
   D 11 (.len (T 10)),
   D 12 (.mv (I 0))]) (
 .block 0 (
  .loop [0, 3, 10, 11, 12] (
   .seq (
    .ops [D 13 (.bin .lss (T 12) (T 11))]) (
   .seq (
    .cond (T 13) (
     .skip) (
     .exit 0)) (
   .trim [0, 3, 10, 11, 12] (
    .block 1 (
     .seq (
      .ops [D 14 (.ia 5 (T 10) (T 12)),
       D 15 (.ldN 5 (T 14)),
       D 5 (.alloc [(.int .i64 0), (.int .i64 0), (.int .i64 0), (.int .i64 0), (.int .i64 0)]),
       E (.st 5 (T 5) (T 15))]) (
     .trim [0, 3, 5, 6, 10, 11, 12] (
      .ops [D 17 (.fa 1 (T 5)),
       D 18 (.ldN 2 (T 17)),
       D 19 (.call 38 [(T 18)]),
       D 16 (.mv (T 19)),
       D 20 (.ext (T 16) 0),
       D 21 (.ext (T 16) 1),
       D 6 (.mv (T 20)),
       D 7 (.mv (T 21))]) (
     .seq (
      .ops [D 22 (.alloc [(.bool false), (.slice none 0 0)]),
       D 23 (.mv (T 3)),
       D 24 (.mv (T 6)),
       D 25 (.call 72 [(T 22), (T 23), (T 24)]),
       D 8 (.mv (T 25))]) (
     .trim [0, 8, 10, 11, 12] (
      .trim [0, 8, 10, 11, 12, 31] (
       .ops [D 26 (.mv (T 0)),
        D 27 (.ldN 5 (T 5)),
        D 28 (.mv (T 3)),
        D 29 (.mv (T 8)),
        D 30 (.callv (T 26) [(T 27), (T 28), (T 29)]),
        D 31 (.un .not (T 30))]) (
      .cond (T 31) (
       .ret) (
       .skip))) (
     .ops [D 32 (.mv (T 8)),
      D 3 (.mv (T 32))])))))) (
   .ops [D 33 (.bin .add (T 12) (I 1)),
    D 12 (.mv (T 33))])))))))⟩
theorem stream_transfer_1_ok : Ok Try.prog 71 stream_transfer_1 := ⟨by kernel_rfl, by kernel_rfl⟩

/-- diorama/stream.transfer$2 -/
def stream_transfer_2 : AF := ⟨25, [.tmp 8],
 .seq (
  .ops [D 5 (.box (T 0)),
   D 8 (.mv (.const (.bool false)))]) (
 .trim [3, 4, 5] (
  .seq (
   .ops [D 11 (.ld1 (T 3)),
    D 12 (.mv (T 2)),
    D 13 (.call 74 [(T 11), (T 12)]),
    D 14 (.bin .geq (T 13) (I 0))]) (
  .cond (T 14) (
   .seq (
    .ops [D 8 (.mv (.const (.bool true)))]) (
   .ret)) (
   .skip))) (
 .trim [3, 4, 9] (
  .ops [D 16 (.fa 3 (T 5)),
   D 17 (.ldN 2 (T 16)),
   D 18 (.call 38 [(T 17)]),
   D 15 (.mv (T 18)),
   D 19 (.ext (T 15) 0),
   D 20 (.ext (T 15) 1),
   D 9 (.mv (T 19)),
   D 10 (.mv (T 20))]) (
 .seq (
  .ops [D 21 (.alloc [(.bool false), (.slice none 0 0)]),
   D 22 (.ld1 (T 3)),
   D 23 (.mv (T 9)),
   D 24 (.call 72 [(T 21), (T 22), (T 23)]),
   E (.st 1 (T 4) (T 24))]) (
 .seq (
  .ops [D 8 (.mv (.const (.bool false)))]) (
 .ret)))))⟩
theorem stream_transfer_2_ok : Ok Try.prog 73 stream_transfer_2 := ⟨by kernel_rfl, by kernel_rfl⟩

/-- diorama/stream.transfer$3 -/
def stream_transfer_3 : AF := ⟨67, [.tmp 9],
 .seq (
  .ops [D 6 (.box (T 0)),
   D 9 (.mv (.const (.bool false)))]) (
 .trim [1, 2, 3, 4, 5, 6] (
  .trim [1, 2, 3, 4, 5, 6, 23] (
   .ops [D 15 (.ld1 (T 3)),
    D 16 (.mv (T 2)),
    D 17 (.call 74 [(T 15), (T 16)]),
    D 18 (.bin .geq (T 17) (I 0)),
    D 19 (.mv (T 18)),
    ⟨(some 20), some (19, false), .fa 0 (T 6)⟩,
    ⟨(some 21), some (19, false), .ld1 (T 20)⟩,
    ⟨(some 22), some (19, false), .bin .eql (T 21) (I 0)⟩,
    D 23 (.pick (T 19) (.const (.bool true)) (T 22))]) (
  .cond (T 23) (
   .seq (
    .ops [D 9 (.mv (.const (.bool true)))]) (
   .ret)) (
   .skip))) (
 .seq (
  .ops [D 24 (.mv (T 1)),
   D 10 (.mv (T 24))]) (
 .trim [2, 4, 5, 6, 10] (
  .seq (
   .ops [D 25 (.ld1 (T 3)),
    D 26 (.mv (T 1)),
    D 27 (.call 74 [(T 25), (T 26)]),
    D 28 (.bin .gtr (T 27) (I 0))]) (
  .cond (T 28) (
   .ops [D 29 (.ld1 (T 3)),
    D 10 (.mv (T 29))]) (
   .skip))) (
 .seq (
  .ops [D 30 (.fa 0 (T 6)),
   D 31 (.ld1 (T 30)),
   D 32 (.call 68 [(T 31)]),
   D 11 (.mv (T 32))]) (
 .trim [4, 5, 10, 11, 12] (
  .ops [D 33 (.alloc [(.bool false), (.slice none 0 0)]),
   D 34 (.alloc [(.bool false), (.slice none 0 0)]),
   D 35 (.mv (T 2)),
   D 36 (.mv (T 10)),
   D 37 (.call 51 [(T 34), (T 35), (T 36)]),
   D 38 (.mv (T 11)),
   D 39 (.call 67 [(T 33), (T 37), (T 38)]),
   D 12 (.mv (T 39))]) (
 .trim [4, 5, 10, 11] (
  .seq (
   .ops [D 40 (.mv (T 12)),
    D 41 (.ld1 (T 4)),
    D 42 (.call 74 [(T 40), (T 41)]),
    D 43 (.bin .lss (T 42) (I 0))]) (
  .cond (T 43) (
   .seq (
    .ops [D 44 (.ld1 (T 4)),
     D 45 (.ld1 (T 4)),
     D 46 (.mv (T 12)),
     D 47 (.call 51 [(T 44), (T 45), (T 46)])]) (
   .seq (
    .ops [D 9 (.mv (.const (.bool true)))]) (
   .ret))) (
   .skip))) (
 .trim [5, 10, 13, 14] (
  .ops [D 49 (.alloc [(.bool false), (.slice none 0 0)]),
   D 50 (.ld1 (T 4)),
   D 51 (.mv (T 11)),
   D 52 (.alloc [(.bool false), (.slice none 0 0)]),
   D 53 (.call 69 [(T 49), (T 50), (T 51), (T 52)]),
   D 48 (.mv (T 53)),
   D 54 (.ext (T 48) 0),
   D 55 (.ext (T 48) 1),
   D 13 (.mv (T 54)),
   D 14 (.mv (T 55))]) (
 .trim [5, 10, 13] (
  .seq (
   .ops [D 56 (.mv (T 14)),
    D 57 (.call 70 [(T 56)]),
    D 58 (.bin .gtr (T 57) (I 0))]) (
  .cond (T 58) (
   .ops [D 59 (.mv (T 13)),
    D 60 (.mv (T 13)),
    D 61 (.call 68 [(I 1)]),
    D 62 (.call 72 [(T 59), (T 60), (T 61)])]) (
   .skip))) (
 .seq (
  .ops [D 63 (.mv (T 13)),
   D 64 (.mv (T 13)),
   D 65 (.mv (T 10)),
   D 66 (.call 72 [(T 63), (T 64), (T 65)]),
   E (.st 1 (T 5) (T 66))]) (
 .seq (
  .ops [D 9 (.mv (.const (.bool false)))]) (
 .ret)))))))))))⟩
theorem stream_transfer_3_ok : Ok Try.prog 75 stream_transfer_3 := ⟨by kernel_rfl, by kernel_rfl⟩

end Go.Proofs.Ytikbdeobghoglaa.Af

/- The law's own small network, carried out. Plain theorems over the abstract machine.
   Conditions: none. -/
namespace Go.Proofs.Ytikbdeobghoglaa.St
open Go Go.RowKit Go.Proofs.Ytikbdeobghoglaa.Am Go.Proofs.Ytikbdeobghoglaa.Af
set_option maxRecDepth 20000

def awakeTab : List (Nat × AF) := [(10, dioramalaw27_awake), (18, stream_Transfer), (35, exact_Valid), (37, stream_checkNet), (38, stream_micros), (39, stream_transfer), (40, stream_microTime), (49, stream_within), (51, num_Int__Sub), (63, stream_checkNet_1), (64, slices_ContainsFunc___api_Net_api_Net_), (65, stream_checkNet_2), (66, stream_checkNet_3), (67, num_Int__Mul), (68, num_NewInt), (69, num_Int__QuoRem), (70, num_Int__Sign), (71, stream_transfer_1), (72, num_Int__Add), (73, stream_transfer_2), (74, num_Int__Cmp), (75, stream_transfer_3), (76, num_Rat__SetFrac), (77, num_Rat__Num), (78, num_Int__IsInt64), (79, num_Int__Int64), (80, num_Rat__Denom), (105, slices_IndexFunc___api_Net_api_Net_), (106, num_Int__set), (107, num_mulMag), (108, num_Int__SetInt64), (109, num_divMag), (110, num_addMag), (111, num_cmpMag), (112, num_subMag), (113, num_Int__CmpAbs), (114, slices_Clone___uint32_uint32_), (115, num_Int__low), (116, num_Rat__down), (130, num_trim), (131, num_magOf), (132, bits_LeadingZeros32), (133, num_shift), (134, num_digit), (135, num_sign), (149, bits_Len32)]
theorem awakeTab_ok : TabL Try.prog awakeTab := ⟨dioramalaw27_awake_ok, stream_Transfer_ok, exact_Valid_ok, stream_checkNet_ok, stream_micros_ok, stream_transfer_ok, stream_microTime_ok, stream_within_ok, num_Int__Sub_ok, stream_checkNet_1_ok, slices_ContainsFunc___api_Net_api_Net__ok, stream_checkNet_2_ok, stream_checkNet_3_ok, num_Int__Mul_ok, num_NewInt_ok, num_Int__QuoRem_ok, num_Int__Sign_ok, stream_transfer_1_ok, num_Int__Add_ok, stream_transfer_2_ok, num_Int__Cmp_ok, stream_transfer_3_ok, num_Rat__SetFrac_ok, num_Rat__Num_ok, num_Int__IsInt64_ok, num_Int__Int64_ok, num_Rat__Denom_ok, slices_IndexFunc___api_Net_api_Net__ok, num_Int__set_ok, num_mulMag_ok, num_Int__SetInt64_ok, num_divMag_ok, num_addMag_ok, num_cmpMag_ok, num_subMag_ok, num_Int__CmpAbs_ok, slices_Clone___uint32_uint32__ok, num_Int__low_ok, num_Rat__down_ok, num_trim_ok, num_magOf_ok, bits_LeadingZeros32_ok, num_shift_ok, num_digit_ok, num_sign_ok, bits_Len32_ok, trivial⟩
theorem awake_runs : xIs (xCall (tabOf awakeTab) 2000 10 []) (.bool true) = true := by kernel_rfl
theorem c_awake {h : Hp} : ACalls Try.prog 10 [] h fun v h' => v = .bool true ∧ h' = h :=
  xCall_ok hm awakeTab_ok.tab awake_runs rfl rfl h
end Go.Proofs.Ytikbdeobghoglaa.St

/- Times of the program: valid, compared. Plain theorems over the abstract machine.
   Conditions: none. -/
namespace Go.Proofs.Ytikbdeobghoglaa.St
open Go Go.RowKit Go.Proofs.Ytikbdeobghoglaa.Am Go.Proofs.Ytikbdeobghoglaa.Af Go.Proofs.Ytikbdeobghoglaa.Md Go.Proofs.Ytikbdeobghoglaa.Nu
set_option linter.unusedVariables false
set_option linter.unusedSimpArgs false
set_option linter.defProp false
set_option maxRecDepth 20000
set_option maxHeartbeats 1000000

theorem flat_get {α : Type} {f : α → List Value} {z : Nat} (hf : ∀ x, (f x).length = z) : ∀ {xs : List α} {i : Nat} {x : α}, xs[i]? = some x → ((xs.flatMap f).drop (i * z)).take z = f x
  | [], i, x, h => by simp at h
  | y :: xs, 0, x, h => by
    have : y = x := by simpa using h
    subst this
    rw [List.flatMap_cons, Nat.zero_mul, List.drop_zero, List.take_left' (hf y)]
  | y :: xs, i + 1, x, h => by
    have h' : xs[i]? = some x := by simpa using h
    rw [List.flatMap_cons, Nat.add_mul, Nat.one_mul, Nat.add_comm (i * z) z, List.drop_append, hf, List.drop_eq_nil_of_le (by rw [hf]; omega), List.nil_append, show z + i * z - z = i * z by omega]
    exact flat_get hf h'
theorem flat_take {α : Type} {f : α → List Value} {z : Nat} (hf : ∀ x, (f x).length = z) : ∀ (xs : List α) (i : Nat), (xs.flatMap f).take (i * z) = (xs.take i).flatMap f
  | [], i => by simp
  | x :: xs, 0 => by simp
  | x :: xs, i + 1 => by
    rw [List.flatMap_cons, List.take_succ_cons, List.flatMap_cons, List.take_append, hf, List.take_of_length_le (by rw [hf, Nat.add_mul]; omega), show (i + 1) * z - z = i * z by rw [Nat.add_mul]; omega, flat_take hf xs i]
/-- The element at a place. -/
theorem _root_.Go.Proofs.Ytikbdeobghoglaa.Am.Rd.elem {α : Type} {f : α → List Value} {z : Nat} {h : Hp} {oa : Option Addr} {n : Nat} {xs : List α} (r : Rd h z oa n (xs.flatMap f)) (hf : ∀ x, (f x).length = z) (hl : xs.length = n) {i : Nat} (hi : i < n) :
    ∃ b off sp x, oa = some ⟨b, off, sp⟩ ∧ flagOk sp = true ∧ xs[i]? = some x ∧ h.rdN b (off + i * z) z = some (f x) ∧ ∀ j v, (f x)[j]? = some v → h.rd b (off + i * z + j) = some v := by
  obtain ⟨b, off, sp, e, h1, h2⟩ := r.pos (by omega)
  have hx : xs[i]? = some xs[i] := List.getElem?_eq_getElem (by omega)
  have h3 := rdN_sub (k := i * z) (l := z) h2 (by rw [← Nat.succ_mul]; exact Nat.mul_le_mul_right z hi)
  rw [flat_get hf hx] at h3
  exact ⟨b, off, sp, _, e, h1, hx, h3, fun j v hv => rdN_get h3 hv⟩
abbrev Tim := Int × Int
def timC (x : Tim) : List Value := [.int .i64 x.1, .int .i64 x.2]
theorem timC_len (x : Tim) : (timC x).length = 2 := rfl
/-- A valid time. -/
def VT (x : Tim) : Prop := 1 ≤ x.2 ∧ x.2 ≤ 1152921504606846976 ∧ -1152921504606846976 ≤ x.1 ∧ x.1 ≤ 1152921504606846976
instance (x : Tim) : Decidable (VT x) := by unfold VT; infer_instance
theorem c_Valid {h : Hp} {x : Tim} : ACalls Try.prog 35 [.agg #[.int .i64 x.1, .int .i64 x.2]] h fun v h' => v = .bool (decide (VT x)) ∧ Fm No h h' := by
  refine exact_Valid_ok.snd Af.hm rfl fun w => ?_
  rw [WF_eq, exact_Valid]
  obtain ⟨h0, e0⟩ : ∃ g, h.new ⟨[.int .i64 x.1, .int .i64 x.2], .own⟩ = g := ⟨_, rfl⟩
  have f0 : Fm No h h0 := e0 ▸ Fm.new Fm.refl
  have r0 : ∀ i, h0.rd h.size i = ([.int .i64 x.1, .int .i64 x.2] : List Value)[i]? := fun i => rd_mk (e0 ▸ gnew)
  by_cases h1 : 1 ≤ x.2
  · by_cases h2 : x.2 ≤ 1152921504606846976
    · by_cases h3 : -1152921504606846976 ≤ x.1
      · simp +contextual (disch := omega) only [↓AM, ↓AV, AP, CQ, e0, r0, h1, h2, h3]
        exact ⟨congrArg Value.bool (decide_eq_decide.2 (by unfold VT; omega)), f0⟩
      · simp +contextual (disch := omega) only [↓AM, ↓AV, AP, CQ, e0, r0, h1, h2, h3]
        exact ⟨by rw [decide_eq_false (show ¬ VT x from fun h => h3 h.2.2.1)], f0⟩
    · simp +contextual (disch := omega) only [↓AM, ↓AV, AP, CQ, e0, r0, h1, h2]
      exact ⟨by rw [decide_eq_false (show ¬ VT x from fun h => h2 h.2.1)], f0⟩
  · simp +contextual (disch := omega) only [↓AM, ↓AV, AP, CQ, e0, r0, h1]
    exact ⟨by rw [decide_eq_false (show ¬ VT x from fun h => h1 h.1)], f0⟩
theorem c_VTime {h : Hp} {x : Tim} : ACalls Try.prog 28 [.agg #[.int .i64 x.1, .int .i64 x.2]] h fun v h' => v = .bool (decide (VT x)) ∧ Fm No h h' := by
  refine dioramaref00_ValidTime_ok.snd Af.hm rfl fun w => ?_
  rw [WF_eq, dioramaref00_ValidTime]
  obtain ⟨h0, e0⟩ : ∃ g, h.new ⟨[.int .i64 x.1, .int .i64 x.2], .own⟩ = g := ⟨_, rfl⟩
  have f0 : Fm No h h0 := e0 ▸ Fm.new Fm.refl
  have r0 : ∀ i, h0.rd h.size i = ([.int .i64 x.1, .int .i64 x.2] : List Value)[i]? := fun i => rd_mk (e0 ▸ gnew)
  by_cases h1 : 1 ≤ x.2
  · by_cases h2 : x.2 ≤ 1152921504606846976
    · by_cases h3 : -1152921504606846976 ≤ x.1
      · simp +contextual (disch := omega) only [↓AM, ↓AV, AP, CQ, e0, r0, h1, h2, h3]
        exact ⟨congrArg Value.bool (decide_eq_decide.2 (by unfold VT; omega)), f0⟩
      · simp +contextual (disch := omega) only [↓AM, ↓AV, AP, CQ, e0, r0, h1, h2, h3]
        exact ⟨by rw [decide_eq_false (show ¬ VT x from fun h => h3 h.2.2.1)], f0⟩
    · simp +contextual (disch := omega) only [↓AM, ↓AV, AP, CQ, e0, r0, h1, h2]
      exact ⟨by rw [decide_eq_false (show ¬ VT x from fun h => h2 h.2.1)], f0⟩
  · simp +contextual (disch := omega) only [↓AM, ↓AV, AP, CQ, e0, r0, h1]
    exact ⟨by rw [decide_eq_false (show ¬ VT x from fun h => h1 h.1)], f0⟩
def nVT (x : Tim) : Bool := !decide (VT x)
theorem c_valid1 {h : Hp} {x : Tim} : ACalls Try.prog 102 [.agg #[.int .i64 x.1, .int .i64 x.2]] h fun v h' => v = .bool (nVT x) ∧ Fm No h h' := by
  refine exact_valid_1_ok.snd Af.hm rfl fun w => ?_
  rw [WF_eq, exact_valid_1]
  have fm0 : ∀ o, Fm No h (h.new o) := fun o => Fm.new Fm.refl
  have n0 : (h.new ⟨[.int .i64 x.1, .int .i64 x.2], .own⟩).rdN h.size 0 2 = some [.int .i64 x.1, .int .i64 x.2] := rd_n2
  simp +contextual (disch := omega) only [↓AM, ↓AV, AP, CQ, n0]
  refine c_Valid.use ?_
  rintro _ h1 w1 ⟨rfl, fm⟩
  simp +contextual (disch := omega) only [↓AM, ↓AV, AP, CQ]
  exact ⟨by simp [nVT], (fm0 _).trans fm fun _ _ f => f⟩
/-- Not small. -/
def Lg (x : Tim) : Prop := 1073741824 ≤ x.1 ∨ x.1 ≤ -1073741824 ∨ 1073741824 ≤ x.2
instance (x : Tim) : Decidable (Lg x) := by unfold Lg; infer_instance
def bLg (x : Tim) : Bool := decide (Lg x)
theorem c_little1 {h : Hp} {x : Tim} : ACalls Try.prog 129 [.agg #[.int .i64 x.1, .int .i64 x.2]] h fun v h' => v = .bool (bLg x) ∧ Fm No h h' := by
  refine exact_little_1_ok.snd Af.hm rfl fun w => ?_
  rw [WF_eq, exact_little_1]
  obtain ⟨h0, e0⟩ : ∃ g, h.new ⟨[.int .i64 x.1, .int .i64 x.2], .own⟩ = g := ⟨_, rfl⟩
  have f0 : Fm No h h0 := e0 ▸ Fm.new Fm.refl
  have r0 : ∀ i, h0.rd h.size i = ([.int .i64 x.1, .int .i64 x.2] : List Value)[i]? := fun i => rd_mk (e0 ▸ gnew)
  by_cases h1 : 1073741824 ≤ x.1
  · simp +contextual (disch := omega) only [↓AM, ↓AV, AP, CQ, e0, r0, h1]
    exact ⟨by unfold bLg; rw [decide_eq_true (show Lg x from .inl h1)], f0⟩
  · by_cases h2 : x.1 ≤ -1073741824
    · simp +contextual (disch := omega) only [↓AM, ↓AV, AP, CQ, e0, r0, h1, h2]
      exact ⟨by unfold bLg; rw [decide_eq_true (show Lg x from .inr (.inl h2))], f0⟩
    · simp +contextual (disch := omega) only [↓AM, ↓AV, AP, CQ, e0, r0, h1, h2]
      exact ⟨congrArg Value.bool (decide_eq_decide.2 (by unfold Lg; omega)), f0⟩
theorem c_IndexTime {h : Hp} {a : Option Addr} {n c f : Nat} {us vs : Array Value} {xs : List Tim} {p : Tim → Bool} (ha : Rd h 2 a n (xs.flatMap timC)) (hl : xs.length = n) (hn : n ≤ 140737488351232) (hf : okF Try.prog f = true)
    (hp : ∀ x ∈ xs, ∀ h1, Fm No h h1 → ACalls Try.prog f (us.toList ++ [.agg #[.int .i64 x.1, .int .i64 x.2]] ++ vs.toList) h1 fun v h' => v = .bool (p x) ∧ Fm No h1 h') :
    ACalls Try.prog 128 [.slice a n c, .func (.func f) us vs] h fun v h' => (∃ i : Int, v = .int .i64 i ∧ decide (0 ≤ i) = xs.any p) ∧ Fm No h h' := by
  refine slices_IndexFunc___api_Time_api_Time__ok.snd hm rfl fun w => ?_
  rw [WF_eq, slices_IndexFunc___api_Time_api_Time_]
  simp +contextual only [↓AM, ↓AV, AP]
  refine WL.mk (fun k t h' => Wf h' ∧ Fm No h h' ∧ ∃ i : Nat, i ≤ n ∧ k = n - i ∧ (xs.take i).any p = false ∧ t = [(0, some (.slice a n c)), (1, some (.func (.func f) us vs)), (7, some (.int .i64 n)), (8, some (.int .i64 i))]) ⟨n, w, Fm.refl, 0, by simp, rfl, rfl, rfl⟩ ?_
  rintro k t h1 ⟨w1, fm, i, hi, rfl, hall, rfl⟩
  by_cases hin : i < n
  · obtain ⟨b1, o1, s1, u, rfl, f1, hu, r1, -⟩ := (ha.keep w fm (fun x _ => id)).elem timC_len hl hin
    simp only [timC] at r1
    simp +contextual only [↓AM, ↓AV, AP, f1, r1, hin]
    refine ⟨hf, (hp u (List.mem_of_getElem? hu) _ fm).use ?_⟩
    rintro _ h2 w2 ⟨rfl, fm2⟩
    have fm' := fm.trans fm2 (fun _ _ x => x)
    simp +contextual only [↓AM, ↓AV, AP]
    refine ⟨fun hpu => ⟨⟨_, rfl, ?_⟩, fm'⟩, fun hpu => ⟨_, ?_, w2, fm', i + 1, hin, rfl, ?_, ?_⟩⟩
    · have : xs.any p = true := List.any_eq_true.2 ⟨u, List.mem_of_getElem? hu, hpu⟩
      rw [this]; simp
    · omega
    · rw [List.take_add_one, hu]; simp [hall, hpu]
    · rw [i64 (by omega)]; rfl
  · simp +contextual only [↓AM, ↓AV, AP, hin]
    rw [List.take_of_length_le (by omega)] at hall
    exact ⟨⟨_, rfl, by rw [hall]; rfl⟩, fm⟩
theorem c_ContainsTime {h : Hp} {a : Option Addr} {n c f : Nat} {us vs : Array Value} {xs : List Tim} {p : Tim → Bool} (ha : Rd h 2 a n (xs.flatMap timC)) (hl : xs.length = n) (hn : n ≤ 140737488351232) (hf : okF Try.prog f = true)
    (hp : ∀ x ∈ xs, ∀ h1, Fm No h h1 → ACalls Try.prog f (us.toList ++ [.agg #[.int .i64 x.1, .int .i64 x.2]] ++ vs.toList) h1 fun v h' => v = .bool (p x) ∧ Fm No h1 h') :
    ACalls Try.prog 101 [.slice a n c, .func (.func f) us vs] h fun v h' => v = .bool (xs.any p) ∧ Fm No h h' := by
  refine slices_ContainsFunc___api_Time_api_Time__ok.snd hm rfl fun w => ?_
  rw [WF_eq, slices_ContainsFunc___api_Time_api_Time_]
  simp +contextual only [↓AM, ↓AV, AP]
  refine (c_IndexTime ha hl hn hf hp).use ?_
  rintro _ _ w1 ⟨⟨i, rfl, hi⟩, fm⟩
  simp +contextual only [↓AM, ↓AV, AP, hi]
  exact fm

/-! ### the error of a lock -/
def badP (x : Int × Int) : Bool := !decide (0 ≤ x.1 ∧ x.1 ≤ 65536) || !decide (0 ≤ x.2 ∧ x.2 ≤ 65536)
theorem c_validL {h : Hp} {a : Option Addr} {n c : Nat} {xs : List Tim} (ha : Rd h 2 a n (xs.flatMap timC)) (hl : xs.length = n) (hn : n ≤ 140737488351232) :
    ACalls Try.prog 61 [.slice a n c] h fun v h' => v = .bool (!(xs.any nVT)) ∧ Fm No h h' := by
  refine exact_valid_ok.snd Af.hm rfl fun w => ?_
  rw [WF_eq, exact_valid]
  simp +contextual only [↓AM, ↓AV, AP]
  refine (c_ContainsTime (us := #[]) (vs := #[]) (p := nVT) ha hl hn exact_valid_1_ok.2 (fun x _ h1 _ => c_valid1)).use ?_
  rintro _ h1 w1 ⟨rfl, fm⟩
  simp +contextual only [↓AM, ↓AV, AP]
  exact fm
theorem c_littleL {h : Hp} {a : Option Addr} {n c : Nat} {xs : List Tim} (ha : Rd h 2 a n (xs.flatMap timC)) (hl : xs.length = n) (hn : n ≤ 140737488351232) :
    ACalls Try.prog 103 [.slice a n c] h fun v h' => v = .bool (!(xs.any bLg)) ∧ Fm No h h' := by
  refine exact_little_ok.snd Af.hm rfl fun w => ?_
  rw [WF_eq, exact_little]
  simp +contextual only [↓AM, ↓AV, AP]
  refine (c_ContainsTime (us := #[]) (vs := #[]) (p := bLg) ha hl hn exact_little_1_ok.2 (fun x _ h1 _ => c_little1)).use ?_
  rintro _ h1 w1 ⟨rfl, fm⟩
  simp +contextual only [↓AM, ↓AV, AP]
  exact fm
theorem dg_len {x k : Nat} (h : x < B32 ^ k) : (dg x).length ≤ k := by
  rcases Nat.lt_or_ge k (dg x).length with hk | hk
  · exfalso
    have h1 := vL_ge b32 (dig_nz (hB := b32) x) (by intro e; rw [show dg x = [] from e] at hk; simp at hk)
    rw [show vL B32 (dig B32 b32 x) = x from dg_val x] at h1
    have h2 : B32 ^ k ≤ B32 ^ ((dig B32 b32 x).length - 1) := Nat.pow_le_pow_right (by decide) (by show k ≤ (dg x).length - 1; omega)
    omega
  · exact hk
theorem dg2 {x : Nat} (h : x ≤ 9223372036854775808) : (dg x).length ≤ 2 := dg_len (Nat.lt_of_le_of_lt h (by decide))
theorem dg_mul {x y k l : Nat} (hx : (dg x).length ≤ k) (hy : (dg y).length ≤ l) : (dg (x * y)).length ≤ k + l := by
  have h1 := vL_lt (dg_dl x)
  have h2 := vL_lt (dg_dl y)
  rw [dg_val] at h1 h2
  refine dg_len ?_
  have h3 : B32 ^ (dg x).length ≤ B32 ^ k := Nat.pow_le_pow_right (by decide) hx
  have h4 : B32 ^ (dg y).length ≤ B32 ^ l := Nat.pow_le_pow_right (by decide) hy
  rw [Nat.pow_add]
  exact Nat.mul_lt_mul_of_lt_of_le (Nat.lt_of_lt_of_le h1 h3) (Nat.le_trans (Nat.le_of_lt h2) h4) (Nat.lt_of_lt_of_le (by omega) h4)
theorem c_product {h : Hp} {x y : Int} (hx : -9223372036854775808 ≤ x ∧ x ≤ 9223372036854775807) (hy : -9223372036854775808 ≤ y ∧ y ≤ 9223372036854775807) :
    ACalls Try.prog 104 [.int .i64 x, .int .i64 y] h fun r h' => ∃ b, r = .pointer (some ⟨b, 0, none⟩) ∧ IntAt h' b 0 (x * y) ∧ Fm No h h' := by
  refine exact_product_ok.snd Af.hm rfl fun w => ?_
  rw [WF_eq, exact_product]
  obtain ⟨h0, e0⟩ : ∃ g, h.new ⟨[.bool false, .slice none 0 0], .own⟩ = g := ⟨_, rfl⟩
  have w0 : Wf h0 := e0 ▸ w.new
  have f0 : Fm No h h0 := e0 ▸ Fm.new Fm.refl
  have x0 : XAt h0 h.size 0 := e0 ▸ x_new (by decide)
  simp +contextual (disch := omega) only [↓AM, ↓AV, AP, CQ, e0]
  refine (c_newIS hx).use ?_
  rintro _ h1 w1 ⟨b1, rfl, l1, n1, f1⟩
  simp +contextual (disch := omega) only [↓AM, ↓AV, AP, CQ, e0]
  refine (c_newIS hy).use ?_
  rintro _ h2 w2 ⟨b2, rfl, l2, n2, f2⟩
  simp +contextual (disch := omega) only [↓AM, ↓AV, AP, CQ, e0]
  refine (c_MulS ((x0.keep w0 f1).keep w1 f2) (n1.keep w1 f2) n2 (Nat.le_trans (dg2 (by omega)) (by decide)) (Nat.le_trans (dg2 (by omega)) (by decide))).use ?_
  rintro _ h3 w3 ⟨rfl, wr, n3⟩
  simp +contextual (disch := omega) only [↓AM, ↓AV, AP, CQ, e0]
  exact ⟨_, rfl, n3, ((f0.trans f1 fun _ _ f => f).trans f2 fun _ _ f => f).trans wr.fm fun z hz e => by omega⟩
theorem mul_b {x y : Int} (hx : -1073741824 < x ∧ x < 1073741824) (hy : 0 < y ∧ y < 1073741824) : -1152921504606846976 ≤ x * y ∧ x * y ≤ 1152921504606846976 := by
  obtain ⟨m, rfl⟩ : ∃ m : Nat, y = (m : Int) := ⟨y.toNat, by omega⟩
  have h1 : (x * m).natAbs = x.natAbs * m := by rw [Int.natAbs_mul, nab]
  have h2 : x.natAbs * m ≤ 1073741824 * 1073741824 := Nat.mul_le_mul (by omega) (by omega)
  omega
theorem cmpZ_01 {a b : Int} : cmpZ a b = (if a < b then -1 else if b < a then 1 else 0) := by
  unfold cmpZ
  split
  · rfl
  · split <;> split <;> omega
theorem c_cmpT {h : Hp} {x y : Tim} (hx : VT x) (hy : VT y) : ACalls Try.prog 62 [.agg #[.int .i64 x.1, .int .i64 x.2], .agg #[.int .i64 y.1, .int .i64 y.2]] h fun v h' => v = .int .i64 (cmpZ (x.1 * y.2) (y.1 * x.2)) ∧ Fm No h h' := by
  refine exact_cmp_ok.snd Af.hm rfl fun w => ?_
  rw [WF_eq, exact_cmp]
  obtain ⟨x1, x2⟩ := x
  obtain ⟨y1, y2⟩ := y
  simp only at *
  obtain ⟨hx1, hx2, hx3, hx4⟩ := hx
  obtain ⟨hy1, hy2, hy3, hy4⟩ := hy
  simp only at hx1 hx2 hx3 hx4 hy1 hy2 hy3 hy4
  obtain ⟨h0, e0⟩ : ∃ g, h.new ⟨[.int .i64 x1, .int .i64 x2], .own⟩ = g := ⟨_, rfl⟩
  obtain ⟨h1, e1⟩ : ∃ g, h0.new ⟨[.int .i64 y1, .int .i64 y2], .own⟩ = g := ⟨_, rfl⟩
  obtain ⟨h2, e2⟩ : ∃ g, h1.new ⟨[.int .i64 x1, .int .i64 x2, .int .i64 y1, .int .i64 y2], .own⟩ = g := ⟨_, rfl⟩
  have w0 : Wf h0 := e0 ▸ w.new
  have w1 : Wf h1 := e1 ▸ w0.new
  have w2 : Wf h2 := e2 ▸ w1.new
  have f0 : Fm No h h0 := e0 ▸ Fm.new Fm.refl
  have f1 : Fm No h0 h1 := e1 ▸ Fm.new Fm.refl
  have f2 : Fm No h1 h2 := e2 ▸ Fm.new Fm.refl
  have g0 : h1.get h.size = some ⟨[.int .i64 x1, .int .i64 x2], .own⟩ := f1.keep w0 (e0 ▸ gnew) (fun f => f)
  have g1 : h1.get h0.size = some ⟨[.int .i64 y1, .int .i64 y2], .own⟩ := e1 ▸ gnew
  have rds : ∀ g : Hp, Fm No h1 g → (∀ i, g.rd h.size i = ([.int .i64 x1, .int .i64 x2] : List Value)[i]?) ∧ (∀ i, g.rd h0.size i = ([.int .i64 y1, .int .i64 y2] : List Value)[i]?) := fun g fg => ⟨fun i => rd_mk (fg.keep w1 g0 (fun f => f)), fun i => rd_mk (fg.keep w1 g1 (fun f => f))⟩
  have n0 : h1.rdN h.size 0 2 = some [.int .i64 x1, .int .i64 x2] := rdN_mk g0 (by simp)
  have n1 : h1.rdN h0.size 0 2 = some [.int .i64 y1, .int .i64 y2] := rdN_mk g1 (by simp)
  have rl : Rd h2 2 (some ⟨h1.size, 0, none⟩) 2 ([(x1, x2), (y1, y2)].flatMap timC) := Rd.of rfl (by rw [← e2]; exact rd_n4)
  have f12 := (f0.trans f1 fun _ _ f => f).trans f2 fun _ _ f => f
  simp +contextual (disch := omega) only [↓AM, ↓AV, AP, CQ, e0, e1, n0, n1, e2]
  refine (c_littleL rl rfl (by omega)).use ?_
  rintro _ h3 w3 ⟨rfl, f3⟩
  obtain ⟨r0, r1⟩ := rds h3 (f2.trans f3 fun _ _ f => f)
  have f03 := f12.trans f3 fun _ _ f => f
  have eL : (!([(x1, x2), (y1, y2)].any bLg)) = decide (¬ Lg (x1, x2) ∧ ¬ Lg (y1, y2)) := by
    by_cases ha : Lg (x1, x2) <;> by_cases hb : Lg (y1, y2) <;> simp [ha, hb, bLg, nVT]
  rw [eL]
  by_cases hs : ¬ Lg (x1, x2) ∧ ¬ Lg (y1, y2)
  · obtain ⟨ha, hb⟩ := hs
    have hs : ¬ Lg (x1, x2) ∧ ¬ Lg (y1, y2) := ⟨ha, hb⟩
    unfold Lg at ha hb
    simp only at ha hb
    have m1 := mul_b (x := x1) (y := y2) (by omega) (by omega)
    have m2 := mul_b (x := y1) (y := x2) (by omega) (by omega)
    have ec : decide (¬ Lg (x1, x2) ∧ ¬ Lg (y1, y2)) = true := decide_eq_true hs
    rw [ec, cmpZ_01]
    have i1 : IntKind.i64.wrap (x1 * y2) = x1 * y2 := i64 (by omega)
    have i2 : IntKind.i64.wrap (y1 * x2) = y1 * x2 := i64 (by omega)
    by_cases c1 : x1 * y2 < y1 * x2
    · simp +contextual (disch := omega) only [↓AM, ↓AV, AP, CQ, e0, e1, e2, r0, r1, i1, i2, c1]
      exact f03
    · by_cases c2 : y1 * x2 < x1 * y2
      · simp +contextual (disch := omega) only [↓AM, ↓AV, AP, CQ, e0, e1, e2, r0, r1, i1, i2, c1, c2]
        exact f03
      · simp +contextual (disch := omega) only [↓AM, ↓AV, AP, CQ, e0, e1, e2, r0, r1, i1, i2, c1, c2]
        exact f03
  · rw [decide_eq_false hs]
    simp +contextual (disch := omega) only [↓AM, ↓AV, AP, CQ, e0, e1, e2, r0, r1]
    refine (c_product (by omega) (by omega)).use ?_
    rintro _ h4 w4 ⟨b4, rfl, n4, f4⟩
    obtain ⟨r2, r3⟩ := rds h4 ((f2.trans f3 fun _ _ f => f).trans f4 fun _ _ f => f)
    simp +contextual (disch := omega) only [↓AM, ↓AV, AP, CQ, e0, e1, e2, r0, r1, r2, r3]
    refine (c_product (by omega) (by omega)).use ?_
    rintro _ h5 w5 ⟨b5, rfl, n5, f5⟩
    simp +contextual (disch := omega) only [↓AM, ↓AV, AP, CQ]
    have d1 : (dg (x1 * y2).natAbs).length ≤ 4 := by rw [Int.natAbs_mul]; exact dg_mul (dg2 (by omega)) (dg2 (by omega))
    have d2 : (dg (y1 * x2).natAbs).length ≤ 4 := by rw [Int.natAbs_mul]; exact dg_mul (dg2 (by omega)) (dg2 (by omega))
    refine (c_CmpS (n4.keep w4 f5) n5 (by omega) (by omega)).use ?_
    rintro _ h6 w6 ⟨rfl, e⟩
    subst e
    simp +contextual (disch := omega) only [↓AM, ↓AV, AP, CQ]
    exact (f03.trans f4 fun _ _ f => f).trans f5 fun _ _ f => f
theorem c_CmpT {h : Hp} {x y : Tim} : ACalls Try.prog 36 [.agg #[.int .i64 x.1, .int .i64 x.2], .agg #[.int .i64 y.1, .int .i64 y.2]] h fun v h' => v = .tuple #[.int .i64 (if VT x ∧ VT y then cmpZ (x.1 * y.2) (y.1 * x.2) else 0), .int .i64 (if VT x ∧ VT y then 0 else 4)] ∧ Fm No h h' := by
  refine exact_Cmp_ok.snd Af.hm rfl fun w => ?_
  rw [WF_eq, exact_Cmp]
  obtain ⟨x1, x2⟩ := x
  obtain ⟨y1, y2⟩ := y
  simp only at *
  obtain ⟨h0, e0⟩ : ∃ g, h.new ⟨[.int .i64 x1, .int .i64 x2], .own⟩ = g := ⟨_, rfl⟩
  obtain ⟨h1, e1⟩ : ∃ g, h0.new ⟨[.int .i64 y1, .int .i64 y2], .own⟩ = g := ⟨_, rfl⟩
  obtain ⟨h2, e2⟩ : ∃ g, h1.new ⟨[.int .i64 x1, .int .i64 x2, .int .i64 y1, .int .i64 y2], .own⟩ = g := ⟨_, rfl⟩
  have w0 : Wf h0 := e0 ▸ w.new
  have w1 : Wf h1 := e1 ▸ w0.new
  have w2 : Wf h2 := e2 ▸ w1.new
  have f0 : Fm No h h0 := e0 ▸ Fm.new Fm.refl
  have f1 : Fm No h0 h1 := e1 ▸ Fm.new Fm.refl
  have f2 : Fm No h1 h2 := e2 ▸ Fm.new Fm.refl
  have g0 : h1.get h.size = some ⟨[.int .i64 x1, .int .i64 x2], .own⟩ := f1.keep w0 (e0 ▸ gnew) (fun f => f)
  have g1 : h1.get h0.size = some ⟨[.int .i64 y1, .int .i64 y2], .own⟩ := e1 ▸ gnew
  have n0 : ∀ g : Hp, Fm No h1 g → g.rdN h.size 0 2 = some [.int .i64 x1, .int .i64 x2] ∧ g.rdN h0.size 0 2 = some [.int .i64 y1, .int .i64 y2] := fun g fg => ⟨rdN_mk (fg.keep w1 g0 (fun f => f)) (by simp), rdN_mk (fg.keep w1 g1 (fun f => f)) (by simp)⟩
  obtain ⟨p0, p1⟩ := n0 h1 Fm.refl
  have rl : Rd h2 2 (some ⟨h1.size, 0, none⟩) 2 ([(x1, x2), (y1, y2)].flatMap timC) := Rd.of rfl (by rw [← e2]; exact rd_n4)
  have f12 := (f0.trans f1 fun _ _ f => f).trans f2 fun _ _ f => f
  simp +contextual (disch := omega) only [↓AM, ↓AV, AP, CQ, e0, e1, p0, p1, e2]
  refine (c_validL rl rfl (by omega)).use ?_
  rintro _ h3 w3 ⟨rfl, f3⟩
  obtain ⟨q0, q1⟩ := n0 h3 (f2.trans f3 fun _ _ f => f)
  have f03 := f12.trans f3 fun _ _ f => f
  have eL : (!([(x1, x2), (y1, y2)].any nVT)) = decide (VT (x1, x2) ∧ VT (y1, y2)) := by
    by_cases ha : VT (x1, x2) <;> by_cases hb : VT (y1, y2) <;> simp [ha, hb, bLg, nVT]
  rw [eL]
  by_cases hs : VT (x1, x2) ∧ VT (y1, y2)
  · rw [decide_eq_true hs, if_pos hs, if_pos hs]
    simp +contextual (disch := omega) only [↓AM, ↓AV, AP, CQ, e0, e1, e2, q0, q1]
    refine (c_cmpT hs.1 hs.2).use ?_
    rintro _ h4 w4 ⟨rfl, f4⟩
    simp +contextual (disch := omega) only [↓AM, ↓AV, AP, CQ]
    exact f03.trans f4 fun _ _ f => f
  · rw [decide_eq_false hs, if_neg hs, if_neg hs]
    simp +contextual (disch := omega) only [↓AM, ↓AV, AP, CQ, e0, e1, e2, q0, q1]
    exact f03
end Go.Proofs.Ytikbdeobghoglaa.St

/- Segments of the program: the window. Plain theorems over the abstract machine.
   Conditions: none. -/
namespace Go.Proofs.Ytikbdeobghoglaa.St
open Go Go.RowKit Go.Proofs.Ytikbdeobghoglaa.Am Go.Proofs.Ytikbdeobghoglaa.Af Go.Proofs.Ytikbdeobghoglaa.Md Go.Proofs.Ytikbdeobghoglaa.Nu
set_option linter.unusedVariables false
set_option linter.unusedSimpArgs false
set_option linter.defProp false
set_option maxRecDepth 20000
set_option maxHeartbeats 1000000

/-- A segment: its number, its span, where its data lie, whether it breaks. -/
abbrev Sg := Int × Tim × Tim × (Option Addr × Nat × Nat) × Bool
def segC (x : Sg) : List Value := [.int .i64 x.1, .int .i64 x.2.1.1, .int .i64 x.2.1.2, .int .i64 x.2.2.1.1, .int .i64 x.2.2.1.2, .slice x.2.2.2.1.1 x.2.2.2.1.2.1 x.2.2.2.1.2.2, .bool x.2.2.2.2]
theorem segC_len (x : Sg) : (segC x).length = 7 := rfl
def leT (a b : Tim) : Prop := a.1 * b.2 ≤ b.1 * a.2
instance (a b : Tim) : Decidable (leT a b) := by unfold leT; infer_instance
/-- A segment's span is valid. -/
def SO (x : Sg) : Prop := (VT x.2.1 ∧ VT x.2.2.1) ∧ leT x.2.1 x.2.2.1
instance (x : Sg) : Decidable (SO x) := by unfold SO; infer_instance
def nSO (x : Sg) : Bool := !decide (SO x)
theorem cmpZ_le {a b : Int} : (cmpZ a b ≤ 0) = (a ≤ b) := by
  unfold cmpZ
  split
  · simp; omega
  · split <;> simp <;> omega
theorem cmpZ_gt {a b : Int} : (0 < cmpZ a b) = (b < a) := by
  unfold cmpZ
  split
  · simp; omega
  · split <;> simp <;> omega
theorem c_IndexSeg {h : Hp} {a : Option Addr} {n c f : Nat} {us vs : Array Value} {xs : List Sg} {p : Sg → Bool} (ha : Rd h 7 a n (xs.flatMap segC)) (hl : xs.length = n) (hn : n ≤ 140737488351232) (hf : okF Try.prog f = true)
    (hp : ∀ x ∈ xs, ∀ h1, Fm No h h1 → ACalls Try.prog f (us.toList ++ [.agg (segC x).toArray] ++ vs.toList) h1 fun v h' => v = .bool (p x) ∧ Fm No h1 h') :
    ACalls Try.prog 60 [.slice a n c, .func (.func f) us vs] h fun v h' => (∃ i : Int, v = .int .i64 i ∧ decide (0 ≤ i) = xs.any p) ∧ Fm No h h' := by
  refine slices_IndexFunc___api_Segment_api_Segment__ok.snd hm rfl fun w => ?_
  rw [WF_eq, slices_IndexFunc___api_Segment_api_Segment_]
  simp +contextual only [↓AM, ↓AV, AP]
  refine WL.mk (fun k t h' => Wf h' ∧ Fm No h h' ∧ ∃ i : Nat, i ≤ n ∧ k = n - i ∧ (xs.take i).any p = false ∧ t = [(0, some (.slice a n c)), (1, some (.func (.func f) us vs)), (7, some (.int .i64 n)), (8, some (.int .i64 i))]) ⟨n, w, Fm.refl, 0, by simp, rfl, rfl, rfl⟩ ?_
  rintro k t h1 ⟨w1, fm, i, hi, rfl, hall, rfl⟩
  by_cases hin : i < n
  · obtain ⟨b1, o1, s1, u, rfl, f1, hu, r1, -⟩ := (ha.keep w fm (fun x _ => id)).elem segC_len hl hin
    simp only [segC] at r1
    simp +contextual only [↓AM, ↓AV, AP, f1, r1, hin]
    refine ⟨hf, (hp u (List.mem_of_getElem? hu) _ fm).use ?_⟩
    rintro _ h2 w2 ⟨rfl, fm2⟩
    have fm' := fm.trans fm2 (fun _ _ x => x)
    simp +contextual only [↓AM, ↓AV, AP]
    refine ⟨fun hpu => ⟨⟨_, rfl, ?_⟩, fm'⟩, fun hpu => ⟨_, ?_, w2, fm', i + 1, hin, rfl, ?_, ?_⟩⟩
    · have : xs.any p = true := List.any_eq_true.2 ⟨u, List.mem_of_getElem? hu, hpu⟩
      rw [this]; simp
    · omega
    · rw [List.take_add_one, hu]; simp [hall, hpu]
    · rw [i64 (by omega)]; rfl
  · simp +contextual only [↓AM, ↓AV, AP, hin]
    rw [List.take_of_length_le (by omega)] at hall
    exact ⟨⟨_, rfl, by rw [hall]; rfl⟩, fm⟩
theorem c_ContainsSeg {h : Hp} {a : Option Addr} {n c f : Nat} {us vs : Array Value} {xs : List Sg} {p : Sg → Bool} (ha : Rd h 7 a n (xs.flatMap segC)) (hl : xs.length = n) (hn : n ≤ 140737488351232) (hf : okF Try.prog f = true)
    (hp : ∀ x ∈ xs, ∀ h1, Fm No h h1 → ACalls Try.prog f (us.toList ++ [.agg (segC x).toArray] ++ vs.toList) h1 fun v h' => v = .bool (p x) ∧ Fm No h1 h') :
    ACalls Try.prog 32 [.slice a n c, .func (.func f) us vs] h fun v h' => v = .bool (xs.any p) ∧ Fm No h h' := by
  refine slices_ContainsFunc___api_Segment_api_Segment__ok.snd hm rfl fun w => ?_
  rw [WF_eq, slices_ContainsFunc___api_Segment_api_Segment_]
  simp +contextual only [↓AM, ↓AV, AP]
  refine (c_IndexSeg ha hl hn hf hp).use ?_
  rintro _ _ w1 ⟨⟨i, rfl, hi⟩, fm⟩
  simp +contextual only [↓AM, ↓AV, AP, hi]
  exact fm

/-! ### the error of a lock -/

theorem c_spanOK {h : Hp} {x : Sg} : ACalls Try.prog 58 [.agg #[.int .i64 x.2.1.1, .int .i64 x.2.1.2, .int .i64 x.2.2.1.1, .int .i64 x.2.2.1.2]] h fun v h' => v = .bool (decide (SO x)) ∧ Fm No h h' := by
  refine stream_spanOK_ok.snd Af.hm rfl fun w => ?_
  rw [WF_eq, stream_spanOK]
  obtain ⟨m, ⟨f1, f2⟩, ⟨t1, t2⟩, dd, br⟩ := x
  simp only at *
  obtain ⟨h0, e0⟩ : ∃ g, h.new ⟨[.int .i64 f1, .int .i64 f2, .int .i64 t1, .int .i64 t2], .own⟩ = g := ⟨_, rfl⟩
  have fm0 : Fm No h h0 := e0 ▸ Fm.new Fm.refl
  have g0 : h0.get h.size = some ⟨[.int .i64 f1, .int .i64 f2, .int .i64 t1, .int .i64 t2], .own⟩ := e0 ▸ gnew
  have n0 : h0.rdN h.size 0 2 = some [.int .i64 f1, .int .i64 f2] := rdN_mk g0 (by simp)
  have n2 : h0.rdN h.size 2 2 = some [.int .i64 t1, .int .i64 t2] := rdN_mk g0 (by simp)
  simp +contextual (disch := omega) only [↓AM, ↓AV, AP, CQ, e0, n0, n2]
  refine (c_CmpT (x := (f1, f2)) (y := (t1, t2))).use ?_
  rintro _ h1 w1 ⟨rfl, fm1⟩
  have fin := fm0.trans fm1 fun _ _ f => f
  by_cases hv : VT (f1, f2) ∧ VT (t1, t2)
  · rw [if_pos hv, if_pos hv]
    simp +contextual (disch := omega) only [↓AM, ↓AV, AP, CQ, eqI_self, cmpZ_le]
    exact ⟨congrArg Value.bool (decide_eq_decide.2 (by unfold SO leT; simp only [hv, true_and])), fin⟩
  · rw [if_neg hv, if_neg hv]
    simp +contextual (disch := omega) only [↓AM, ↓AV, AP, CQ, e4_0]
    exact ⟨by rw [decide_eq_false (fun q : SO (m, (f1, f2), (t1, t2), dd, br) => hv q.1)], fin⟩
theorem rdN_n7 {h : Hp} {a b c d e f g : Value} {md : Md} : (h.new ⟨[a, b, c, d, e, f, g], md⟩).rdN h.size 0 7 = some [a, b, c, d, e, f, g] := rdN_new rfl
theorem c_there1 {h : Hp} {x : Sg} : ACalls Try.prog 57 [.agg (segC x).toArray] h fun v h' => v = .bool (nSO x) ∧ Fm No h h' := by
  refine stream_there_1_ok.snd Af.hm rfl fun w => ?_
  rw [WF_eq, stream_there_1]
  obtain ⟨h0, e0⟩ : ∃ g, h.new ⟨segC x, .own⟩ = g := ⟨_, rfl⟩
  have fm0 : Fm No h h0 := e0 ▸ Fm.new Fm.refl
  have g0 : h0.get h.size = some ⟨segC x, .own⟩ := e0 ▸ gnew
  have n0 : h0.rdN h.size 1 4 = some [.int .i64 x.2.1.1, .int .i64 x.2.1.2, .int .i64 x.2.2.1.1, .int .i64 x.2.2.1.2] := rdN_mk g0 (by simp [segC])
  have al : allc (segC x) = true := rfl
  simp +contextual (disch := omega) only [↓AM, ↓AV, AP, CQ, al, e0, n0]
  refine c_spanOK.use ?_
  rintro _ h1 w1 ⟨rfl, fm1⟩
  simp +contextual (disch := omega) only [↓AM, ↓AV, AP, CQ]
  exact ⟨by simp [nSO], fm0.trans fm1 fun _ _ f => f⟩
theorem c_within {h : Hp} {n a b : Int} : ACalls Try.prog 49 [.int .i64 n, .int .i64 a, .int .i64 b] h fun v h' => v = .bool (decide (a ≤ n ∧ n ≤ b)) ∧ h' = h := by
  refine stream_within_ok.snd Af.hm rfl fun w => ?_
  rw [WF_eq, stream_within]
  by_cases h1 : a ≤ n
  · simp +contextual (disch := omega) only [↓AM, ↓AV, AP, CQ, h1]
  · simp +contextual (disch := omega) only [↓AM, ↓AV, AP, CQ, h1]
theorem c_in {h : Hp} {n a b : Int} : ACalls Try.prog 42 [.int .i64 n, .int .i64 a, .int .i64 b] h fun v h' => v = .bool (decide (a ≤ n ∧ n ≤ b)) ∧ h' = h := by
  refine dioramaref27_in_ok.snd Af.hm rfl fun w => ?_
  rw [WF_eq, dioramaref27_in]
  by_cases h1 : a ≤ n
  · simp +contextual (disch := omega) only [↓AM, ↓AV, AP, CQ, h1]
  · simp +contextual (disch := omega) only [↓AM, ↓AV, AP, CQ, h1]
theorem _root_.Go.Proofs.Ytikbdeobghoglaa.Am.Rd.dropS {h : Hp} {z b off n cap l : Nat} {sp : Option Nat} {cs : List Value} (r : Rd h z (some ⟨b, off, sp⟩) n cs) (hf : flagOk sp = true) (hk : l ≤ n) (hc : n ≤ cap) :
    Rd h z (some (slAddr b off sp z l cap true)) (n - l) (cs.drop (l * z)) := by
  obtain ⟨ob, h1, h2, h3⟩ : ∃ ob, h.get b = some ob ∧ off + n * z ≤ ob.cs.length ∧ cs = (ob.cs.drop off).take (n * z) := by
    rcases r.at_ _ rfl with ⟨-, h2⟩ | ⟨h1, -⟩
    · obtain ⟨ob, h1, h2, h3⟩ := rdN_of h2
      exact ⟨ob, h1, h2, h3⟩
    · rw [hf] at h1; cases h1
  have hlen := r.len
  have hz : (n - l) * z + l * z = n * z := by rw [← Nat.add_mul]; congr 1; omega
  have e : (cs.drop (l * z)).length = (n - l) * z := by rw [List.length_drop, hlen]; omega
  refine ⟨e, (fun e => by cases e), fun a ha => ?_⟩
  have key : ∀ o, o = off + l * z → h.rdN b o ((n - l) * z) = some (cs.drop (l * z)) := by
    rintro o rfl
    rw [rdN_mk h1 (by omega), h3, List.drop_take, List.drop_drop]
    congr 2
    omega
  have key0 : cap = l → h.rdN b off ((n - l) * z) = some (cs.drop (l * z)) ∧ n - l = 0 := fun hcl => by
    have h0 : n - l = 0 := by omega
    refine ⟨?_, h0⟩
    rw [h0, Nat.zero_mul, rdN_mk h1 (by omega), List.take_zero]
    rw [h0, Nat.zero_mul] at e
    rw [List.length_eq_zero_iff.1 e]
  cases ha
  cases sp with
  | none =>
    unfold slAddr
    by_cases hcl : cap = l
    · simp only [hcl, if_true]
      exact .inl ⟨rfl, (key0 hcl).1⟩
    · simp only [hcl, if_false]
      exact .inl ⟨rfl, key _ rfl⟩
  | some k =>
    unfold slAddr
    by_cases hcl : cap = l
    · simp only [hcl, if_true]
      cases hfl : flagOk (some (l * z)) with
      | true => exact .inl ⟨rfl, (key0 hcl).1⟩
      | false => exact .inr ⟨rfl, (key0 hcl).2⟩
    · simp only [hcl, if_false]
      exact .inl ⟨hf, key _ rfl⟩
/-- What is there at a time. -/
def thr (s : List Sg) (t : Tim) : List Sg := s.filter fun x => decide (leT x.2.2.1 t)
def win (s : List Sg) (t : Tim) (keep : Int) : List Sg := (thr s t).drop ((thr s t).length - keep.toNat)
def er (s : List Sg) (t : Tim) (keep : Int) : Int := if VT t ∧ ∀ x ∈ s, SO x then (if 1 ≤ keep ∧ keep ≤ 60 then 0 else 1) else 4
theorem flat_drop {α : Type} {f : α → List Value} {z : Nat} (hf : ∀ x, (f x).length = z) : ∀ (xs : List α) (i : Nat), (xs.flatMap f).drop (i * z) = (xs.drop i).flatMap f
  | [], i => by simp
  | x :: xs, 0 => by simp
  | x :: xs, i + 1 => by
    rw [List.flatMap_cons, List.drop_succ_cons, List.drop_append, hf, List.drop_eq_nil_of_le (by rw [hf, Nat.add_mul]; omega), List.nil_append, show (i + 1) * z - z = i * z by rw [Nat.add_mul]; omega, flat_drop hf xs i]
theorem c_there {h : Hp} {oa : Option Addr} {c : Nat} {s : List Sg} {t : Tim} {keep : Int} (ha : Rd h 7 oa s.length (s.flatMap segC)) (hn : s.length ≤ 1000000) :
    ACalls Try.prog 29 [.slice oa s.length c, .agg #[.int .i64 t.1, .int .i64 t.2], .int .i64 keep] h fun v h' => Fm No h h' ∧ ∃ a' c', v = .tuple #[.slice a' (if er s t keep = 0 then (win s t keep).length else 0) c', .int .i64 (er s t keep)] ∧
      (er s t keep = 0 → Rd h' 7 a' (win s t keep).length ((win s t keep).flatMap segC)) := by
  refine stream_there_ok.snd Af.hm rfl fun w => ?_
  rw [WF_eq, stream_there]
  obtain ⟨t1, t2⟩ := t
  simp only at *
  obtain ⟨h0, e0⟩ : ∃ g, h.new ⟨[.int .i64 t1, .int .i64 t2], .own⟩ = g := ⟨_, rfl⟩
  have w0 : Wf h0 := e0 ▸ w.new
  have f0 : Fm No h h0 := e0 ▸ Fm.new Fm.refl
  have g0 : h0.get h.size = some ⟨[.int .i64 t1, .int .i64 t2], .own⟩ := e0 ▸ gnew
  have rds : ∀ g : Hp, Fm No h0 g → g.rdN h.size 0 2 = some [.int .i64 t1, .int .i64 t2] := fun g fg => rdN_mk (fg.keep w0 g0 (fun f => f)) (by simp)
  have n0 := rds h0 Fm.refl
  simp +contextual (disch := omega) only [↓AM, ↓AV, AP, CQ, e0, n0]
  refine (c_Valid (x := (t1, t2))).use ?_
  rintro _ h1 w1 ⟨rfl, f1⟩
  have f01 := f0.trans f1 fun _ _ f => f
  by_cases hv : VT (t1, t2)
  case neg =>
    have he : er s (t1, t2) keep = 4 := by unfold er; rw [if_neg (fun q => hv q.1)]
    simp +contextual (disch := omega) only [↓AM, ↓AV, AP, CQ, e0, hv]
    rw [he]
    exact ⟨f01, none, 0, rfl, fun q => by omega⟩
  simp +contextual (disch := omega) only [↓AM, ↓AV, AP, CQ, e0, hv]
  refine (c_ContainsSeg (us := #[]) (vs := #[]) (p := nSO) (ha.keepW w f01 nNo) rfl (by omega) stream_there_1_ok.2 (fun x _ h1 _ => c_there1)).use ?_
  rintro _ h2 w2 ⟨rfl, f2⟩
  have f02 := f01.trans f2 fun _ _ f => f
  have f12 := f1.trans f2 fun _ _ f => f
  by_cases hs : s.any nSO = true
  · have he : er s (t1, t2) keep = 4 := by
      unfold er
      rw [if_neg]
      rintro ⟨-, q⟩
      obtain ⟨x, hx, hx2⟩ := List.any_eq_true.1 hs
      simp [nSO, q x hx] at hx2
    simp +contextual (disch := omega) only [↓AM, ↓AV, AP, CQ, e0, hs]
    rw [he]
    exact ⟨f02, none, 0, rfl, fun q => by omega⟩
  have hall : ∀ x ∈ s, SO x := fun x hx => by
    refine Classical.byContradiction fun q => hs ?_
    exact List.any_eq_true.2 ⟨x, hx, by simp [nSO, q]⟩
  have hs : s.any nSO = false := by simpa using hs
  simp +contextual (disch := omega) only [↓AM, ↓AV, AP, CQ, e0, hs]
  refine c_within.use ?_
  rintro _ h2 w3 ⟨rfl, rfl⟩
  by_cases hk : 1 ≤ keep ∧ keep ≤ 60
  case neg =>
    have he : er s (t1, t2) keep = 1 := by unfold er; rw [if_pos ⟨hv, hall⟩, if_neg hk]
    simp +contextual (disch := omega) only [↓AM, ↓AV, AP, CQ, e0, hk]
    rw [he]
    exact ⟨f02, none, 0, rfl, fun q => by omega⟩
  have he : er s (t1, t2) keep = 0 := by unfold er; rw [if_pos ⟨hv, hall⟩, if_pos hk]
  simp +contextual (disch := omega) only [↓AM, ↓AV, AP, CQ, e0, hk]
  refine WL.mk (fun k u h' => ∃ (i : Nat) (o : Option Addr) (cap : Nat), Wf h' ∧ Fm No h2 h' ∧ i ≤ s.length ∧ k = s.length - i ∧ Nw h2 o ∧ Ow h' 7 o (thr (s.take i) (t1, t2)).length cap ((thr (s.take i) (t1, t2)).flatMap segC) ∧
      u = [(2, some (.int .i64 keep)), (4, some (.pointer (some ⟨h.size, 0, none⟩))), (8, some (.slice o (thr (s.take i) (t1, t2)).length cap)), (23, some (.slice oa s.length c)), (24, some (.int .i64 (s.length : Int))), (25, some (.int .i64 (i : Int)))])
    ⟨s.length, 0, none, 0, w2, Fm.refl, by omega, rfl, Nw.none, by simp [thr]; exact Ow.mk0, by simp [thr]⟩ ?_
  rintro k u h3 ⟨i, o, cap, w3, f3, hi, rfl, nw, ow, rfl⟩
  have f03 := f02.trans f3 fun _ _ f => f
  have hthl : (thr (s.take i) (t1, t2)).length ≤ 1000000 := by
    have h1 : (thr (s.take i) (t1, t2)).length ≤ (s.take i).length := List.length_filter_le _ _
    have h2 : (s.take i).length ≤ s.length := by rw [List.length_take]; omega
    omega
  by_cases hin : i < s.length
  · obtain ⟨b1, o1, s1, x, rfl, g1, hx, r1, -⟩ := (ha.keepW w f03 nNo).elem segC_len rfl hin
    have hsx := hall x (List.mem_of_getElem? hx)
    have hts : s.take (i + 1) = s.take i ++ [x] := by rw [List.take_add_one, hx]; rfl
    obtain ⟨hA, eA⟩ : ∃ g, h3.new ⟨segC x, .own⟩ = g := ⟨_, rfl⟩
    have wA : Wf hA := eA ▸ w3.new
    have fA : Fm No h3 hA := eA ▸ Fm.new Fm.refl
    have gA : hA.get h3.size = some ⟨segC x, .own⟩ := eA ▸ gnew
    have nA : hA.rdN h3.size 3 2 = some [.int .i64 x.2.2.1.1, .int .i64 x.2.2.1.2] := rdN_mk gA (by simp [segC])
    have nT := rds hA (((f1.trans f2 fun _ _ f => f).trans f3 fun _ _ f => f).trans fA fun _ _ f => f)
    have al : allc (segC x) = true := rfl
    have np : ∀ cs : List Value, cs.length = 7 → spl cs 0 (segC x) = segC x := fun cs hc => by unfold spl; rw [List.take_zero, List.nil_append, segC_len, List.drop_eq_nil_of_le (by omega), List.append_nil]
    have np := np _ (show ([.int .i64 0, .int .i64 0, .int .i64 0, .int .i64 0, .int .i64 0, .slice none 0 0, .bool false] : List Value).length = 7 from rfl)
    have l7 : lenIs (segC x) 7 = true := rfl
    simp +contextual (disch := omega) only [↓AM, ↓AV, AP, CQ, e0, hin, g1, r1, al, np, l7, eA, nA, nT]
    refine (c_CmpT (x := x.2.2.1) (y := (t1, t2))).use ?_
    rintro _ h4 w4 ⟨rfl, f4⟩
    rw [if_pos ⟨hsx.1.2, hv⟩, if_pos ⟨hsx.1.2, hv⟩]
    have gA4 := f4.keep wA gA (fun f => f)
    have nA4 : h4.rdN h3.size 0 7 = some (segC x) := rdN_mk gA4 (by simp [segC])
    have ow4 := (ow.keep w3 fA fun _ _ f => f).keep wA f4 fun _ _ f => f
    have f34 := fA.trans f4 fun _ _ f => f
    have nw4 := nw
    by_cases hle : leT x.2.2.1 (t1, t2)
    · have hth : thr (s.take (i + 1)) (t1, t2) = thr (s.take i) (t1, t2) ++ [x] := by
        rw [hts]; unfold thr; rw [List.filter_append]; simp [hle]
      have hle' : x.2.2.1.1 * t2 ≤ t1 * x.2.2.1.2 := hle
      have srcx : (h4.new ⟨segC x, .own⟩).src 7 (.slice (some ⟨h4.size, 0, none⟩) 1 1) = some (segC x) := src_new rfl
      simp +contextual (disch := omega) only [↓AM, ↓AV, AP, CQ, e0, cmpZ_le, hle', nA4, srcx, al, l7, np]
      refine ow4.push (m := 1) w4 rfl ?_ fun oa' cap' h5 o5 w5 f5 n5 => ?_
      · omega
      obtain ⟨p1, p2⟩ := grown (f3.trans f34 fun _ _ f => f) nw4 f5 n5
      simp +contextual (disch := omega) only [↓AM, ↓AV, AP, CQ, e0, i64]
      have hl1 : (thr (s.take (i + 1)) (t1, t2)).length = (thr (s.take i) (t1, t2)).length + 1 := by rw [hth, List.length_append]; rfl
      have ho5 : Ow h5 7 oa' (thr (s.take (i + 1)) (t1, t2)).length cap' ((thr (s.take (i + 1)) (t1, t2)).flatMap segC) := by
        rw [hl1, hth, List.flatMap_append, List.flatMap_cons, List.flatMap_nil, List.append_nil]; exact o5
      refine ⟨_, ?_, i + 1, oa', cap', w5, p1, by omega, rfl, p2, ho5, by rw [hl1]⟩
      omega
    · have hth : thr (s.take (i + 1)) (t1, t2) = thr (s.take i) (t1, t2) := by
        rw [hts]; unfold thr; rw [List.filter_append]; simp [hle]
      have hle' : ¬ x.2.2.1.1 * t2 ≤ t1 * x.2.2.1.2 := hle
      simp +contextual (disch := omega) only [↓AM, ↓AV, AP, CQ, e0, cmpZ_le, hle', i64]
      refine ⟨_, ?_, i + 1, o, cap, w4, f3.trans f34 fun _ _ f => f, by omega, rfl, nw, by rw [hth]; exact ow4, by rw [hth]⟩
      omega
  · have hie : i = s.length := by omega
    subst hie
    simp +contextual (disch := omega) only [↓AM, ↓AV, AP, CQ, e0, hin, i64]
    have ets : s.take s.length = s := List.take_of_length_le (Nat.le_refl _)
    rw [ets] at hthl ow ⊢
    have em : intMax [.int .i64 0, .int .i64 (((thr s (t1, t2)).length : Int) - keep)] = some (.int .i64 (((thr s (t1, t2)).length - keep.toNat : Nat) : Int)) := by
      have e2 : ∀ z, intMax [.int .i64 0, .int .i64 z] = some (.int .i64 (if z > 0 then z else 0)) := fun z => by simp [intMax]
      rw [e2]
      congr 2
      split <;> omega
    rcases o with _ | ⟨bo, oo, so⟩
    · have h1 := ow.nil rfl
      have h2 := ow.le
      have hL : (thr s (t1, t2)).length = 0 := by omega
      have hw : win s (t1, t2) keep = [] := by unfold win; rw [List.length_eq_zero_iff.1 hL, List.drop_nil]
      rw [hL] at em ⊢
      subst h1
      have em : intMax [.int .i64 0, .int .i64 (((0 : Nat) : Int) - keep)] = some (.int .i64 ((0 : Nat) : Int)) := by rw [em]; simp
      simp +contextual (disch := omega) only [↓AM, ↓AV, AP, CQ, em, bnds]
      rw [he, if_pos rfl, hw]
      exact ⟨Nat.le_refl _, f03, none, 0, rfl, fun _ => Rd.mk0⟩
    · have hs := ow.flag _ rfl
      have hle := ow.le
      have hcap : capOk so (thr s (t1, t2)).length cap := by cases so <;> simp [capOk]; omega
      have rd := (ow.rd).dropS (l := (thr s (t1, t2)).length - keep.toNat) hs (by omega) hle
      rw [flat_drop segC_len] at rd
      have hwl : (win s (t1, t2) keep).length = (thr s (t1, t2)).length - ((thr s (t1, t2)).length - keep.toNat) := by unfold win; rw [List.length_drop]
      simp +contextual (disch := omega) only [↓AM, ↓AV, AP, CQ, em, bnds, hs, hcap, Option.isNone]
      rw [he, if_pos rfl]
      refine ⟨by omega, f03, _, _, by rw [hwl], fun _ => ?_⟩
      rw [hwl]
      exact rd
end Go.Proofs.Ytikbdeobghoglaa.St

/- The program's window, and with which segment a client goes on. Plain theorems over the abstract machine.
   Conditions: none. -/
namespace Go.Proofs.Ytikbdeobghoglaa.St
open Go Go.RowKit Go.Proofs.Ytikbdeobghoglaa.Am Go.Proofs.Ytikbdeobghoglaa.Af Go.Proofs.Ytikbdeobghoglaa.Md Go.Proofs.Ytikbdeobghoglaa.Nu
set_option linter.unusedVariables false
set_option linter.unusedSimpArgs false
set_option linter.defProp false
set_option maxRecDepth 20000
set_option maxHeartbeats 1000000

/-- The first number of a window, and how many there are. -/
def wiN (R : List Sg) : Int := match R with
  | [] => 0
  | x :: _ => x.1
def wiR (e : Int) (R : List Sg) : Value := if e = 0 then .tuple #[.int .i64 (wiN R), .int .i64 (R.length : Int), .int .i64 0] else .tuple #[.int .i64 0, .int .i64 0, .int .i64 e]
theorem er_b (s : List Sg) (t : Tim) (keep : Int) : er s t keep = 0 ∨ er s t keep = 1 ∨ er s t keep = 4 := by
  unfold er
  split
  · split <;> simp
  · simp
theorem win_len (s : List Sg) (t : Tim) (keep : Int) : (win s t keep).length ≤ s.length := by
  unfold win thr
  rw [List.length_drop]
  have := List.length_filter_le (fun x => decide (leT x.2.2.1 t)) s
  omega
theorem eqI_f {a : Int} (h : a ≠ 0) : EqI a 0 = False := eq_false h
/-- The number of an element. -/
theorem num_at {h : Hp} {oa : Option Addr} {R : List Sg} (rd : Rd h 7 oa R.length (R.flatMap segC)) {i : Nat} (hi : i < R.length) : ∃ b off sp x, oa = some ⟨b, off, sp⟩ ∧ flagOk sp = true ∧ R[i]? = some x ∧ h.rd b (off + i * 7) = some (.int .i64 x.1) ∧ h.rdN b (off + i * 7) 7 = some (segC x) := by
  obtain ⟨b, off, sp, x, e, f1, hx, r1, r2⟩ := rd.elem segC_len rfl hi
  exact ⟨b, off, sp, x, e, f1, hx, r2 0 _ rfl, r1⟩
theorem c_Window {h : Hp} {oa : Option Addr} {c : Nat} {s : List Sg} {t : Tim} {keep : Int} (ha : Rd h 7 oa s.length (s.flatMap segC)) (hn : s.length ≤ 1000000) :
    ACalls Try.prog 11 [.slice oa s.length c, .agg #[.int .i64 t.1, .int .i64 t.2], .int .i64 keep] h fun v h' => v = wiR (er s t keep) (win s t keep) ∧ Fm No h h' := by
  refine stream_Window_ok.snd Af.hm rfl fun w => ?_
  rw [WF_eq, stream_Window]
  obtain ⟨t1, t2⟩ := t
  simp only at *
  obtain ⟨h0, e0⟩ : ∃ g, h.new ⟨[.int .i64 t1, .int .i64 t2], .own⟩ = g := ⟨_, rfl⟩
  have f0 : Fm No h h0 := e0 ▸ Fm.new Fm.refl
  have g0 : h0.get h.size = some ⟨[.int .i64 t1, .int .i64 t2], .own⟩ := e0 ▸ gnew
  have n0 : h0.rdN h.size 0 2 = some [.int .i64 t1, .int .i64 t2] := rdN_mk g0 (by simp)
  simp +contextual (disch := omega) only [↓AM, ↓AV, AP, CQ, e0, n0]
  refine (c_there (t := (t1, t2)) (keep := keep) (ha.keepW w f0 nNo) hn).use ?_
  rintro _ h1 w1 ⟨f1, a', c', rfl, hr⟩
  have fm := f0.trans f1 fun _ _ f => f
  have hb := er_b s (t1, t2) keep
  have hwl := win_len s (t1, t2) keep
  generalize er s (t1, t2) keep = e at *
  generalize win s (t1, t2) keep = R at *
  by_cases he : e = 0
  · subst he
    rw [if_pos rfl]
    have hr := hr rfl
    rcases Nat.eq_zero_or_pos R.length with h0' | h0'
    · have hR : R = [] := List.length_eq_zero_iff.1 h0'
      subst hR
      have e0' : EqI ((([] : List Sg).length : Nat) : Int) 0 = True := eqI_self
      simp +contextual (disch := omega) only [↓AM, ↓AV, AP, CQ, eqI_self, e0']
      exact ⟨rfl, fm⟩
    · obtain ⟨b, off, sp, x, rfl, g1, hx, r1, -⟩ := num_at hr h0'
      have e1 : EqI ((R.length : Nat) : Int) 0 = False := eq_false (by unfold EqI; omega)
      simp only [Nat.zero_mul, Nat.add_zero] at r1
      simp +contextual (disch := omega) only [↓AM, ↓AV, AP, CQ, eqI_self, e1, g1, h0', r1]
      refine ⟨by omega, ?_, fm⟩
      cases R with
      | nil => simp at h0'
      | cons y R => cases hx; rfl
  · rw [if_neg he]
    have e1 : EqI e 0 = False := eq_false he
    simp +contextual (disch := omega) only [↓AM, ↓AV, AP, CQ, e1]
    exact ⟨by unfold wiR; rw [if_neg he], fm⟩
theorem c_Next1 {h : Hp} {x : Sg} {b : Nat} {last : Int} (hb : h.rd b 0 = some (.int .i64 last)) (hx : 1 ≤ x.1 ∧ x.1 ≤ 1000000) : ACalls Try.prog 33 ([] ++ [.agg (segC x).toArray] ++ [.pointer (some ⟨b, 0, none⟩)]) h fun v h' => v = .bool (decide (x.1 - 1 = last)) ∧ Fm No h h' := by
  refine stream_Next_1_ok.snd Af.hm rfl fun w => ?_
  show WF _ stream_Next_1 [.agg (segC x).toArray, .pointer (some ⟨b, 0, none⟩)] h _
  rw [WF_eq, stream_Next_1]
  obtain ⟨h0, e0⟩ : ∃ g, h.new ⟨segC x, .own⟩ = g := ⟨_, rfl⟩
  have f0 : Fm No h h0 := e0 ▸ Fm.new Fm.refl
  have g0 : h0.get h.size = some ⟨segC x, .own⟩ := e0 ▸ gnew
  have r0 : h0.rd h.size 0 = some (.int .i64 x.1) := rd_mk g0
  have rb : h0.rd b 0 = some (.int .i64 last) := (rd_keep (f0.get _ (rd_lt w hb) (fun f => f))).trans hb
  have al : allc (segC x) = true := rfl
  have sc0 : (segC x)[0]? = some (.int .i64 x.1) := rfl
  simp +contextual (disch := omega) only [↓AM, ↓AV, AP, CQ, i64, al, e0, r0, rb, sc0]
  exact ⟨congrArg Value.bool (decide_eq_decide.2 Iff.rfl), f0⟩
/-- With which segment a client goes on, and what it is told. -/
def nxt (R : List Sg) (last : Int) : Int × Int :=
  if R = [] then (0, 1) else if last = 0 then ((R.getLast?.map (·.1)).getD 0, 0) else if ∃ x ∈ R, x.1 - 1 = last then (last + 1, 0) else if last < wiN R - 1 then (wiN R, 2) else (0, 1)
def nxR (e : Int) (R : List Sg) (last : Int) : Value := if e = 0 then (if last < 0 then .tuple #[.int .i64 0, .int .i64 0, .int .i64 1] else .tuple #[.int .i64 (nxt R last).1, .int .i64 (nxt R last).2, .int .i64 0]) else .tuple #[.int .i64 0, .int .i64 0, .int .i64 e]
theorem win_mem {s : List Sg} {t : Tim} {keep : Int} {x : Sg} (h : x ∈ win s t keep) : x ∈ s ∧ leT x.2.2.1 t := by
  have := List.mem_of_mem_drop h
  have := List.mem_filter.1 this
  exact ⟨this.1, by simpa using this.2⟩
theorem c_Next {h : Hp} {oa : Option Addr} {c : Nat} {s : List Sg} {t : Tim} {keep last : Int} (ha : Rd h 7 oa s.length (s.flatMap segC)) (hn : s.length ≤ 1000000) (hnum : ∀ x ∈ s, 1 ≤ x.1 ∧ x.1 ≤ 1000000) :
    ACalls Try.prog 13 [.slice oa s.length c, .agg #[.int .i64 t.1, .int .i64 t.2], .int .i64 keep, .int .i64 last] h fun v h' => v = nxR (er s t keep) (win s t keep) last ∧ Fm No h h' := by
  refine stream_Next_ok.snd Af.hm rfl fun w => ?_
  rw [WF_eq, stream_Next]
  obtain ⟨t1, t2⟩ := t
  simp only at *
  obtain ⟨h0, e0⟩ : ∃ g, h.new ⟨[.int .i64 t1, .int .i64 t2], .own⟩ = g := ⟨_, rfl⟩
  obtain ⟨hL, eL⟩ : ∃ g, h0.new ⟨[.int .i64 last], .own⟩ = g := ⟨_, rfl⟩
  have w0 : Wf h0 := e0 ▸ w.new
  have wL : Wf hL := eL ▸ w0.new
  have f0 : Fm No h h0 := e0 ▸ Fm.new Fm.refl
  have fL : Fm No h0 hL := eL ▸ Fm.new Fm.refl
  have g0 : hL.get h.size = some ⟨[.int .i64 t1, .int .i64 t2], .own⟩ := fL.keep w0 (e0 ▸ gnew) (fun f => f)
  have gL : hL.get h0.size = some ⟨[.int .i64 last], .own⟩ := eL ▸ gnew
  have n0 : hL.rdN h.size 0 2 = some [.int .i64 t1, .int .i64 t2] := rdN_mk g0 (by simp)
  have fhL := f0.trans fL fun _ _ f => f
  simp +contextual (disch := omega) only [↓AM, ↓AV, AP, CQ, e0, eL, n0]
  refine (c_there (t := (t1, t2)) (keep := keep) (ha.keepW w fhL nNo) hn).use ?_
  rintro _ h1 w1 ⟨f1, a', c', rfl, hr⟩
  have fm := fhL.trans f1 fun _ _ f => f
  have rl : ∀ g : Hp, Fm No h1 g → g.rd h0.size 0 = some (.int .i64 last) := fun g fg => rd_mk (fg.keep w1 (f1.keep wL gL (fun f => f)) (fun f => f))
  have rl1 := rl h1 Fm.refl
  have hb := er_b s (t1, t2) keep
  have hwl := win_len s (t1, t2) keep
  have hmem : ∀ x ∈ win s (t1, t2) keep, 1 ≤ x.1 ∧ x.1 ≤ 1000000 := fun x hx => hnum x (win_mem hx).1
  generalize er s (t1, t2) keep = e at *
  generalize win s (t1, t2) keep = R at *
  by_cases he : e = 0
  case neg =>
    rw [if_neg he]
    have e1 : EqI e 0 = False := eq_false he
    simp +contextual (disch := omega) only [↓AM, ↓AV, AP, CQ, e0, eL, e1]
    exact ⟨by unfold nxR; rw [if_neg he], fm⟩
  subst he
  rw [if_pos rfl]
  have hr := hr rfl
  by_cases hneg : last < 0
  · simp +contextual (disch := omega) only [↓AM, ↓AV, AP, CQ, e0, eL, eqI_self, rl1, hneg]
    exact ⟨by unfold nxR; rw [if_pos rfl, if_pos hneg], fm⟩
  have hres : nxR 0 R last = .tuple #[.int .i64 (nxt R last).1, .int .i64 (nxt R last).2, .int .i64 0] := by unfold nxR; rw [if_pos rfl, if_neg hneg]
  rw [hres]
  rcases Nat.eq_zero_or_pos R.length with h0' | h0'
  · have hR : R = [] := List.length_eq_zero_iff.1 h0'
    subst hR
    have e0' : EqI ((([] : List Sg).length : Nat) : Int) 0 = True := eqI_self
    simp +contextual (disch := omega) only [↓AM, ↓AV, AP, CQ, e0, eL, eqI_self, e0', rl1, hneg]
    exact ⟨rfl, fm⟩
  have hRn : R ≠ [] := fun q => by rw [q] at h0'; simp at h0'
  have e1 : EqI ((R.length : Nat) : Int) 0 = False := eq_false (by unfold EqI; omega)
  by_cases hl0 : last = 0
  · obtain ⟨b, off, sp, x, rfl, g1, hx, r1, -⟩ := num_at hr (show R.length - 1 < R.length by omega)
    have e2 : EqI last 0 = True := eq_true hl0
    have e3 : ((R.length : Int) - 1) = ((R.length - 1 : Nat) : Int) := by omega
    have e4 : R.length - 1 < R.length := by omega
    simp +contextual (disch := omega) only [↓AM, ↓AV, AP, CQ, e0, eL, eqI_self, e1, e2, e3, e4, rl1, hneg, i64, g1, r1]
    refine ⟨?_, fm⟩
    have : nxt R last = (x.1, 0) := by
      unfold nxt
      rw [if_neg hRn, if_pos hl0, List.getLast?_eq_getElem?, hx]
      rfl
    rw [this]
  have e2 : EqI last 0 = False := eq_false hl0
  simp +contextual (disch := omega) only [↓AM, ↓AV, AP, CQ, e0, eL, eqI_self, e1, e2, rl1, hneg, i64]
  refine (c_ContainsSeg (us := #[]) (vs := #[.pointer (some ⟨h0.size, 0, none⟩)]) (p := fun x => decide (x.1 - 1 = last)) hr rfl (by omega) stream_Next_1_ok.2 (fun x hx h' fg => c_Next1 (rl h' fg) (hmem x hx))).use ?_
  rintro _ h2 w2 ⟨rfl, f2⟩
  have fm2 := fm.trans f2 fun _ _ f => f
  have rl2 := rl h2 f2
  have hany : (R.any fun x => decide (x.1 - 1 = last)) = decide (∃ x ∈ R, x.1 - 1 = last) := by
    by_cases hex : ∃ x ∈ R, x.1 - 1 = last
    · rw [decide_eq_true hex]
      obtain ⟨x, hx, hx2⟩ := hex
      exact List.any_eq_true.2 ⟨x, hx, by simp [hx2]⟩
    · rw [decide_eq_false hex]
      refine Bool.eq_false_iff.2 fun q => hex ?_
      obtain ⟨x, hx, hx2⟩ := List.any_eq_true.1 q
      exact ⟨x, hx, by simpa using hx2⟩
  rw [hany]
  by_cases hex : ∃ x ∈ R, x.1 - 1 = last
  · have hlb : last ≤ 1000000 := by
      obtain ⟨x, hx, hx2⟩ := hex
      have := hmem x hx
      omega
    have hnx : nxt R last = (last + 1, 0) := by unfold nxt; rw [if_neg hRn, if_neg hl0, if_pos hex]
    rw [decide_eq_true hex, hnx]
    simp +contextual (disch := omega) only [↓AM, ↓AV, AP, CQ, e0, eL, rl2, i64]
    exact fm2
  · rw [decide_eq_false hex]
    obtain ⟨b, off, sp, x, rfl, g1, hx, r1, -⟩ := num_at (hr.keepW w1 f2 nNo) h0'
    simp only [Nat.zero_mul, Nat.add_zero] at r1
    have hx1 := hmem x (List.mem_of_getElem? hx)
    have hw : wiN R = x.1 := by
      cases R with
      | nil => simp at h0'
      | cons y R => cases hx; rfl
    have hnx : nxt R last = if last < x.1 - 1 then (x.1, 2) else (0, 1) := by unfold nxt; rw [if_neg hRn, if_neg hl0, if_neg hex, hw]
    rw [hnx]
    by_cases hlt : last < x.1 - 1
    · rw [if_pos hlt]
      simp +contextual (disch := omega) only [↓AM, ↓AV, AP, CQ, e0, eL, rl2, i64, g1, r1, h0', hlt]
      exact ⟨by omega, by omega, fm2⟩
    · rw [if_neg hlt]
      simp +contextual (disch := omega) only [↓AM, ↓AV, AP, CQ, e0, eL, rl2, i64, g1, r1, h0', hlt]
      exact ⟨by omega, fm2⟩
end Go.Proofs.Ytikbdeobghoglaa.St
