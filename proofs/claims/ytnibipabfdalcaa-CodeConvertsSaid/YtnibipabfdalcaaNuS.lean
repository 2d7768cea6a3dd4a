/- The document's product. Plain theorems over the abstract machine.
   Conditions: none. -/
import Derived.Test.YtnibipabfdalcaaNuR
namespace Go.Proofs.Ytnibipabfdalcaa.Nu
open Go Go.RowKit Go.Proofs.Ytnibipabfdalcaa.Am Go.Proofs.Ytnibipabfdalcaa.Af Go.Proofs.Ytnibipabfdalcaa.Md
set_option linter.unusedVariables false
set_option linter.unusedSimpArgs false
set_option linter.defProp false
set_option maxRecDepth 20000
set_option maxHeartbeats 1000000

theorem rep_i3 (n : Nat) : rep n [.int .i64 0] = i3 (List.replicate n 0) := by
  unfold rep i3
  induction n with
  | zero => rfl
  | succ n ih => rw [List.replicate_succ, List.flatten_cons, ih]; rfl
theorem spl_i3 {O : List Nat} {j d : Nat} (hj : j < O.length) : spl (i3 O) j [.int .i64 (d : Int)] = i3 (O.set j d) := by
  rw [spl_one _ _ _ (by rw [i3_len]; omega)]
  simp [i3, List.map_set]
theorem i3_at {O : List Nat} {j d : Nat} (h : O[j]? = some d) : (i3 O)[j]? = some (.int .i64 (d : Int)) := by simp [i3, h]
theorem Dl.zeros9 (n : Nat) : Dl B9 (List.replicate n 0) := fun d hd => by
  rw [(List.mem_replicate.1 hd).2]; decide
theorem dm_new {h : Hp} {O : List Nat} (hd : Dl B9 O) : Dm (h.new ⟨i3 O, .own⟩) (some ⟨h.size, 0, none⟩) O.length O.length O :=
  ⟨Rd.of rfl (by rw [Nat.mul_one]; have := rdN_mk (gnew (h := h) (o := ⟨i3 O, .own⟩)) (off := 0) (m := O.length) (by simp [i3_len]); rw [this]; simp [List.take_of_length_le (Nat.le_of_eq (i3_len O))]), Nat.le_refl _, hd⟩
theorem mul_step9 {x y c o : Nat} (hx : x < 1000000000) (hy : y < 1000000000) (hc : c < 1000000000) (ho : o < 1000000000) : (o + x * y) + c < 1000000000000000000 ∧ o + x * y < 1000000000000000000 ∧ x * y < 1000000000000000000 := by
  have : x * y ≤ 999999999 * 999999999 := Nat.mul_le_mul (by omega) (by omega)
  omega
theorem getD_lt {Y : List Nat} (h : Dl B9 Y) (j : Nat) : Y.getD j 0 < 1000000000 := by
  rw [List.getD_eq_getElem?_getD]
  cases e : Y[j]? with
  | none => decide
  | some d => exact h d (List.mem_of_getElem? e)
theorem take_getD {Y : List Nat} (j : Nat) : vL B9 (Y.take (j + 1)) = vL B9 (Y.take j) + B9 ^ j * Y.getD j 0 := by
  rw [List.take_add_one, List.getD_eq_getElem?_getD]
  cases e : Y[j]? with
  | none => simp
  | some d =>
    have : j < Y.length := (List.getElem?_eq_some_iff.1 e).1
    show vL B9 (Y.take j ++ [d]) = _
    rw [vL_snoc, List.length_take, Nat.min_eq_left (by omega)]
    rfl
theorem c_Times {h : Hp} {a b : Option Addr} {c d x y : Nat} (la : Dm h a (dc x).length c (dc x)) (lb : Dm h b (dc y).length d (dc y)) (hx : (dc x).length ≤ 400000) (hy : (dc y).length ≤ 400000) :
    ACalls Try.prog 71 [.slice a (dc x).length c, .slice b (dc y).length d] h fun v h' => DmW (fun z => h.size ≤ z) h' v (x * y) ∧ Fm No h h' := by
  refine dioramaref02_Times_ok.snd hm rfl fun w => ?_
  rw [WF_eq, dioramaref02_Times]
  simp +contextual (disch := omega) only [↓AM, ↓AV, AP, CQ, i64, rep_i3]
  refine ⟨by omega, ?_⟩
  have hval : vL B9 (dc x) * y = x * y := by rw [dc_val]
  generalize hX : dc x = X at *
  have yval : vL B9 (dc y) = y := dc_val y
  generalize hY : dc y = Y at *
  have zl : vL B9 (List.replicate (X.length + Y.length) 0) = 0 := vL_zeros _ _
  refine WL.mk (fun k t h' => ∃ O : List Nat, h' = h.new ⟨i3 O, .own⟩ ∧ O.length = X.length + Y.length ∧ Dl B9 O ∧ ∃ i : Nat, i ≤ X.length ∧ k = X.length - i ∧ vL B9 O = vL B9 (X.take i) * y ∧ (∀ j, i + Y.length ≤ j → j < O.length → O[j]? = some 0) ∧
      t = [(0, some (.slice a X.length c)), (1, some (.slice b Y.length d)), (5, some (.slice (some ⟨h.size, 0, none⟩) (X.length + Y.length) (X.length + Y.length))), (6, some (.int .i64 i))])
    ⟨X.length, _, rfl, by simp, Dl.zeros9 _, 0, by omega, rfl, by rw [zl]; simp [vL], fun j h1 h2 => by rw [List.getElem?_replicate, if_pos (by simpa using h2)], rfl⟩ ?_
  rintro k t _ ⟨O, rfl, hOl, hOd, i, hi, rfl, hv, hz, rfl⟩
  by_cases hin : i < X.length
  · simp +contextual (disch := omega) only [↓AM, ↓AV, AP, CQ, i64, hin]
    refine WL.mk (fun k t h' => ∃ O' : List Nat, h' = h.new ⟨i3 O', .own⟩ ∧ O'.length = X.length + Y.length ∧ Dl B9 O' ∧ ∃ j cy : Nat, j ≤ Y.length + 1 ∧ (j = Y.length + 1 → cy = 0) ∧ k = Y.length + 1 - j ∧ cy < 1000000000 ∧ vL B9 O' + B9 ^ (i + j) * cy = vL B9 (X.take i) * y + B9 ^ i * (X.getD i 0 * vL B9 (Y.take j)) ∧ (∀ q, i + Y.length ≤ q → i + j ≤ q → q < O'.length → O'[q]? = some 0) ∧
        t = [(0, some (.slice a X.length c)), (1, some (.slice b Y.length d)), (5, some (.slice (some ⟨h.size, 0, none⟩) (X.length + Y.length) (X.length + Y.length))), (6, some (.int .i64 (i : Int))), (7, some (.int .i64 (cy : Int))), (8, some (.int .i64 j))])
      ⟨Y.length + 1, O, rfl, hOl, hOd, 0, 0, by omega, by omega, rfl, by decide, by rw [hv]; simp [vL], fun q h1 _ h2 => hz q h1 h2, rfl⟩ ?_
    clear hv hz hOd hOl O
    rintro k t _ ⟨O, rfl, hOl, hOd, j, cy, hj, hlast, rfl, hcy, hv, hz, rfl⟩
    have fmO : Fm No h (h.new ⟨i3 O, .own⟩) := Fm.new Fm.refl
    obtain ⟨b1, o1, s1, p, rfl, f1, hp, r1⟩ := (la.rd.keepW w fmO nNo).dec hin
    have hpl : p < 1000000000 := la.dl.at hp
    have hpD : X.getD i 0 = p := by rw [List.getD_eq_getElem?_getD, hp]; rfl
    rw [hpD] at hv ⊢
    have ybd := getD_lt lb.dl j
    have htk := take_getD (Y := Y) j
    by_cases hstop : ¬ j < Y.length ∧ cy = 0
    · obtain ⟨h1, rfl⟩ := hstop
      have e0 : ((0 : Int) < ((0 : Nat) : Int)) = False := by simp
      simp +contextual (disch := omega) only [↓AM, ↓AV, AP, CQ, CN, i64, h1, e0]
      rw [List.take_of_length_le (l := Y) (i := j) (by omega), yval] at hv
      refine ⟨_, by omega, O, rfl, hOl, hOd, i + 1, by omega, rfl, ?_, ?_, rfl⟩
      · have h4 : vL B9 (X.take (i + 1)) = vL B9 (X.take i) + B9 ^ i * p := by rw [take_getD, hpD]
        rw [h4, Nat.add_mul, Nat.mul_assoc]
        omega
      · intro q h1 h2
        exact hz q (by omega) (by omega) h2
    · have hij : i + j < O.length := by
        rcases Nat.lt_or_ge j Y.length with h | h
        · omega
        · have : ¬ j = Y.length + 1 := fun e => hstop ⟨by omega, hlast e⟩
          omega
      have hij2 : i + j < X.length + Y.length := by omega
      obtain ⟨e, he⟩ : ∃ e, O[i + j]? = some e := ⟨_, List.getElem?_eq_getElem hij⟩
      have hel : e < 1000000000 := hOd.at he
      have go : ∀ (H : Prop), H → H := fun _ h => h
      have ue := i3_at he
      have ul : leIs (i + j + 1) (i3 O) = true := by rw [← leIs_p, i3_len]; omega
      generalize hq : Y.getD j 0 = q at *
      obtain ⟨m1, m2, m3⟩ := mul_step9 hpl ybd hcy hel
      have us : spl (i3 O) (i + j) [.int .i64 ((((e + p * q) + cy) % 1000000000 : Nat) : Int)] = i3 (O.set (i + j) (((e + p * q) + cy) % 1000000000)) := spl_i3 hij
      have hcond : ¬ j < Y.length → (0 : Int) < (cy : Int) := fun h => by
        have : ¬ cy = 0 := fun e => hstop ⟨h, e⟩
        omega
      have val : vL B9 (O.set (i + j) ((e + p * q + cy) % 1000000000)) + B9 ^ (i + (j + 1)) * ((e + p * q + cy) / 1000000000) = vL B9 (X.take i) * y + B9 ^ i * (p * vL B9 (Y.take (j + 1))) := by
        have h0 := vL_set (B := B9) (d := (e + p * q + cy) % 1000000000) he
        have h1 : B9 ^ (i + j) * ((e + p * q + cy) % 1000000000) + B9 ^ (i + j) * (B9 * ((e + p * q + cy) / 1000000000)) = B9 ^ (i + j) * (e + p * q + cy) := by rw [← Nat.mul_add]; congr 1; exact Nat.mod_add_div _ 1000000000
        have h2 : B9 ^ (i + j) * (e + p * q + cy) = B9 ^ (i + j) * e + B9 ^ (i + j) * (p * q) + B9 ^ (i + j) * cy := by rw [Nat.mul_add, Nat.mul_add]
        have h3 : B9 ^ i * (p * (B9 ^ j * q)) = B9 ^ (i + j) * (p * q) := by rw [Nat.pow_add]; ac_rfl
        rw [htk, Nat.mul_add p, Nat.mul_add (B9 ^ i), h3, show i + (j + 1) = (i + j) + 1 by omega, Nat.pow_succ, Nat.mul_assoc]
        omega
      by_cases hjn : j < Y.length
      · simp +contextual (disch := omega) only [↓AM, ↓AV, AP, CQ, CN, i64, hjn, hin, f1, r1, ue, hij2]
        refine (c_digit (i := j) (lb.rd.keepW w fmO nNo) (by omega)).use ?_
        rintro _ _ w2 ⟨rfl, rfl⟩
        rw [hq]
        simp +contextual (disch := omega) only [↓AM, ↓AV, AP, CQ, CN, CD, i64, r1, ue, hij2, ul, us]
        refine ⟨_, ?_, _, rfl, ?_, ?_, j + 1, (e + p * q + cy) / 1000000000, by omega, ?_, rfl, by omega, ?_, ?_, rfl⟩
        · omega
        · simp [hOl]
        · exact hOd.set (Nat.mod_lt _ (by decide))
        · intro e; omega
        · exact val
        · intro k h1 h2 h3
          rw [List.getElem?_set_ne (by omega)]
          exact hz k h1 (by omega) (by simpa using h3)
      · have hc0 := hcond hjn
        simp +contextual (disch := omega) only [↓AM, ↓AV, AP, CQ, CN, i64, hjn, hc0, hin, f1, r1, ue, hij2]
        refine (c_digit (i := j) (lb.rd.keepW w fmO nNo) (by omega)).use ?_
        rintro _ _ w2 ⟨rfl, rfl⟩
        rw [hq]
        simp +contextual (disch := omega) only [↓AM, ↓AV, AP, CQ, CN, CD, i64, r1, ue, hij2, ul, us]
        refine ⟨_, ?_, _, rfl, ?_, ?_, j + 1, (e + p * q + cy) / 1000000000, by omega, ?_, rfl, by omega, ?_, ?_, rfl⟩
        · omega
        · simp [hOl]
        · exact hOd.set (Nat.mod_lt _ (by decide))
        · intro e2
          have hj2 : j = Y.length := by omega
          have he0 : e = 0 := by
            have := hz (i + j) (by omega) (by omega) hij
            rw [he] at this
            exact Option.some.inj this
          have hq0 : q = 0 := by rw [← hq, List.getD_eq_getElem?_getD, List.getElem?_eq_none (by omega)]; rfl
          subst he0 hq0
          rw [Nat.mul_zero]
          omega
        · exact val
        · intro k h1 h2 h3
          rw [List.getElem?_set_ne (by omega)]
          exact hz k h1 (by omega) (by simpa using h3)
  · have hiX : i = X.length := by omega
    subst hiX
    simp +contextual (disch := omega) only [↓AM, ↓AV, AP, CQ, i64, hin]
    have lm := dm_new (h := h) hOd
    rw [hOl] at lm
    refine (c_trimmed lm (by omega) (by rintro _ ⟨rfl⟩; rfl) (by simp)).use ?_
    rintro _ _ w1 ⟨l, rfl⟩
    rw [hv, List.take_of_length_le (Nat.le_refl _), hval] at l
    obtain ⟨oa, cc, rfl, l, hS⟩ := l
    simp +contextual (disch := omega) only [↓AM, ↓AV, AP, CQ]
    exact ⟨⟨_, _, rfl, l, fun z hz => by obtain ⟨ad, e, e2⟩ := hS z hz; cases e; exact Nat.le_of_eq e2⟩, Fm.new Fm.refl⟩
end Go.Proofs.Ytnibipabfdalcaa.Nu
