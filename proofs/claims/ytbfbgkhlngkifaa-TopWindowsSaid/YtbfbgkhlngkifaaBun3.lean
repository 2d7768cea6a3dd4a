/- The document's product. Plain theorems over the abstract machine.
   Conditions: none. -/
import Derived.Test.YtbfbgkhlngkifaaBun2
import Derived.Test.YtbfbgkhlngkifaaAmX
namespace Go.Proofs.Ytbfbgkhlngkifaa.Nu
open Go Go.RowKit Go.Proofs.Ytbfbgkhlngkifaa.Am Go.Proofs.Ytbfbgkhlngkifaa.Af Go.Proofs.Ytbfbgkhlngkifaa.Md
set_option linter.unusedVariables false
set_option linter.unusedSimpArgs false
set_option linter.defProp false
set_option maxRecDepth 20000
set_option maxHeartbeats 1000000

theorem rep_i3 (n : Nat) : rep n [.int .i64 0] = i3 (List.replicate n 0) := by
  unfold rep i3
  induction n with
  | zero => rfl
  | succ n ih => rw [List.replicate_succ, List.flatten_cons, ih]; rfl
theorem spl_i3 {O : List Nat} {j d : Nat} (hj : j < O.length) : spl (i3 O) j [.int .i64 (d : Int)] = i3 (O.set j d) := by
  rw [spl_one _ _ _ (by rw [i3_len]; omega)]
  simp [i3, List.map_set]
theorem i3_at {O : List Nat} {j d : Nat} (h : O[j]? = some d) : (i3 O)[j]? = some (.int .i64 (d : Int)) := by simp [i3, h]
theorem Dl.zeros9 (n : Nat) : Dl B9 (List.replicate n 0) := fun d hd => by
  rw [(List.mem_replicate.1 hd).2]; decide
theorem dm_new {h : Hp} {O : List Nat} (hd : Dl B9 O) : Dm (h.new ⟨i3 O, .own⟩) (some ⟨h.size, 0, none⟩) O.length O.length O :=
  ⟨Rd.of rfl (by rw [Nat.mul_one]; have := rdN_mk (gnew (h := h) (o := ⟨i3 O, .own⟩)) (off := 0) (m := O.length) (by simp [i3_len]); rw [this]; simp [List.take_of_length_le (Nat.le_of_eq (i3_len O))]), Nat.le_refl _, hd⟩
theorem mul_step9 {x y c o : Nat} (hx : x < 1000000000) (hy : y < 1000000000) (hc : c < 1000000000) (ho : o < 1000000000) : (o + x * y) + c < 1000000000000000000 ∧ o + x * y < 1000000000000000000 ∧ x * y < 1000000000000000000 := by
  have : x * y ≤ 999999999 * 999999999 := Nat.mul_le_mul (by omega) (by omega)
  omega
theorem getD_lt {Y : List Nat} (h : Dl B9 Y) (j : Nat) : Y.getD j 0 < 1000000000 := by
  rw [List.getD_eq_getElem?_getD]
  cases e : Y[j]? with
  | none => decide
  | some d => exact h d (List.mem_of_getElem? e)
theorem take_getD {Y : List Nat} (j : Nat) : vL B9 (Y.take (j + 1)) = vL B9 (Y.take j) + B9 ^ j * Y.getD j 0 := by
  rw [List.take_add_one, List.getD_eq_getElem?_getD]
  cases e : Y[j]? with
  | none => simp
  | some d =>
    have : j < Y.length := (List.getElem?_eq_some_iff.1 e).1
    show vL B9 (Y.take j ++ [d]) = _
    rw [vL_snoc, List.length_take, Nat.min_eq_left (by omega)]
    rfl
theorem c_Times {h : Hp} {a b : Option Addr} {c d x y : Nat} (la : Dm h a (dc x).length c (dc x)) (lb : Dm h b (dc y).length d (dc y)) (hx : (dc x).length ≤ 400000) (hy : (dc y).length ≤ 400000) :
    ACalls Try.prog 102 [.slice a (dc x).length c, .slice b (dc y).length d] h fun v h' => DmW (fun z => h.size ≤ z) h' v (x * y) ∧ Fm No h h' := by
  refine dioramaref02_Times_ok.snd hm rfl fun w => ?_
  rw [WF_eq, dioramaref02_Times]
  simp +contextual (disch := omega) only [↓AM, ↓AV, AP, CQ, i64, rep_i3]
  refine ⟨by omega, ?_⟩
  have hval : vL B9 (dc x) * y = x * y := by rw [dc_val]
  generalize hX : dc x = X at *
  have yval : vL B9 (dc y) = y := dc_val y
  generalize hY : dc y = Y at *
  have zl : vL B9 (List.replicate (X.length + Y.length) 0) = 0 := vL_zeros _ _
  refine WL.mk (fun k t h' => ∃ O : List Nat, h' = h.new ⟨i3 O, .own⟩ ∧ O.length = X.length + Y.length ∧ Dl B9 O ∧ ∃ i : Nat, i ≤ X.length ∧ k = X.length - i ∧ vL B9 O = vL B9 (X.take i) * y ∧ (∀ j, i + Y.length ≤ j → j < O.length → O[j]? = some 0) ∧
      t = [(0, some (.slice a X.length c)), (1, some (.slice b Y.length d)), (5, some (.slice (some ⟨h.size, 0, none⟩) (X.length + Y.length) (X.length + Y.length))), (6, some (.int .i64 i))])
    ⟨X.length, _, rfl, by simp, Dl.zeros9 _, 0, by omega, rfl, by rw [zl]; simp [vL], fun j h1 h2 => by rw [List.getElem?_replicate, if_pos (by simpa using h2)], rfl⟩ ?_
  rintro k t _ ⟨O, rfl, hOl, hOd, i, hi, rfl, hv, hz, rfl⟩
  by_cases hin : i < X.length
  · simp +contextual (disch := omega) only [↓AM, ↓AV, AP, CQ, i64, hin]
    refine WL.mk (fun k t h' => ∃ O' : List Nat, h' = h.new ⟨i3 O', .own⟩ ∧ O'.length = X.length + Y.length ∧ Dl B9 O' ∧ ∃ j cy : Nat, j ≤ Y.length + 1 ∧ (j = Y.length + 1 → cy = 0) ∧ k = Y.length + 1 - j ∧ cy < 1000000000 ∧ vL B9 O' + B9 ^ (i + j) * cy = vL B9 (X.take i) * y + B9 ^ i * (X.getD i 0 * vL B9 (Y.take j)) ∧ (∀ q, i + Y.length ≤ q → i + j ≤ q → q < O'.length → O'[q]? = some 0) ∧
        t = [(0, some (.slice a X.length c)), (1, some (.slice b Y.length d)), (5, some (.slice (some ⟨h.size, 0, none⟩) (X.length + Y.length) (X.length + Y.length))), (6, some (.int .i64 (i : Int))), (7, some (.int .i64 (cy : Int))), (8, some (.int .i64 j))])
      ⟨Y.length + 1, O, rfl, hOl, hOd, 0, 0, by omega, by omega, rfl, by decide, by rw [hv]; simp [vL], fun q h1 _ h2 => hz q h1 h2, rfl⟩ ?_
    clear hv hz hOd hOl O
    rintro k t _ ⟨O, rfl, hOl, hOd, j, cy, hj, hlast, rfl, hcy, hv, hz, rfl⟩
    have fmO : Fm No h (h.new ⟨i3 O, .own⟩) := Fm.new Fm.refl
    obtain ⟨b1, o1, s1, p, rfl, f1, hp, r1⟩ := (la.rd.keepW w fmO nNo).dec hin
    have hpl : p < 1000000000 := la.dl.at hp
    have hpD : X.getD i 0 = p := by rw [List.getD_eq_getElem?_getD, hp]; rfl
    rw [hpD] at hv ⊢
    have ybd := getD_lt lb.dl j
    have htk := take_getD (Y := Y) j
    by_cases hstop : ¬ j < Y.length ∧ cy = 0
    · obtain ⟨h1, rfl⟩ := hstop
      have e0 : ((0 : Int) < ((0 : Nat) : Int)) = False := by simp
      simp +contextual (disch := omega) only [↓AM, ↓AV, AP, CQ, CN, i64, h1, e0]
      rw [List.take_of_length_le (l := Y) (i := j) (by omega), yval] at hv
      refine ⟨_, by omega, O, rfl, hOl, hOd, i + 1, by omega, rfl, ?_, ?_, rfl⟩
      · have h4 : vL B9 (X.take (i + 1)) = vL B9 (X.take i) + B9 ^ i * p := by rw [take_getD, hpD]
        rw [h4, Nat.add_mul, Nat.mul_assoc]
        omega
      · intro q h1 h2
        exact hz q (by omega) (by omega) h2
    · have hij : i + j < O.length := by
        rcases Nat.lt_or_ge j Y.length with h | h
        · omega
        · have : ¬ j = Y.length + 1 := fun e => hstop ⟨by omega, hlast e⟩
          omega
      have hij2 : i + j < X.length + Y.length := by omega
      obtain ⟨e, he⟩ : ∃ e, O[i + j]? = some e := ⟨_, List.getElem?_eq_getElem hij⟩
      have hel : e < 1000000000 := hOd.at he
      have go : ∀ (H : Prop), H → H := fun _ h => h
      have ue := i3_at he
      have ul : leIs (i + j + 1) (i3 O) = true := by rw [← leIs_p, i3_len]; omega
      generalize hq : Y.getD j 0 = q at *
      obtain ⟨m1, m2, m3⟩ := mul_step9 hpl ybd hcy hel
      have us : spl (i3 O) (i + j) [.int .i64 ((((e + p * q) + cy) % 1000000000 : Nat) : Int)] = i3 (O.set (i + j) (((e + p * q) + cy) % 1000000000)) := spl_i3 hij
      have hcond : ¬ j < Y.length → (0 : Int) < (cy : Int) := fun h => by
        have : ¬ cy = 0 := fun e => hstop ⟨h, e⟩
        omega
      have val : vL B9 (O.set (i + j) ((e + p * q + cy) % 1000000000)) + B9 ^ (i + (j + 1)) * ((e + p * q + cy) / 1000000000) = vL B9 (X.take i) * y + B9 ^ i * (p * vL B9 (Y.take (j + 1))) := by
        have h0 := vL_set (B := B9) (d := (e + p * q + cy) % 1000000000) he
        have h1 : B9 ^ (i + j) * ((e + p * q + cy) % 1000000000) + B9 ^ (i + j) * (B9 * ((e + p * q + cy) / 1000000000)) = B9 ^ (i + j) * (e + p * q + cy) := by rw [← Nat.mul_add]; congr 1; exact Nat.mod_add_div _ 1000000000
        have h2 : B9 ^ (i + j) * (e + p * q + cy) = B9 ^ (i + j) * e + B9 ^ (i + j) * (p * q) + B9 ^ (i + j) * cy := by rw [Nat.mul_add, Nat.mul_add]
        have h3 : B9 ^ i * (p * (B9 ^ j * q)) = B9 ^ (i + j) * (p * q) := by rw [Nat.pow_add]; ac_rfl
        rw [htk, Nat.mul_add p, Nat.mul_add (B9 ^ i), h3, show i + (j + 1) = (i + j) + 1 by omega, Nat.pow_succ, Nat.mul_assoc]
        omega
      by_cases hjn : j < Y.length
      · simp +contextual (disch := omega) only [↓AM, ↓AV, AP, CQ, CN, i64, hjn, hin, f1, r1, ue, hij2]
        refine (c_digit (i := j) (lb.rd.keepW w fmO nNo) (by omega)).use ?_
        rintro _ _ w2 ⟨rfl, rfl⟩
        rw [hq]
        simp +contextual (disch := omega) only [↓AM, ↓AV, AP, CQ, CN, CD, i64, r1, ue, hij2, ul, us]
        refine ⟨_, ?_, _, rfl, ?_, ?_, j + 1, (e + p * q + cy) / 1000000000, by omega, ?_, rfl, by omega, ?_, ?_, rfl⟩
        · omega
        · simp [hOl]
        · exact hOd.set (Nat.mod_lt _ (by decide))
        · intro e; omega
        · exact val
        · intro k h1 h2 h3
          rw [List.getElem?_set_ne (by omega)]
          exact hz k h1 (by omega) (by simpa using h3)
      · have hc0 := hcond hjn
        simp +contextual (disch := omega) only [↓AM, ↓AV, AP, CQ, CN, i64, hjn, hc0, hin, f1, r1, ue, hij2]
        refine (c_digit (i := j) (lb.rd.keepW w fmO nNo) (by omega)).use ?_
        rintro _ _ w2 ⟨rfl, rfl⟩
        rw [hq]
        simp +contextual (disch := omega) only [↓AM, ↓AV, AP, CQ, CN, CD, i64, r1, ue, hij2, ul, us]
        refine ⟨_, ?_, _, rfl, ?_, ?_, j + 1, (e + p * q + cy) / 1000000000, by omega, ?_, rfl, by omega, ?_, ?_, rfl⟩
        · omega
        · simp [hOl]
        · exact hOd.set (Nat.mod_lt _ (by decide))
        · intro e2
          have hj2 : j = Y.length := by omega
          have he0 : e = 0 := by
            have := hz (i + j) (by omega) (by omega) hij
            rw [he] at this
            exact Option.some.inj this
          have hq0 : q = 0 := by rw [← hq, List.getD_eq_getElem?_getD, List.getElem?_eq_none (by omega)]; rfl
          subst he0 hq0
          rw [Nat.mul_zero]
          omega
        · exact val
        · intro k h1 h2 h3
          rw [List.getElem?_set_ne (by omega)]
          exact hz k h1 (by omega) (by simpa using h3)
  · have hiX : i = X.length := by omega
    subst hiX
    simp +contextual (disch := omega) only [↓AM, ↓AV, AP, CQ, i64, hin]
    have lm := dm_new (h := h) hOd
    rw [hOl] at lm
    refine (c_trimmed lm (by omega) (by rintro _ ⟨rfl⟩; rfl) (by simp)).use ?_
    rintro _ _ w1 ⟨l, rfl⟩
    rw [hv, List.take_of_length_le (Nat.le_refl _), hval] at l
    obtain ⟨oa, cc, rfl, l, hS⟩ := l
    simp +contextual (disch := omega) only [↓AM, ↓AV, AP, CQ]
    exact ⟨⟨_, _, rfl, l, fun z hz => by obtain ⟨ad, e, e2⟩ := hS z hz; cases e; exact Nat.le_of_eq e2⟩, Fm.new Fm.refl⟩
end Go.Proofs.Ytbfbgkhlngkifaa.Nu

/- The document's difference and quotient. Plain theorems over the abstract machine.
   Conditions: none. -/
namespace Go.Proofs.Ytbfbgkhlngkifaa.Nu
open Go Go.RowKit Go.Proofs.Ytbfbgkhlngkifaa.Am Go.Proofs.Ytbfbgkhlngkifaa.Af Go.Proofs.Ytbfbgkhlngkifaa.Md
set_option linter.unusedVariables false
set_option linter.unusedSimpArgs false
set_option linter.defProp false
set_option maxRecDepth 20000
set_option maxHeartbeats 1000000

theorem bor_end {X Y : List Nat} {L : List Nat} {n bor : Nat} (hL : L.length = n) (hd : Dl B9 L) (hb : bor ≤ 1) (hv : vL B9 L + vL B9 Y = vL B9 X + B9 ^ n * bor) (hle : vL B9 Y ≤ vL B9 X) : vL B9 L = vL B9 X - vL B9 Y := by
  have h1 := vL_lt hd
  rw [hL] at h1
  rcases (show bor = 0 ∨ bor = 1 by omega) with rfl | rfl
  · omega
  · rw [Nat.mul_one] at hv; omega
theorem c_Minus {h : Hp} {a b : Option Addr} {c d x y : Nat} (la : Dm h a (dc x).length c (dc x)) (lb : Dm h b (dc y).length d (dc y)) (hx : (dc x).length ≤ 400000) (hy : (dc y).length ≤ 400000) (hle : y ≤ x) :
    ACalls Try.prog 105 [.slice a (dc x).length c, .slice b (dc y).length d] h fun v h' => DmW (fun z => h.size ≤ z) h' v (x - y) ∧ Fm No h h' := by
  refine dioramaref02_Minus_ok.snd hm rfl fun w => ?_
  rw [WF_eq, dioramaref02_Minus]
  simp +contextual (disch := omega) only [↓AM, ↓AV, AP, CQ, i64]
  have xval : vL B9 (dc x) = x := dc_val x
  have yval : vL B9 (dc y) = y := dc_val y
  have hll : (dc y).length ≤ (dc x).length := by
    rcases Nat.lt_or_ge (dc x).length (dc y).length with h | h
    · have := len_lt b9 (dc_dl x) (dig_nz (hB := b9) y) h
      rw [dc_val, show vL B9 (dig B9 b9 y) = y from dc_val y] at this
      omega
    · exact h
  generalize hX : dc x = X at *
  generalize hY : dc y = Y at *
  refine WL.mk (fun k t h' => Wf h' ∧ Fm No h h' ∧ ∃ L : List Nat, ∃ oa cap bor, L.length ≤ X.length ∧ k = X.length - L.length ∧ bor ≤ 1 ∧ Dl B9 L ∧ Nw h oa ∧ Ow h' 1 oa L.length cap (i3 L) ∧ vL B9 L + vL B9 (Y.take L.length) = vL B9 (X.take L.length) + B9 ^ L.length * bor ∧
      t = [(0, some (.slice a X.length c)), (1, some (.slice b Y.length d)), (5, some (.slice oa L.length cap)), (6, some (.int .i64 (bor : Int))), (7, some (.int .i64 (L.length : Int)))])
    ⟨X.length, w, Fm.refl, [], none, 0, 0, by simp, rfl, by decide, (fun d hd => by cases hd), Nw.none, Ow.mk0, by simp [vL], rfl⟩ ?_
  rintro k t h1 ⟨w1, fm, L, oa, cap, bor, hi, rfl, hb, hLd, nw, ow, hv, rfl⟩
  by_cases hin : L.length < X.length
  · obtain ⟨b1, o1, s1, p, rfl, f1, hp, r1⟩ := (la.rd.keepW w fm nNo).dec hin
    have hpl : p < 1000000000 := la.dl.at hp
    have hpD : X.getD L.length 0 = p := by rw [List.getD_eq_getElem?_getD, hp]; rfl
    have ybd := getD_lt lb.dl L.length
    have htx := take_getD (Y := X) L.length
    have hty := take_getD (Y := Y) L.length
    rw [hpD] at htx
    generalize hq : Y.getD L.length 0 = q at *
    simp +contextual (disch := omega) only [↓AM, ↓AV, AP, CQ, CN, i64, hin]
    refine (c_digit (i := L.length) (la.rd.keepW w fm nNo) (by omega)).use ?_
    rintro _ hA w2 ⟨rfl, rfl⟩
    rw [hpD]
    simp +contextual (disch := omega) only [↓AM, ↓AV, AP, CQ, CN, i64]
    refine (c_digit (i := L.length) (lb.rd.keepW w fm nNo) (by omega)).use ?_
    rintro _ hB w2 ⟨rfl, rfl⟩
    rw [hq]
    have step : ∀ dd bo : Nat, dd < 1000000000 → bo ≤ 1 → dd + q + bor = p + 1000000000 * bo → vL B9 (L ++ [dd]) + vL B9 (Y.take (L ++ [dd]).length) = vL B9 (X.take (L ++ [dd]).length) + B9 ^ (L ++ [dd]).length * bo := by
      intro dd bo h1 h2 h3
      have e : (L ++ [dd]).length = L.length + 1 := by simp
      rw [e, vL_snoc, htx, hty, Nat.pow_succ, Nat.mul_assoc]
      have e1 : B9 ^ L.length * (dd + q + bor) = B9 ^ L.length * (p + 1000000000 * bo) := by rw [h3]
      rw [Nat.mul_add, Nat.mul_add, Nat.mul_add] at e1
      show _ + B9 ^ L.length * dd + (_ + B9 ^ L.length * q) = _ + B9 ^ L.length * p + B9 ^ L.length * (1000000000 * bo)
      omega
    by_cases hneg : (p : Int) - (q : Int) - (bor : Int) < 0
    · obtain ⟨dd, hdd⟩ : ∃ dd : Nat, (p : Int) - (q : Int) - (bor : Int) + 1000000000 = (dd : Int) := ⟨_, (Int.toNat_of_nonneg (by omega)).symm⟩
      simp +contextual (disch := omega) only [↓AM, ↓AV, AP, CQ, CN, i64, hneg, hdd]
      refine ow.push (m := 1) w2 rfl ?_ fun oa' cap' h2 o2 w3 f2 n2 => ?_
      · omega
      obtain ⟨g1, g2⟩ := grown fm nw f2 n2
      simp +contextual (disch := omega) only [↓AM, ↓AV, AP, CQ, CN, i64]
      refine ⟨_, ?_, w3, g1, L ++ [dd], oa', cap', 1, by simp; omega, rfl, by decide, ?_, g2, ?_, step dd 1 (by omega) (by decide) (by omega), by simp⟩
      · simp; omega
      · intro z hz
        rcases List.mem_append.1 hz with hz | hz
        · exact hLd z hz
        · rw [List.mem_singleton.1 hz]; show dd < 1000000000; omega
      · rw [i3_app, List.length_append]; exact o2
    · obtain ⟨dd, hdd⟩ : ∃ dd : Nat, (p : Int) - (q : Int) - (bor : Int) = (dd : Int) := ⟨_, (Int.toNat_of_nonneg (by omega)).symm⟩
      rw [hdd] at hneg
      simp +contextual (disch := omega) only [↓AM, ↓AV, AP, CQ, CN, i64, hdd, hneg]
      refine ow.push (m := 1) w2 rfl ?_ fun oa' cap' h2 o2 w3 f2 n2 => ?_
      · omega
      obtain ⟨g1, g2⟩ := grown fm nw f2 n2
      simp +contextual (disch := omega) only [↓AM, ↓AV, AP, CQ, CN, i64]
      refine ⟨_, ?_, w3, g1, L ++ [dd], oa', cap', 0, by simp; omega, rfl, by decide, ?_, g2, ?_, step dd 0 (by omega) (by decide) (by omega), by simp⟩
      · simp; omega
      · intro z hz
        rcases List.mem_append.1 hz with hz | hz
        · exact hLd z hz
        · rw [List.mem_singleton.1 hz]; show dd < 1000000000; omega
      · rw [i3_app, List.length_append]; exact o2
  · have hn : L.length = X.length := by omega
    simp +contextual (disch := omega) only [↓AM, ↓AV, AP, CQ, CN, i64, hin]
    have dm : Dm h1 oa L.length cap L := ⟨ow.rd, ow.le, hLd⟩
    refine (c_trimmed dm (by omega) ?_ ow.nil).use ?_
    · rintro ad rfl
      obtain ⟨_, _, _, _, _, _, hs⟩ := ow.at_ _ rfl
      rcases hs with hs | ⟨hs, _⟩ <;> rw [hs] <;> rfl
    rintro _ _ w2 ⟨⟨oa', cc, rfl, l, hS⟩, rfl⟩
    rw [List.take_of_length_le (l := Y) (by omega), List.take_of_length_le (l := X) (by omega)] at hv
    have hval := bor_end (n := L.length) rfl hLd hb hv (by omega)
    rw [xval, yval] at hval
    rw [hval] at l
    simp +contextual (disch := omega) only [↓AM, ↓AV, AP, CQ, CN, i64]
    rw [hval]
    exact ⟨⟨_, _, rfl, l, fun z hz => nw z (hS z hz)⟩, fm⟩
end Go.Proofs.Ytbfbgkhlngkifaa.Nu

/- Nothing of its own: the functions stand in one text. -/

/- Whole numbers with signs in memory. Plain theorems over the abstract machine.
   Conditions: none. -/
namespace Go.Proofs.Ytbfbgkhlngkifaa.Nu
open Go Go.RowKit Go.Proofs.Ytbfbgkhlngkifaa.Am Go.Proofs.Ytbfbgkhlngkifaa.Af Go.Proofs.Ytbfbgkhlngkifaa.Md
set_option linter.unusedVariables false
set_option linter.unusedSimpArgs false
set_option linter.defProp false
set_option maxRecDepth 20000
set_option maxHeartbeats 1000000

/-- A whole number at a place. -/
def IntAt (h : Hp) (b o : Nat) (z : Int) : Prop := ∃ cs oa c, h.get b = some ⟨cs, .own⟩ ∧ St cs ∧ cs[o]? = some (.bool (decide (z < 0))) ∧ cs[o + 1]? = some (.slice oa (dg z.natAbs).length c) ∧ Lm h oa (dg z.natAbs).length c (dg z.natAbs)
theorem IntAt.x {h : Hp} {b o : Nat} {z : Int} (n : IntAt h b o z) : XAt h b o := by
  obtain ⟨cs, oa, c, h1, h2, h3, h4, h5⟩ := n
  exact ⟨cs, h1, h2, (List.getElem?_eq_some_iff.1 h4).1⟩
theorem IntAt.nat {h : Hp} {b o x : Nat} (n : IntAt h b o (x : Int)) : NatAt h b o x := by
  obtain ⟨cs, oa, c, h1, h2, h3, h4, h5⟩ := n
  have e : decide ((x : Int) < 0) = false := by simp
  rw [e] at h3
  exact ⟨cs, oa, c, h1, h2, h3, h4, h5⟩
theorem NatAt.int {h : Hp} {b o x : Nat} (n : NatAt h b o x) : IntAt h b o (x : Int) := by
  obtain ⟨cs, oa, c, h1, h2, h3, h4, h5⟩ := n
  have e : decide ((x : Int) < 0) = false := by simp
  exact ⟨cs, oa, c, h1, h2, by rw [e]; exact h3, h4, h5⟩
theorem IntAt.wr {F : Nat → Prop} {h h' : Hp} {b o : Nat} {z : Int} (n : IntAt h b o z) (w : Wf h) (r : Wr F h h') (s : SF h F) (hb : ¬ F b) : IntAt h' b o z := by
  obtain ⟨cs, oa, c, h1, h2, h3, h4, h5⟩ := n
  exact ⟨cs, oa, c, r.fm.keep w h1 hb, h2, h3, h4, h5.wr w r s⟩
theorem IntAt.keep {h h' : Hp} {b o : Nat} {z : Int} (n : IntAt h b o z) (w : Wf h) (fm : Fm No h h') : IntAt h' b o z :=
  n.wr w (Wr.of (F := No) w fm) (fun _ f => f.elim) (fun f => f)
theorem IntAt.r0 {h : Hp} {b o : Nat} {z : Int} (n : IntAt h b o z) : h.rd b o = some (.bool (decide (z < 0))) := by
  obtain ⟨cs, oa, c, h1, h2, h3, h4, h5⟩ := n
  exact (rd_mk h1).trans h3
theorem IntAt.r1 {h : Hp} {b o : Nat} {z : Int} (n : IntAt h b o z) : ∃ oa c, h.rd b (o + 1) = some (.slice oa (dg z.natAbs).length c) ∧ Lm h oa (dg z.natAbs).length c (dg z.natAbs) := by
  obtain ⟨cs, oa, c, h1, h2, h3, h4, h5⟩ := n
  exact ⟨oa, c, (rd_mk h1).trans h4, h5⟩
theorem c_setS {h : Hp} {b o x : Nat} {v : Value} (neg : Bool) (xa : XAt h b o) (l : LmV h v x) :
    ACalls Try.prog 115 [.pointer (some ⟨b, o, none⟩), .bool neg, v] h fun r h' => r = .pointer (some ⟨b, o, none⟩) ∧ Wr (fun y => y = b) h h' ∧ IntAt h' b o (if neg then -(x : Int) else x) ∧ (∀ i, i ≠ o → i ≠ o + 1 → h'.rd b i = h.rd b i) := by
  cases neg with
  | false =>
    refine (c_set xa l).mono ?_
    rintro r h' ⟨h1, h2, h3, h4⟩
    exact ⟨h1, h2, h3.int, h4⟩
  | true =>
    rcases Nat.eq_zero_or_pos x with rfl | hx
    · refine num_Int__set_ok.snd hm rfl fun w => ?_
      rw [WF_eq, num_Int__set]
      have hs := xa.sf
      obtain ⟨cs, hg, hst, hlen⟩ := xa
      obtain ⟨oa, c, rfl, l⟩ := l
      have e0 : ((0 : Int) < ((dg 0).length : Int)) = False := by rw [dg_0]; simp
      have l1 : leIs (o + 1) cs = true := by rw [← leIs_p]; omega
      have l2 : leIs (o + 1 + 1) (cs.set o (.bool false)) = true := by rw [← leIs_p, List.length_set]; omega
      have s1 : spl cs o [.bool false] = cs.set o (.bool false) := spl_one _ _ _ (by omega)
      have s2 : ∀ u, spl (cs.set o (.bool false)) (o + 1) [u] = (cs.set o (.bool false)).set (o + 1) u := fun u => spl_one _ _ _ (by rw [List.length_set]; omega)
      simp +contextual (disch := omega) only [↓AM, ↓AV, AP, CQ, e0, hg, l1, l2, s1, s2, put_put]
      have wr : Wr (fun y => y = b) h (h.put b ⟨(cs.set o (.bool false)).set (o + 1) (.slice oa (dg 0).length c), .own⟩) := by
        refine ⟨Fm.put Fm.refl fun _ => rfl, ?_⟩
        rintro _ cs' rfl hg'
        rw [hg] at hg'
        cases hg'
        exact ⟨_, gput, by simp, fun s => st_set (st_set s (by simp)) (by simp)⟩
      refine ⟨wr, ⟨_, oa, c, gput, st_set (st_set hst (by simp)) (by simp), ?_, ?_, l.wr w wr hs⟩, ?_⟩
      · rw [List.getElem?_set_ne (by omega), List.getElem?_set_self (by omega)]; rfl
      · rw [List.getElem?_set_self (by simp; omega)]; rfl
      · intro i h1 h2
        rw [rd_mk hg, List.getElem?_set_ne (by omega), List.getElem?_set_ne (by omega)]
    · refine num_Int__set_ok.snd hm rfl fun w => ?_
      rw [WF_eq, num_Int__set]
      have hs := xa.sf
      obtain ⟨cs, hg, hst, hlen⟩ := xa
      obtain ⟨oa, c, rfl, l⟩ := l
      have e0 : ((0 : Int) < ((dg x).length : Int)) = True := eq_true (by have := dg_pos.2 hx; omega)
      have l1 : leIs (o + 1) cs = true := by rw [← leIs_p]; omega
      have l2 : leIs (o + 1 + 1) (cs.set o (.bool true)) = true := by rw [← leIs_p, List.length_set]; omega
      have s1 : spl cs o [.bool true] = cs.set o (.bool true) := spl_one _ _ _ (by omega)
      have s2 : ∀ u, spl (cs.set o (.bool true)) (o + 1) [u] = (cs.set o (.bool true)).set (o + 1) u := fun u => spl_one _ _ _ (by rw [List.length_set]; omega)
      simp +contextual (disch := omega) only [↓AM, ↓AV, AP, CQ, e0, hg, l1, l2, s1, s2, put_put]
      have wr : Wr (fun y => y = b) h (h.put b ⟨(cs.set o (.bool true)).set (o + 1) (.slice oa (dg x).length c), .own⟩) := by
        refine ⟨Fm.put Fm.refl fun _ => rfl, ?_⟩
        rintro _ cs' rfl hg'
        rw [hg] at hg'
        cases hg'
        exact ⟨_, gput, by simp, fun s => st_set (st_set s (by simp)) (by simp)⟩
      have en : decide (-(x : Int) < 0) = true := by simp; omega
      have ea : (-(x : Int)).natAbs = x := by omega
      refine ⟨wr, ⟨_, oa, c, gput, st_set (st_set hst (by simp)) (by simp), ?_, ?_, ?_⟩, ?_⟩
      · rw [List.getElem?_set_ne (by omega), List.getElem?_set_self (by omega), en]
      · rw [List.getElem?_set_self (by simp; omega), ea]
      · rw [ea]; exact l.wr w wr hs
      · intro i h1 h2
        rw [rd_mk hg, List.getElem?_set_ne (by omega), List.getElem?_set_ne (by omega)]
theorem mul_sign (a b : Int) : (if (decide (a < 0) != decide (b < 0)) then -((a.natAbs * b.natAbs : Nat) : Int) else ((a.natAbs * b.natAbs : Nat) : Int)) = a * b := by
  have e : ((a.natAbs * b.natAbs : Nat) : Int) = (a.natAbs : Int) * (b.natAbs : Int) := Int.natCast_mul _ _
  rw [e]
  by_cases ha : a < 0 <;> by_cases hb : b < 0
  · have e1 : (a.natAbs : Int) = -a := by omega
    have e2 : (b.natAbs : Int) = -b := by omega
    rw [e1, e2, Int.neg_mul_neg]; simp [ha, hb]
  · have e1 : (a.natAbs : Int) = -a := by omega
    have e2 : (b.natAbs : Int) = b := by omega
    rw [e1, e2, Int.neg_mul, Int.neg_neg]; simp [ha, hb]
  · have e1 : (a.natAbs : Int) = a := by omega
    have e2 : (b.natAbs : Int) = -b := by omega
    rw [e1, e2, Int.mul_neg, Int.neg_neg]; simp [ha, hb]
  · have e1 : (a.natAbs : Int) = a := by omega
    have e2 : (b.natAbs : Int) = b := by omega
    rw [e1, e2]; simp [ha, hb]
theorem c_MulS {h : Hp} {bx ox ba oa bb ob : Nat} {x y : Int} (xa : XAt h bx ox) (na : IntAt h ba oa x) (nb : IntAt h bb ob y) (hx : (dg x.natAbs).length ≤ 400000) (hy : (dg y.natAbs).length ≤ 400000) :
    ACalls Try.prog 108 [.pointer (some ⟨bx, ox, none⟩), .pointer (some ⟨ba, oa, none⟩), .pointer (some ⟨bb, ob, none⟩)] h fun r h' => r = .pointer (some ⟨bx, ox, none⟩) ∧ Wr (fun y => y = bx) h h' ∧ IntAt h' bx ox (x * y) := by
  refine num_Int__Mul_ok.snd hm rfl fun w => ?_
  rw [WF_eq, num_Int__Mul]
  obtain ⟨ca, a, c, ga, sa, a0, a1, la⟩ := na
  obtain ⟨cb, b, d, gb, sb, b0, b1, lb⟩ := nb
  have r0 := (rd_mk ga (i := oa)).trans a0
  have r1 := (rd_mk ga (i := oa + 1)).trans a1
  have q0 := (rd_mk gb (i := ob)).trans b0
  have q1 := (rd_mk gb (i := ob + 1)).trans b1
  simp +contextual (disch := omega) only [↓AM, ↓AV, AP, CQ, r0, r1, q0, q1]
  refine (c_mul la lb hx hy).use ?_
  rintro _ h1 w1 ⟨l, fm⟩
  have r0 := (rd_mk (fm.keep w ga (fun f => f)) (i := oa)).trans a0
  have r1 := (rd_mk (fm.keep w ga (fun f => f)) (i := oa + 1)).trans a1
  have q0 := (rd_mk (fm.keep w gb (fun f => f)) (i := ob)).trans b0
  have q1 := (rd_mk (fm.keep w gb (fun f => f)) (i := ob + 1)).trans b1
  obtain ⟨ng, hng⟩ : ∃ g, (decide (x < 0) != decide (y < 0)) = g := ⟨_, rfl⟩
  simp +contextual (disch := omega) only [↓AM, ↓AV, AP, CQ, r0, r1, q0, q1, hng]
  refine (c_setS ng (xa.keep w fm) l).use ?_
  rintro _ h2 w2 ⟨rfl, wr, n, -⟩
  simp +contextual (disch := omega) only [↓AM, ↓AV, AP, CQ]
  rw [← hng, mul_sign] at n
  exact ⟨(Wr.of (F := fun y => y = bx) w fm).trans w w1 wr fun _ _ f => f, n⟩
def sgnZ (r : Int) : Int := if r < 0 then -1 else if r = 0 then 0 else 1
theorem c_sign {h : Hp} {r : Int} (hr : -1000000 ≤ r ∧ r ≤ 1000000) : ACalls Try.prog 91 [.int .i64 r] h fun v h' => v = .int .i64 (sgnZ r) ∧ h' = h := by
  refine num_sign_ok.snd hm rfl fun w => ?_
  rw [WF_eq, num_sign]
  have e1 : intMin [.int .i64 1, .int .i64 r] = some (.int .i64 (if r < 1 then r else 1)) := by simp [intMin]
  have e2 : ∀ z, intMax [.int .i64 (-1), .int .i64 z] = some (.int .i64 (if z > -1 then z else -1)) := fun z => by simp [intMax]
  simp +contextual (disch := omega) only [↓AM, ↓AV, AP, CQ, e1, e2]
  congr 1
  have key : ∀ u : Int, (if u > -1 then u else -1) = max u (-1) := fun u => by split <;> omega
  have key2 : (if r < 1 then r else 1) = min r 1 := by split <;> omega
  rw [key, key2]
  unfold sgnZ
  split
  · omega
  · split <;> omega
def cmpN (a b : Nat) : Int := if a < b then -1 else if a = b then 0 else 1
def cmpZ (a b : Int) : Int := if a < b then -1 else if a = b then 0 else 1
theorem c_CmpAbs {h : Hp} {ba oa bb ob : Nat} {x y : Int} (na : IntAt h ba oa x) (nb : IntAt h bb ob y) (hx : (dg x.natAbs).length ≤ 1000000) (hy : (dg y.natAbs).length ≤ 1000000) :
    ACalls Try.prog 58 [.pointer (some ⟨ba, oa, none⟩), .pointer (some ⟨bb, ob, none⟩)] h fun v h' => v = .int .i64 (cmpN x.natAbs y.natAbs) ∧ h' = h := by
  refine num_Int__CmpAbs_ok.snd hm rfl fun w => ?_
  rw [WF_eq, num_Int__CmpAbs]
  obtain ⟨a, c, r1, la⟩ := na.r1
  obtain ⟨b, d, q1, lb⟩ := nb.r1
  simp +contextual (disch := omega) only [↓AM, ↓AV, AP, CQ, r1, q1]
  refine (c_cmp la lb hx hy).use ?_
  rintro _ h1 w1 ⟨⟨r, rfl, c1, c2, c3, c4⟩, e⟩
  subst e
  simp +contextual (disch := omega) only [↓AM, ↓AV, AP, CQ, r1, q1]
  refine (c_sign ⟨c3, c4⟩).use ?_
  rintro _ h2 w2 ⟨rfl, e⟩
  subst e
  simp +contextual (disch := omega) only [↓AM, ↓AV, AP, CQ]
  congr 1
  unfold sgnZ cmpN
  by_cases h1 : r < 0
  · rw [if_pos h1, if_pos (c1.1 h1)]
  · rw [if_neg h1, if_neg (fun q => h1 (c1.2 q))]
    by_cases h2 : r = 0
    · rw [if_pos h2, if_pos (c2.1 h2)]
    · rw [if_neg h2, if_neg (fun q => h2 (c2.2 q))]
theorem c_CmpS {h : Hp} {ba oa bb ob : Nat} {x y : Int} (na : IntAt h ba oa x) (nb : IntAt h bb ob y) (hx : (dg x.natAbs).length ≤ 1000000) (hy : (dg y.natAbs).length ≤ 1000000) :
    ACalls Try.prog 60 [.pointer (some ⟨ba, oa, none⟩), .pointer (some ⟨bb, ob, none⟩)] h fun v h' => v = .int .i64 (cmpZ x y) ∧ h' = h := by
  refine num_Int__Cmp_ok.snd hm rfl fun w => ?_
  rw [WF_eq, num_Int__Cmp]
  have r0 := na.r0
  have q0 := nb.r0
  by_cases h1 : x < 0 <;> by_cases h2 : y < 0
  · have e1 : decide (x < 0) = true := by simp [h1]
    have e2 : decide (y < 0) = true := by simp [h2]
    rw [e1] at r0
    rw [e2] at q0
    simp +contextual (disch := omega) only [↓AM, ↓AV, AP, CQ, r0, q0]
    refine (c_CmpAbs na nb hx hy).use ?_
    rintro _ h3 w3 ⟨rfl, e⟩
    subst e
    have eb : -1 ≤ cmpN x.natAbs y.natAbs ∧ cmpN x.natAbs y.natAbs ≤ 1 := by unfold cmpN; split <;> (try split) <;> omega
    have ew : IntKind.i64.wrap (0 - cmpN x.natAbs y.natAbs) = -cmpN x.natAbs y.natAbs := by rw [i64 (by omega)]; omega
    simp +contextual (disch := omega) only [↓AM, ↓AV, AP, CQ, ew]
    congr 1
    unfold cmpN cmpZ
    by_cases h4 : x < y
    · rw [if_pos h4, if_neg (by omega), if_neg (by omega)]
    · rw [if_neg h4]
      by_cases h5 : x = y
      · rw [if_pos h5, if_neg (by omega), if_pos (by omega)]; rfl
      · rw [if_neg h5, if_pos (by omega)]; rfl
  · have e1 : decide (x < 0) = true := by simp [h1]
    have e2 : decide (y < 0) = false := by simp [h2]
    rw [e1] at r0
    rw [e2] at q0
    simp +contextual (disch := omega) only [↓AM, ↓AV, AP, CQ, r0, q0]
    rw [cmpZ, if_pos (by omega)]
  · have e1 : decide (x < 0) = false := by simp [h1]
    have e2 : decide (y < 0) = true := by simp [h2]
    rw [e1] at r0
    rw [e2] at q0
    simp +contextual (disch := omega) only [↓AM, ↓AV, AP, CQ, r0, q0]
    rw [cmpZ, if_neg (by omega), if_neg (by omega)]
  · have e1 : decide (x < 0) = false := by simp [h1]
    have e2 : decide (y < 0) = false := by simp [h2]
    rw [e1] at r0
    rw [e2] at q0
    simp +contextual (disch := omega) only [↓AM, ↓AV, AP, CQ, r0, q0]
    refine (c_CmpAbs na nb hx hy).use ?_
    rintro _ h3 w3 ⟨rfl, e⟩
    subst e
    simp +contextual (disch := omega) only [↓AM, ↓AV, AP, CQ]
    congr 1
    unfold cmpN cmpZ
    by_cases h4 : x < y
    · rw [if_pos h4, if_pos (by omega)]
    · rw [if_neg h4, if_neg (by omega)]
      by_cases h5 : x = y
      · rw [if_pos h5, if_pos (by omega)]
      · rw [if_neg h5, if_neg (by omega)]
end Go.Proofs.Ytbfbgkhlngkifaa.Nu

/- Limbs added and taken away. Plain theorems over the abstract machine.
   Conditions: none. -/
namespace Go.Proofs.Ytbfbgkhlngkifaa.Nu
open Go Go.RowKit Go.Proofs.Ytbfbgkhlngkifaa.Am Go.Proofs.Ytbfbgkhlngkifaa.Af Go.Proofs.Ytbfbgkhlngkifaa.Md
set_option linter.unusedVariables false
set_option linter.unusedSimpArgs false
set_option linter.defProp false
set_option maxRecDepth 20000
set_option maxHeartbeats 1000000

theorem take_getN {Y : List Nat} (j : Nat) : vL B32 (Y.take (j + 1)) = vL B32 (Y.take j) + B32 ^ j * Y.getD j 0 := by
  rw [List.take_add_one, List.getD_eq_getElem?_getD]
  cases e : Y[j]? with
  | none => simp
  | some d =>
    have : j < Y.length := (List.getElem?_eq_some_iff.1 e).1
    show vL B32 (Y.take j ++ [d]) = _
    rw [vL_snoc, List.length_take, Nat.min_eq_left (by omega)]
    rfl
theorem add_val {O X Y : List Nat} {i cy p q : Nat} (he : O[i]? = some 0) (hp : X.getD i 0 = p) (hq : Y.getD i 0 = q) (hv : vL B32 O + B32 ^ i * cy = vL B32 (X.take i) + vL B32 (Y.take i)) :
    vL B32 (O.set i ((cy + p + q) % 4294967296)) + B32 ^ (i + 1) * ((cy + p + q) / 4294967296) = vL B32 (X.take (i + 1)) + vL B32 (Y.take (i + 1)) := by
  have h0 := vL_set (B := B32) (d := (cy + p + q) % 4294967296) he
  have h1 : B32 ^ i * ((cy + p + q) % 4294967296) + B32 ^ i * (B32 * ((cy + p + q) / 4294967296)) = B32 ^ i * (cy + p + q) := by rw [← Nat.mul_add]; congr 1; exact Nat.mod_add_div _ 4294967296
  rw [Nat.mul_add, Nat.mul_add] at h1
  rw [take_getN, take_getN, hp, hq, Nat.pow_succ, Nat.mul_assoc]
  omega
theorem c_add {h : Hp} {a b : Option Addr} {c d x y : Nat} (la : Lm h a (dg x).length c (dg x)) (lb : Lm h b (dg y).length d (dg y)) (hx : (dg x).length ≤ 400000) (hy : (dg y).length ≤ 400000) :
    ACalls Try.prog 121 [.slice a (dg x).length c, .slice b (dg y).length d] h fun v h' => LmV h' v (x + y) ∧ Fm No h h' := by
  refine num_addMag_ok.snd hm rfl fun w => ?_
  rw [WF_eq, num_addMag]
  have xval : vL B32 (dg x) = x := dg_val x
  have yval : vL B32 (dg y) = y := dg_val y
  generalize dg x = X at *
  generalize dg y = Y at *
  by_cases hlt : X.length < Y.length
  · simp +contextual (disch := omega) only [↓AM, ↓AV, AP, CQ, i64, hlt, rep_u3]
    refine ⟨by omega, ?_⟩
    refine WL.mk (fun k t h' => ∃ O : List Nat, h' = h.new ⟨u3 O, .own⟩ ∧ O.length = Y.length + 1 ∧ Dl B32 O ∧ ∃ i cy : Nat, i ≤ Y.length ∧ k = Y.length - i ∧ cy ≤ 1 ∧ vL B32 O + B32 ^ i * cy = vL B32 (Y.take i) + vL B32 (X.take i) ∧ (∀ j, i ≤ j → j < O.length → O[j]? = some 0) ∧
        t = [(0, some (.slice b Y.length d)), (1, some (.slice a X.length c)), (5, some (.slice (some ⟨h.size, 0, none⟩) (Y.length + 1) (Y.length + 1))), (6, some (.int .u64 (cy : Int))), (20, some (.slice b Y.length d)), (21, some (.int .i64 (Y.length : Int))), (22, some (.int .i64 (i : Int)))])
      ⟨Y.length, _, rfl, by simp, Dl.zeros _, 0, 0, by omega, rfl, by decide, by rw [vL_zeros]; simp [vL], fun j h1 h2 => by rw [List.getElem?_replicate, if_pos (by simpa using h2)], rfl⟩ ?_
    rintro k t _ ⟨O, rfl, hOl, hOd, i, cy, hi, rfl, hcy, hv, hz, rfl⟩
    have fmO : Fm No h (h.new ⟨u3 O, .own⟩) := Fm.new Fm.refl
    by_cases hin : i < Y.length
    · obtain ⟨b1, o1, s1, p, rfl, f1, hp, r1⟩ := (lb.rd.keepW w fmO nNo).nat hin
      have hpl : p < 4294967296 := lb.dl.at hp
      have hpD : Y.getD i 0 = p := by rw [List.getD_eq_getElem?_getD, hp]; rfl
      have hiO : i < O.length := by omega
      have hi1 : i < Y.length + 1 := by omega
      have he := hz i (Nat.le_refl _) hiO
      have ul : leIs (i + 1) (u3 O) = true := by rw [← leIs_p, u3_len]; omega
      have us : ∀ z : Nat, spl (u3 O) i [.int .u32 ((z % 4294967296 : Nat) : Int)] = u3 (O.set i (z % 4294967296)) := fun z => spl_u3 hiO
      by_cases hiq : i < X.length
      · obtain ⟨b2, o2, s2, q, rfl, f2, hq, r2⟩ := (la.rd.keepW w fmO nNo).nat hiq
        have hql : q < 4294967296 := la.dl.at hq
        have hqD : X.getD i 0 = q := by rw [List.getD_eq_getElem?_getD, hq]; rfl
        simp +contextual (disch := omega) only [↓AM, ↓AV, AP, CQ, CN, i64, u64, hin, hi1, f1, r1, hiq, f2, r2, ul, us]
        refine ⟨_, ?_, _, rfl, by simp [hOl], hOd.set (Nat.mod_lt _ (by decide)), i + 1, (cy + p + q) / 4294967296, by omega, rfl, by omega, add_val he hpD hqD hv, ?_, rfl⟩
        · omega
        · intro j h1 h2
          rw [List.getElem?_set_ne (by omega)]
          exact hz j (by omega) (by simpa using h2)
      · have hqD : X.getD i 0 = 0 := by rw [List.getD_eq_getElem?_getD, List.getElem?_eq_none (by omega)]; rfl
        simp +contextual (disch := omega) only [↓AM, ↓AV, AP, CQ, CN, i64, u64, hin, hi1, f1, r1, hiq, ul, us]
        have hav := add_val he hpD hqD hv
        rw [Nat.add_zero] at hav
        refine ⟨_, ?_, _, rfl, by simp [hOl], hOd.set (Nat.mod_lt _ (by decide)), i + 1, (cy + p) / 4294967296, by omega, rfl, by omega, hav, ?_, rfl⟩
        · omega
        · intro j h1 h2
          rw [List.getElem?_set_ne (by omega)]
          exact hz j (by omega) (by simpa using h2)
    · have hiX : i = Y.length := by omega
      subst hiX
      have hiO : Y.length < O.length := by omega
      have hi1 : Y.length < Y.length + 1 := by omega
      have he := hz _ (Nat.le_refl _) hiO
      have ul : leIs (Y.length + 1) (u3 O) = true := by rw [← leIs_p, u3_len]; omega
      have us : ∀ z : Nat, spl (u3 O) Y.length [.int .u32 ((z % 4294967296 : Nat) : Int)] = u3 (O.set Y.length (z % 4294967296)) := fun z => spl_u3 hiO
      simp +contextual (disch := omega) only [↓AM, ↓AV, AP, CQ, CN, i64, u64, hin, hi1, ul, us]
      have h0 := vL_set (B := B32) (d := cy % 4294967296) he
      rw [Nat.mod_eq_of_lt (show cy < 4294967296 by omega)] at h0 ⊢
      rw [List.take_of_length_le (Nat.le_refl _), List.take_of_length_le (l := X) (by omega), xval, yval] at hv
      have lm := lm_new (h := h) (hOd.set (j := Y.length) (show cy < B32 by show cy < 4294967296; omega))
      rw [List.length_set, hOl] at lm
      refine (c_trim lm (by omega)).use ?_
      rintro _ _ w1 ⟨l, rfl⟩
      rw [show vL B32 (O.set Y.length cy) = x + y by omega] at l
      obtain ⟨oa, cc, rfl, l⟩ := l
      simp +contextual (disch := omega) only [↓AM, ↓AV, AP, CQ]
      exact ⟨⟨_, _, rfl, l⟩, Fm.new Fm.refl⟩
  · simp +contextual (disch := omega) only [↓AM, ↓AV, AP, CQ, i64, hlt, rep_u3]
    refine ⟨by omega, ?_⟩
    refine WL.mk (fun k t h' => ∃ O : List Nat, h' = h.new ⟨u3 O, .own⟩ ∧ O.length = X.length + 1 ∧ Dl B32 O ∧ ∃ i cy : Nat, i ≤ X.length ∧ k = X.length - i ∧ cy ≤ 1 ∧ vL B32 O + B32 ^ i * cy = vL B32 (X.take i) + vL B32 (Y.take i) ∧ (∀ j, i ≤ j → j < O.length → O[j]? = some 0) ∧
        t = [(0, some (.slice a X.length c)), (1, some (.slice b Y.length d)), (5, some (.slice (some ⟨h.size, 0, none⟩) (X.length + 1) (X.length + 1))), (6, some (.int .u64 (cy : Int))), (20, some (.slice a X.length c)), (21, some (.int .i64 (X.length : Int))), (22, some (.int .i64 (i : Int)))])
      ⟨X.length, _, rfl, by simp, Dl.zeros _, 0, 0, by omega, rfl, by decide, by rw [vL_zeros]; simp [vL], fun j h1 h2 => by rw [List.getElem?_replicate, if_pos (by simpa using h2)], rfl⟩ ?_
    rintro k t _ ⟨O, rfl, hOl, hOd, i, cy, hi, rfl, hcy, hv, hz, rfl⟩
    have fmO : Fm No h (h.new ⟨u3 O, .own⟩) := Fm.new Fm.refl
    by_cases hin : i < X.length
    · obtain ⟨b1, o1, s1, p, rfl, f1, hp, r1⟩ := (la.rd.keepW w fmO nNo).nat hin
      have hpl : p < 4294967296 := la.dl.at hp
      have hpD : X.getD i 0 = p := by rw [List.getD_eq_getElem?_getD, hp]; rfl
      have hiO : i < O.length := by omega
      have hi1 : i < X.length + 1 := by omega
      have he := hz i (Nat.le_refl _) hiO
      have ul : leIs (i + 1) (u3 O) = true := by rw [← leIs_p, u3_len]; omega
      have us : ∀ z : Nat, spl (u3 O) i [.int .u32 ((z % 4294967296 : Nat) : Int)] = u3 (O.set i (z % 4294967296)) := fun z => spl_u3 hiO
      by_cases hiq : i < Y.length
      · obtain ⟨b2, o2, s2, q, rfl, f2, hq, r2⟩ := (lb.rd.keepW w fmO nNo).nat hiq
        have hql : q < 4294967296 := lb.dl.at hq
        have hqD : Y.getD i 0 = q := by rw [List.getD_eq_getElem?_getD, hq]; rfl
        simp +contextual (disch := omega) only [↓AM, ↓AV, AP, CQ, CN, i64, u64, hin, hi1, f1, r1, hiq, f2, r2, ul, us]
        refine ⟨_, ?_, _, rfl, by simp [hOl], hOd.set (Nat.mod_lt _ (by decide)), i + 1, (cy + p + q) / 4294967296, by omega, rfl, by omega, add_val he hpD hqD hv, ?_, rfl⟩
        · omega
        · intro j h1 h2
          rw [List.getElem?_set_ne (by omega)]
          exact hz j (by omega) (by simpa using h2)
      · have hqD : Y.getD i 0 = 0 := by rw [List.getD_eq_getElem?_getD, List.getElem?_eq_none (by omega)]; rfl
        simp +contextual (disch := omega) only [↓AM, ↓AV, AP, CQ, CN, i64, u64, hin, hi1, f1, r1, hiq, ul, us]
        have hav := add_val he hpD hqD hv
        rw [Nat.add_zero] at hav
        refine ⟨_, ?_, _, rfl, by simp [hOl], hOd.set (Nat.mod_lt _ (by decide)), i + 1, (cy + p) / 4294967296, by omega, rfl, by omega, hav, ?_, rfl⟩
        · omega
        · intro j h1 h2
          rw [List.getElem?_set_ne (by omega)]
          exact hz j (by omega) (by simpa using h2)
    · have hiX : i = X.length := by omega
      subst hiX
      have hiO : X.length < O.length := by omega
      have hi1 : X.length < X.length + 1 := by omega
      have he := hz _ (Nat.le_refl _) hiO
      have ul : leIs (X.length + 1) (u3 O) = true := by rw [← leIs_p, u3_len]; omega
      have us : ∀ z : Nat, spl (u3 O) X.length [.int .u32 ((z % 4294967296 : Nat) : Int)] = u3 (O.set X.length (z % 4294967296)) := fun z => spl_u3 hiO
      simp +contextual (disch := omega) only [↓AM, ↓AV, AP, CQ, CN, i64, u64, hin, hi1, ul, us]
      have h0 := vL_set (B := B32) (d := cy % 4294967296) he
      rw [Nat.mod_eq_of_lt (show cy < 4294967296 by omega)] at h0 ⊢
      rw [List.take_of_length_le (Nat.le_refl _), List.take_of_length_le (l := Y) (by omega), xval, yval] at hv
      have lm := lm_new (h := h) (hOd.set (j := X.length) (show cy < B32 by show cy < 4294967296; omega))
      rw [List.length_set, hOl] at lm
      refine (c_trim lm (by omega)).use ?_
      rintro _ _ w1 ⟨l, rfl⟩
      rw [show vL B32 (O.set X.length cy) = x + y by omega] at l
      obtain ⟨oa, cc, rfl, l⟩ := l
      simp +contextual (disch := omega) only [↓AM, ↓AV, AP, CQ]
      exact ⟨⟨_, _, rfl, l⟩, Fm.new Fm.refl⟩
theorem sub_val {L X Y : List Nat} {i bor p q dd bo : Nat} (he : L[i]? = some 0) (hp : X.getD i 0 = p) (hq : Y.getD i 0 = q) (hdd : dd + q + bor = p + 4294967296 * bo) (hv : vL B32 L + vL B32 (Y.take i) = vL B32 (X.take i) + B32 ^ i * bor) :
    vL B32 (L.set i dd) + vL B32 (Y.take (i + 1)) = vL B32 (X.take (i + 1)) + B32 ^ (i + 1) * bo := by
  have h0 := vL_set (B := B32) (d := dd) he
  have e1 : B32 ^ i * (dd + q + bor) = B32 ^ i * (p + 4294967296 * bo) := by rw [hdd]
  rw [Nat.mul_add, Nat.mul_add, Nat.mul_add] at e1
  rw [take_getN, take_getN, hp, hq, Nat.pow_succ, Nat.mul_assoc]
  show _ + (_ + B32 ^ i * q) = _ + B32 ^ i * p + B32 ^ i * (4294967296 * bo)
  omega
theorem shr_63 {n : Nat} : (n : Int).fdiv (2 ^ min 63 IntKind.u64.bits) = ((n / 9223372036854775808 : Nat) : Int) := by
  show (n : Int).fdiv 9223372036854775808 = _
  rw [Int.fdiv_eq_ediv_of_nonneg _ (by omega)]; rfl
theorem bor_end32 {X Y : List Nat} {L : List Nat} {n bor : Nat} (hL : L.length = n) (hd : Dl B32 L) (hb : bor ≤ 1) (hv : vL B32 L + vL B32 Y = vL B32 X + B32 ^ n * bor) (hle : vL B32 Y ≤ vL B32 X) : vL B32 L = vL B32 X - vL B32 Y := by
  have h1 := vL_lt hd
  rw [hL] at h1
  rcases (show bor = 0 ∨ bor = 1 by omega) with rfl | rfl
  · omega
  · rw [Nat.mul_one] at hv; omega
theorem c_sub {h : Hp} {a b : Option Addr} {c d x y : Nat} (la : Lm h a (dg x).length c (dg x)) (lb : Lm h b (dg y).length d (dg y)) (hx : (dg x).length ≤ 400000) (hy : (dg y).length ≤ 400000) (hle : y ≤ x) :
    ACalls Try.prog 122 [.slice a (dg x).length c, .slice b (dg y).length d] h fun v h' => LmV h' v (x - y) ∧ Fm No h h' := by
  refine num_subMag_ok.snd hm rfl fun w => ?_
  rw [WF_eq, num_subMag]
  have xval : vL B32 (dg x) = x := dg_val x
  have yval : vL B32 (dg y) = y := dg_val y
  have hll : (dg y).length ≤ (dg x).length := by
    rcases Nat.lt_or_ge (dg x).length (dg y).length with h | h
    · have := len_lt b32 (dg_dl x) (dig_nz (hB := b32) y) h
      rw [dg_val, show vL B32 (dig B32 b32 y) = y from dg_val y] at this
      omega
    · exact h
  generalize dg x = X at *
  generalize dg y = Y at *
  simp +contextual (disch := omega) only [↓AM, ↓AV, AP, CQ, i64, rep_u3]
  refine ⟨by omega, ?_⟩
  refine WL.mk (fun k t h' => ∃ O : List Nat, h' = h.new ⟨u3 O, .own⟩ ∧ O.length = X.length ∧ Dl B32 O ∧ ∃ i bor : Nat, i ≤ X.length ∧ k = X.length - i ∧ bor ≤ 1 ∧ vL B32 O + vL B32 (Y.take i) = vL B32 (X.take i) + B32 ^ i * bor ∧ (∀ j, i ≤ j → j < O.length → O[j]? = some 0) ∧
      t = [(1, some (.slice b Y.length d)), (5, some (.slice (some ⟨h.size, 0, none⟩) X.length X.length)), (6, some (.int .u64 (bor : Int))), (14, some (.slice a X.length c)), (15, some (.int .i64 (X.length : Int))), (16, some (.int .i64 (i : Int)))])
    ⟨X.length, _, rfl, by simp, Dl.zeros _, 0, 0, by omega, rfl, by decide, by rw [vL_zeros]; simp [vL], fun j h1 h2 => by rw [List.getElem?_replicate, if_pos (by simpa using h2)], rfl⟩ ?_
  rintro k t _ ⟨O, rfl, hOl, hOd, i, bor, hi, rfl, hb, hv, hz, rfl⟩
  have fmO : Fm No h (h.new ⟨u3 O, .own⟩) := Fm.new Fm.refl
  by_cases hin : i < X.length
  · obtain ⟨b1, o1, s1, p, rfl, f1, hp, r1⟩ := (la.rd.keepW w fmO nNo).nat hin
    have hpl : p < 4294967296 := la.dl.at hp
    have hpD : X.getD i 0 = p := by rw [List.getD_eq_getElem?_getD, hp]; rfl
    have hiO : i < O.length := by omega
    have he := hz i (Nat.le_refl _) hiO
    have ul : leIs (i + 1) (u3 O) = true := by rw [← leIs_p, u3_len]; omega
    have us : ∀ z : Nat, spl (u3 O) i [.int .u32 ((z % 4294967296 : Nat) : Int)] = u3 (O.set i (z % 4294967296)) := fun z => spl_u3 hiO
    have key : ∀ q : Nat, q < 4294967296 → ∃ D : Nat, IntKind.u64.wrap (IntKind.u64.wrap ((p : Int) - (q : Int)) - (bor : Int)) = (D : Int) ∧ D / 9223372036854775808 ≤ 1 ∧ D % 4294967296 + q + bor = p + 4294967296 * (D / 9223372036854775808) := by
      intro q hq
      refine ⟨(IntKind.u64.wrap (IntKind.u64.wrap ((p : Int) - (q : Int)) - (bor : Int))).toNat, ?_, ?_, ?_⟩
      · rw [IntKind.wrap_u64, IntKind.wrap_u64]; omega
      · rw [IntKind.wrap_u64, IntKind.wrap_u64]; omega
      · rw [IntKind.wrap_u64, IntKind.wrap_u64]; omega
    have fin : ∀ q D : Nat, Y.getD i 0 = q → D / 9223372036854775808 ≤ 1 → D % 4294967296 + q + bor = p + 4294967296 * (D / 9223372036854775808) →
        vL B32 (O.set i (D % 4294967296)) + vL B32 (Y.take (i + 1)) = vL B32 (X.take (i + 1)) + B32 ^ (i + 1) * (D / 9223372036854775808) := fun q D h1 _ h3 => sub_val he hpD h1 h3 hv
    by_cases hiq : i < Y.length
    · obtain ⟨b2, o2, s2, q, rfl, f2, hq, r2⟩ := (lb.rd.keepW w fmO nNo).nat hiq
      have hql : q < 4294967296 := lb.dl.at hq
      have hqD : Y.getD i 0 = q := by rw [List.getD_eq_getElem?_getD, hq]; rfl
      obtain ⟨D, k1, k2, k3⟩ := key q hql
      simp +contextual (disch := omega) only [↓AM, ↓AV, AP, CQ, CN, i64, u64, hin, f1, r1, hiq, f2, r2, ul, us, k1, shr_63]
      refine ⟨_, ?_, _, rfl, by simp [hOl], hOd.set (Nat.mod_lt _ (by decide)), i + 1, D / 9223372036854775808, by omega, rfl, k2, fin q D hqD k2 k3, ?_, rfl⟩
      · omega
      · intro j h1 h2
        rw [List.getElem?_set_ne (by omega)]
        exact hz j (by omega) (by simpa using h2)
    · have hqD : Y.getD i 0 = 0 := by rw [List.getD_eq_getElem?_getD, List.getElem?_eq_none (by omega)]; rfl
      obtain ⟨D, k1, k2, k3⟩ := key 0 (by decide)
      have k1 : IntKind.u64.wrap (IntKind.u64.wrap ((p : Int) - 0) - (bor : Int)) = (D : Int) := k1
      rw [u64 (n := (p : Int) - 0) (by omega)] at k1
      simp +contextual (disch := omega) only [↓AM, ↓AV, AP, CQ, CN, i64, u64, hin, f1, r1, hiq, ul, us, k1, shr_63]
      refine ⟨_, ?_, _, rfl, by simp [hOl], hOd.set (Nat.mod_lt _ (by decide)), i + 1, D / 9223372036854775808, by omega, rfl, k2, fin 0 D hqD k2 k3, ?_, rfl⟩
      · omega
      · intro j h1 h2
        rw [List.getElem?_set_ne (by omega)]
        exact hz j (by omega) (by simpa using h2)
  · have hiX : i = X.length := by omega
    subst hiX
    simp +contextual (disch := omega) only [↓AM, ↓AV, AP, CQ, CN, i64, hin]
    rw [List.take_of_length_le (Nat.le_refl X.length), List.take_of_length_le (l := Y) (by omega)] at hv
    have hval := bor_end32 hOl hOd hb hv (by omega)
    rw [xval, yval] at hval
    have lm := lm_new (h := h) hOd
    rw [hOl] at lm
    refine (c_trim lm (by omega)).use ?_
    rintro _ _ w1 ⟨l, rfl⟩
    rw [hval] at l
    obtain ⟨oa, cc, rfl, l⟩ := l
    simp +contextual (disch := omega) only [↓AM, ↓AV, AP, CQ]
    exact ⟨⟨_, _, rfl, l⟩, Fm.new Fm.refl⟩
end Go.Proofs.Ytbfbgkhlngkifaa.Nu

/- Whole numbers added. Plain theorems over the abstract machine.
   Conditions: none. -/
namespace Go.Proofs.Ytbfbgkhlngkifaa.Nu
open Go Go.RowKit Go.Proofs.Ytbfbgkhlngkifaa.Am Go.Proofs.Ytbfbgkhlngkifaa.Af Go.Proofs.Ytbfbgkhlngkifaa.Md
set_option linter.unusedVariables false
set_option linter.unusedSimpArgs false
set_option linter.defProp false
set_option maxRecDepth 20000
set_option maxHeartbeats 1000000

/-- A sign and a size at a place: the sign of nothing is open. -/
def SgnAt (h : Hp) (b o : Nat) (neg : Bool) (x : Nat) : Prop := ∃ cs oa c, h.get b = some ⟨cs, .own⟩ ∧ St cs ∧ cs[o]? = some (.bool neg) ∧ cs[o + 1]? = some (.slice oa (dg x).length c) ∧ Lm h oa (dg x).length c (dg x)
def valS (neg : Bool) (x : Nat) : Int := if neg then -(x : Int) else x
theorem IntAt.sgn {h : Hp} {b o : Nat} {z : Int} (n : IntAt h b o z) : SgnAt h b o (decide (z < 0)) z.natAbs := n
theorem valS_int (z : Int) : valS (decide (z < 0)) z.natAbs = z := by
  unfold valS
  by_cases h : z < 0
  · simp [h]; omega
  · simp [h]; omega
theorem c_AddS {h : Hp} {bx ox ba oa bb ob x y : Nat} {n1 n2 : Bool} (xa : XAt h bx ox) (na : SgnAt h ba oa n1 x) (nb : SgnAt h bb ob n2 y) (hx : (dg x).length ≤ 400000) (hy : (dg y).length ≤ 400000) :
    ACalls Try.prog 100 [.pointer (some ⟨bx, ox, none⟩), .pointer (some ⟨ba, oa, none⟩), .pointer (some ⟨bb, ob, none⟩)] h fun r h' => r = .pointer (some ⟨bx, ox, none⟩) ∧ Wr (fun y => y = bx) h h' ∧ IntAt h' bx ox (valS n1 x + valS n2 y) := by
  refine num_Int__Add_ok.snd hm rfl fun w => ?_
  rw [WF_eq, num_Int__Add]
  obtain ⟨ca, a, c, ga, sa, a0, a1, la⟩ := na
  obtain ⟨cb, b, d, gb, sb, b0, b1, lb⟩ := nb
  have rds : ∀ g : Hp, Fm No h g → (g.rd ba oa = some (.bool n1) ∧ g.rd ba (oa + 1) = some (.slice a (dg x).length c)) ∧ (g.rd bb ob = some (.bool n2) ∧ g.rd bb (ob + 1) = some (.slice b (dg y).length d)) := fun g fg =>
    ⟨⟨(rd_mk (fg.keep w ga (fun f => f)) (i := oa)).trans a0, (rd_mk (fg.keep w ga (fun f => f)) (i := oa + 1)).trans a1⟩, (rd_mk (fg.keep w gb (fun f => f)) (i := ob)).trans b0, (rd_mk (fg.keep w gb (fun f => f)) (i := ob + 1)).trans b1⟩
  have e_t : (true == true) = true := rfl
  have e_f : (false == false) = true := rfl
  have e_tf : (true == false) = false := rfl
  have e_ft : (false == true) = false := rfl
  have fin : ∀ (g : Hp) (ng : Bool) (v : Value) (s : Nat), Wf g → Fm No h g → LmV g v s → valS ng s = valS n1 x + valS n2 y → ACalls Try.prog 115 [.pointer (some ⟨bx, ox, none⟩), .bool ng, v] g fun r h' => r = .pointer (some ⟨bx, ox, none⟩) ∧ Wr (fun y => y = bx) h h' ∧ IntAt h' bx ox (valS n1 x + valS n2 y) := by
    intro g ng v s wg fg l e
    refine (c_setS ng (xa.keep w fg) l).mono ?_
    rintro r h' ⟨h1, h2, h3, -⟩
    refine ⟨h1, (Wr.of (F := fun y => y = bx) w fg).trans w wg h2 fun _ _ f => f, ?_⟩
    rw [← e]; exact h3
  obtain ⟨⟨r0, r1⟩, q0, q1⟩ := rds h Fm.refl
  cases n1 <;> cases n2
  · simp +contextual (disch := omega) only [↓AM, ↓AV, AP, CQ, r0, r1, q0, q1, e_t, e_f, e_tf, e_ft]
    refine (c_add la lb hx hy).use ?_
    rintro _ h1 w1 ⟨l, fm⟩
    obtain ⟨⟨r0, r1⟩, q0, q1⟩ := rds h1 fm
    simp +contextual (disch := omega) only [↓AM, ↓AV, AP, CQ, r0, r1, q0, q1, e_t, e_f, e_tf, e_ft]
    refine (fin h1 false _ _ w1 fm l (by simp [valS] <;> omega)).use ?_
    rintro _ h2 w2 ⟨rfl, p2, p3⟩
    simp +contextual (disch := omega) only [↓AM, ↓AV, AP, CQ, r0, r1, q0, q1, e_t, e_f, e_tf, e_ft]
    exact ⟨p2, p3⟩
  · simp +contextual (disch := omega) only [↓AM, ↓AV, AP, CQ, r0, r1, q0, q1, e_t, e_f, e_tf, e_ft]
    refine (c_cmp la lb (by omega) (by omega)).use ?_
    rintro _ hA wA ⟨⟨r, rfl, k1, k2, k3, k4⟩, e⟩
    subst e
    by_cases hle : y ≤ x
    · have hr : 0 ≤ r := by
        refine Classical.byContradiction fun hn => ?_
        have := k1.1 (by omega)
        omega
      simp +contextual (disch := omega) only [↓AM, ↓AV, AP, CQ, r0, r1, q0, q1, e_t, e_f, e_tf, e_ft, hr]
      refine (c_sub la lb hx hy hle).use ?_
      rintro _ h1 w1 ⟨l, fm⟩
      obtain ⟨⟨r0, r1⟩, q0, q1⟩ := rds h1 fm
      simp +contextual (disch := omega) only [↓AM, ↓AV, AP, CQ, r0, r1, q0, q1, e_t, e_f, e_tf, e_ft]
      refine (fin h1 false _ _ w1 fm l (by simp [valS] <;> omega)).use ?_
      rintro _ h2 w2 ⟨rfl, p2, p3⟩
      simp +contextual (disch := omega) only [↓AM, ↓AV, AP, CQ, r0, r1, q0, q1, e_t, e_f, e_tf, e_ft]
      exact ⟨p2, p3⟩
    · have hr : ¬ 0 ≤ r := fun q => by
        have := k1.2 (by omega)
        omega
      simp +contextual (disch := omega) only [↓AM, ↓AV, AP, CQ, r0, r1, q0, q1, e_t, e_f, e_tf, e_ft, hr]
      refine (c_sub lb la hy hx (by omega)).use ?_
      rintro _ h1 w1 ⟨l, fm⟩
      obtain ⟨⟨r0, r1⟩, q0, q1⟩ := rds h1 fm
      simp +contextual (disch := omega) only [↓AM, ↓AV, AP, CQ, r0, r1, q0, q1, e_t, e_f, e_tf, e_ft]
      refine (fin h1 true _ _ w1 fm l (by simp [valS] <;> omega)).use ?_
      rintro _ h2 w2 ⟨rfl, p2, p3⟩
      simp +contextual (disch := omega) only [↓AM, ↓AV, AP, CQ, r0, r1, q0, q1, e_t, e_f, e_tf, e_ft]
      exact ⟨p2, p3⟩
  · simp +contextual (disch := omega) only [↓AM, ↓AV, AP, CQ, r0, r1, q0, q1, e_t, e_f, e_tf, e_ft]
    refine (c_cmp la lb (by omega) (by omega)).use ?_
    rintro _ hA wA ⟨⟨r, rfl, k1, k2, k3, k4⟩, e⟩
    subst e
    by_cases hle : y ≤ x
    · have hr : 0 ≤ r := by
        refine Classical.byContradiction fun hn => ?_
        have := k1.1 (by omega)
        omega
      simp +contextual (disch := omega) only [↓AM, ↓AV, AP, CQ, r0, r1, q0, q1, e_t, e_f, e_tf, e_ft, hr]
      refine (c_sub la lb hx hy hle).use ?_
      rintro _ h1 w1 ⟨l, fm⟩
      obtain ⟨⟨r0, r1⟩, q0, q1⟩ := rds h1 fm
      simp +contextual (disch := omega) only [↓AM, ↓AV, AP, CQ, r0, r1, q0, q1, e_t, e_f, e_tf, e_ft]
      refine (fin h1 true _ _ w1 fm l (by simp [valS] <;> omega)).use ?_
      rintro _ h2 w2 ⟨rfl, p2, p3⟩
      simp +contextual (disch := omega) only [↓AM, ↓AV, AP, CQ, r0, r1, q0, q1, e_t, e_f, e_tf, e_ft]
      exact ⟨p2, p3⟩
    · have hr : ¬ 0 ≤ r := fun q => by
        have := k1.2 (by omega)
        omega
      simp +contextual (disch := omega) only [↓AM, ↓AV, AP, CQ, r0, r1, q0, q1, e_t, e_f, e_tf, e_ft, hr]
      refine (c_sub lb la hy hx (by omega)).use ?_
      rintro _ h1 w1 ⟨l, fm⟩
      obtain ⟨⟨r0, r1⟩, q0, q1⟩ := rds h1 fm
      simp +contextual (disch := omega) only [↓AM, ↓AV, AP, CQ, r0, r1, q0, q1, e_t, e_f, e_tf, e_ft]
      refine (fin h1 false _ _ w1 fm l (by simp [valS] <;> omega)).use ?_
      rintro _ h2 w2 ⟨rfl, p2, p3⟩
      simp +contextual (disch := omega) only [↓AM, ↓AV, AP, CQ, r0, r1, q0, q1, e_t, e_f, e_tf, e_ft]
      exact ⟨p2, p3⟩
  · simp +contextual (disch := omega) only [↓AM, ↓AV, AP, CQ, r0, r1, q0, q1, e_t, e_f, e_tf, e_ft]
    refine (c_add la lb hx hy).use ?_
    rintro _ h1 w1 ⟨l, fm⟩
    obtain ⟨⟨r0, r1⟩, q0, q1⟩ := rds h1 fm
    simp +contextual (disch := omega) only [↓AM, ↓AV, AP, CQ, r0, r1, q0, q1, e_t, e_f, e_tf, e_ft]
    refine (fin h1 true _ _ w1 fm l (by simp [valS] <;> omega)).use ?_
    rintro _ h2 w2 ⟨rfl, p2, p3⟩
    simp +contextual (disch := omega) only [↓AM, ↓AV, AP, CQ, r0, r1, q0, q1, e_t, e_f, e_tf, e_ft]
    exact ⟨p2, p3⟩
theorem SgnAt.keep {h h' : Hp} {b o x : Nat} {n : Bool} (s : SgnAt h b o n x) (w : Wf h) (fm : Fm No h h') : SgnAt h' b o n x := by
  obtain ⟨cs, oa, c, h1, h2, h3, h4, h5⟩ := s
  exact ⟨cs, oa, c, fm.keep w h1 (fun f => f), h2, h3, h4, h5.rd.keepW w fm nNo, h5.le, h5.dl⟩
theorem c_SubS {h : Hp} {bx ox ba oa bb ob : Nat} {x y : Int} (xa : XAt h bx ox) (na : IntAt h ba oa x) (nb : IntAt h bb ob y) (hx : (dg x.natAbs).length ≤ 400000) (hy : (dg y.natAbs).length ≤ 400000) :
    ACalls Try.prog 99 [.pointer (some ⟨bx, ox, none⟩), .pointer (some ⟨ba, oa, none⟩), .pointer (some ⟨bb, ob, none⟩)] h fun r h' => r = .pointer (some ⟨bx, ox, none⟩) ∧ Wr (fun y => y = bx) h h' ∧ IntAt h' bx ox (x - y) := by
  refine num_Int__Sub_ok.snd hm rfl fun w => ?_
  rw [WF_eq, num_Int__Sub]
  have q0 := nb.r0
  obtain ⟨b, d, q1, lb⟩ := nb.r1
  obtain ⟨ng, hng⟩ : ∃ g, decide (¬ y < 0) = g := ⟨_, rfl⟩
  obtain ⟨hA, hhA⟩ : ∃ g, h.new ⟨[.bool ng, .slice b (dg y.natAbs).length d], .own⟩ = g := ⟨_, rfl⟩
  have wA : Wf hA := hhA ▸ w.new
  have fmA : Fm No h hA := hhA ▸ Fm.new Fm.refl
  have gA : hA.get h.size = some ⟨[.bool ng, .slice b (dg y.natAbs).length d], .own⟩ := hhA ▸ gnew
  have sb : SgnAt hA h.size 0 ng y.natAbs := ⟨_, b, d, gA, st2, rfl, rfl, lb.rd.keepW w fmA nNo, lb.le, lb.dl⟩
  have r0 : hA.rd bb ob = some (.bool (decide (y < 0))) := (nb.keep w fmA).r0
  simp +contextual (disch := omega) only [↓AM, ↓AV, AP, CQ, q0, q1, hng, hhA]
  refine (c_AddS (xa.keep w fmA) (na.sgn.keep w fmA) sb hx hy).use ?_
  rintro _ h2 w2 ⟨rfl, p2, p3⟩
  simp +contextual (disch := omega) only [↓AM, ↓AV, AP, CQ]
  have e : valS (decide (x < 0)) x.natAbs + valS ng y.natAbs = x - y := by
    rw [valS_int, ← hng]
    unfold valS
    by_cases h : y < 0
    · simp [h]; omega
    · simp [h]; omega
  rw [e] at p3
  exact ⟨(Wr.of (F := fun y => y = bx) w fmA).trans w wA p2 fun _ _ f => f, p3⟩
theorem c_setIS {h : Hp} {b o : Nat} {z : Int} (xa : XAt h b o) (hz : -9223372036854775808 ≤ z ∧ z ≤ 9223372036854775807) :
    ACalls Try.prog 90 [.pointer (some ⟨b, o, none⟩), .int .i64 z] h fun r h' => r = .pointer (some ⟨b, o, none⟩) ∧ Wr (fun y => y = b) h h' ∧ IntAt h' b o z := by
  by_cases h0 : z < 0
  · refine num_Int__SetInt64_ok.snd hm rfl fun w => ?_
    rw [WF_eq, num_Int__SetInt64]
    have e1 : IntKind.u64.wrap z = z + 18446744073709551616 := by rw [IntKind.wrap_u64]; omega
    obtain ⟨n, hn⟩ : ∃ n : Nat, -z = (n : Int) := ⟨z.natAbs, by omega⟩
    have e2 : IntKind.u64.wrap (0 - (z + 18446744073709551616)) = (n : Int) := by rw [IntKind.wrap_u64]; omega
    simp +contextual (disch := omega) only [↓AM, ↓AV, AP, CQ, h0, e1, e2]
    refine (c_magOf (v := n) (by omega)).use ?_
    rintro _ h1 w1 ⟨l, fm⟩
    simp +contextual (disch := omega) only [↓AM, ↓AV, AP, CQ]
    refine (c_setS true (xa.keep w fm) l).use ?_
    rintro _ h2 w2 ⟨rfl, wr, nn, -⟩
    simp +contextual (disch := omega) only [↓AM, ↓AV, AP, CQ]
    rw [if_pos rfl, show -(n : Int) = z by omega] at nn
    exact ⟨(Wr.of (F := fun y => y = b) w fm).trans w w1 wr fun _ _ f => f, nn⟩
  · obtain ⟨n, rfl⟩ : ∃ n : Nat, z = (n : Int) := ⟨z.natAbs, by omega⟩
    refine (c_setI xa hz.2).mono ?_
    rintro r h' ⟨h1, h2, h3⟩
    exact ⟨h1, h2, h3.int⟩
theorem c_newIS {h : Hp} {z : Int} (hz : -9223372036854775808 ≤ z ∧ z ≤ 9223372036854775807) :
    ACalls Try.prog 56 [.int .i64 z] h fun r h' => ∃ b, r = .pointer (some ⟨b, 0, none⟩) ∧ h.size ≤ b ∧ IntAt h' b 0 z ∧ Fm No h h' := by
  refine num_NewInt_ok.snd hm rfl fun w => ?_
  rw [WF_eq, num_NewInt]
  simp +contextual (disch := omega) only [↓AM, ↓AV, AP, CQ]
  refine (c_setIS (x_new (by decide)) hz).use ?_
  rintro _ h2 w2 ⟨rfl, wr, n⟩
  simp +contextual (disch := omega) only [↓AM, ↓AV, AP, CQ]
  exact ⟨_, rfl, Nat.le_refl _, n, wr_new w wr⟩
end Go.Proofs.Ytbfbgkhlngkifaa.Nu

/- How many bits a number has; limbs moved up by bits. Plain theorems over the abstract machine.
   Conditions: none. -/
namespace Go.Proofs.Ytbfbgkhlngkifaa.Nu
open Go Go.RowKit Go.Proofs.Ytbfbgkhlngkifaa.Am Go.Proofs.Ytbfbgkhlngkifaa.Af Go.Proofs.Ytbfbgkhlngkifaa.Md
set_option linter.unusedVariables false
set_option linter.unusedSimpArgs false
set_option linter.defProp false
set_option maxRecDepth 20000
set_option maxHeartbeats 1000000

def tab8 : ByteArray := ⟨#[0, 1, 2, 2, 3, 3, 3, 3, 4, 4, 4, 4, 4, 4, 4, 4, 5, 5, 5, 5, 5, 5, 5, 5, 5, 5, 5, 5, 5, 5, 5, 5, 6, 6, 6, 6, 6, 6, 6, 6, 6, 6, 6, 6, 6, 6, 6, 6, 6, 6, 6, 6, 6, 6, 6, 6, 6, 6, 6, 6, 6, 6, 6, 6, 7, 7, 7, 7, 7, 7, 7, 7, 7, 7, 7, 7, 7, 7, 7, 7, 7, 7, 7, 7, 7, 7, 7, 7, 7, 7, 7, 7, 7, 7, 7, 7, 7, 7, 7, 7, 7, 7, 7, 7, 7, 7, 7, 7, 7, 7, 7, 7, 7, 7, 7, 7, 7, 7, 7, 7, 7, 7, 7, 7, 7, 7, 7, 7, 8, 8, 8, 8, 8, 8, 8, 8, 8, 8, 8, 8, 8, 8, 8, 8, 8, 8, 8, 8, 8, 8, 8, 8, 8, 8, 8, 8, 8, 8, 8, 8, 8, 8, 8, 8, 8, 8, 8, 8, 8, 8, 8, 8, 8, 8, 8, 8, 8, 8, 8, 8, 8, 8, 8, 8, 8, 8, 8, 8, 8, 8, 8, 8, 8, 8, 8, 8, 8, 8, 8, 8, 8, 8, 8, 8, 8, 8, 8, 8, 8, 8, 8, 8, 8, 8, 8, 8, 8, 8, 8, 8, 8, 8, 8, 8, 8, 8, 8, 8, 8, 8, 8, 8, 8, 8, 8, 8, 8, 8, 8, 8, 8, 8, 8, 8, 8, 8, 8, 8, 8, 8, 8, 8, 8, 8, 8, 8]⟩
def tabOk (b : Nat) : Bool := match tab8.data.toList[b]? with
  | some v => Nat.ble v.toNat 8 && Nat.blt b (2 ^ v.toNat) && (Nat.beq b 0 || (Nat.ble 1 v.toNat && Nat.ble (2 ^ (v.toNat - 1)) b))
  | none => false
theorem tab_all : ((List.range 256).all tabOk) = true := by kernel_rfl
theorem tab_at {b : Nat} (hb : b < 256) : ∃ v : UInt8, tab8.data.toList[b]? = some v ∧ v.toNat ≤ 8 ∧ b < 2 ^ v.toNat ∧ (b = 0 ∨ 1 ≤ v.toNat ∧ 2 ^ (v.toNat - 1) ≤ b) := by
  have := List.all_eq_true.1 tab_all b (List.mem_range.2 hb)
  unfold tabOk at this
  split at this
  · rename_i v hv
    refine ⟨v, hv, ?_⟩
    simp only [Bool.and_eq_true, Bool.or_eq_true] at this
    obtain ⟨⟨h1, h2⟩, h3⟩ := this
    refine ⟨Nat.le_of_ble_eq_true h1, Nat.le_of_ble_eq_true h2, ?_⟩
    rcases h3 with h3 | h3
    · exact .inl (Nat.eq_of_beq_eq_true h3)
    · exact .inr ⟨Nat.le_of_ble_eq_true h3.1, Nat.le_of_ble_eq_true h3.2⟩
  · cases this
/-- n is how many bits x has. -/
def Bl (x n : Nat) : Prop := x < 2 ^ n ∧ (x = 0 ∨ 1 ≤ n ∧ 2 ^ (n - 1) ≤ x)
theorem Bl.up {x n k : Nat} (h : Bl (x / 2 ^ k) n) (hx : x / 2 ^ k ≠ 0) : Bl x (k + n) := by
  obtain ⟨h1, h2⟩ := h
  have hp : 0 < 2 ^ k := Nat.pow_pos (by decide)
  refine ⟨?_, .inr ?_⟩
  · rw [Nat.pow_add, Nat.mul_comm]
    exact (Nat.div_lt_iff_lt_mul hp).1 h1
  · rcases h2 with h2 | ⟨h2, h3⟩
    · exact absurd h2 hx
    · refine ⟨by omega, ?_⟩
      rw [show k + n - 1 = (n - 1) + k by omega, Nat.pow_add]
      exact (Nat.le_div_iff_mul_le hp).1 h3
theorem shr_16 {n : Nat} : (n : Int).fdiv (2 ^ min 16 IntKind.u32.bits) = ((n / 2 ^ 16 : Nat) : Int) := by
  show (n : Int).fdiv 65536 = _
  rw [Int.fdiv_eq_ediv_of_nonneg _ (by omega)]; rfl
theorem shr_8 {n : Nat} : (n : Int).fdiv (2 ^ min 8 IntKind.u32.bits) = ((n / 2 ^ 8 : Nat) : Int) := by
  show (n : Int).fdiv 256 = _
  rw [Int.fdiv_eq_ediv_of_nonneg _ (by omega)]; rfl
theorem c_Len32 {h : Hp} {x : Nat} (hx : x < 4294967296) : ACalls Try.prog 133 [.int .u32 (x : Int)] h fun v h' => h' = h ∧ ∃ n : Nat, v = .int .i64 (n : Int) ∧ n ≤ 32 ∧ Bl x n := by
  refine bits_Len32_ok.snd hm rfl fun w => ?_
  rw [WF_eq, bits_Len32]
  have low : ∀ b : Nat, b < 256 → ∃ v : UInt8, (⟨#[0, 1, 2, 2, 3, 3, 3, 3, 4, 4, 4, 4, 4, 4, 4, 4, 5, 5, 5, 5, 5, 5, 5, 5, 5, 5, 5, 5, 5, 5, 5, 5, 6, 6, 6, 6, 6, 6, 6, 6, 6, 6, 6, 6, 6, 6, 6, 6, 6, 6, 6, 6, 6, 6, 6, 6, 6, 6, 6, 6, 6, 6, 6, 6, 7, 7, 7, 7, 7, 7, 7, 7, 7, 7, 7, 7, 7, 7, 7, 7, 7, 7, 7, 7, 7, 7, 7, 7, 7, 7, 7, 7, 7, 7, 7, 7, 7, 7, 7, 7, 7, 7, 7, 7, 7, 7, 7, 7, 7, 7, 7, 7, 7, 7, 7, 7, 7, 7, 7, 7, 7, 7, 7, 7, 7, 7, 7, 7, 8, 8, 8, 8, 8, 8, 8, 8, 8, 8, 8, 8, 8, 8, 8, 8, 8, 8, 8, 8, 8, 8, 8, 8, 8, 8, 8, 8, 8, 8, 8, 8, 8, 8, 8, 8, 8, 8, 8, 8, 8, 8, 8, 8, 8, 8, 8, 8, 8, 8, 8, 8, 8, 8, 8, 8, 8, 8, 8, 8, 8, 8, 8, 8, 8, 8, 8, 8, 8, 8, 8, 8, 8, 8, 8, 8, 8, 8, 8, 8, 8, 8, 8, 8, 8, 8, 8, 8, 8, 8, 8, 8, 8, 8, 8, 8, 8, 8, 8, 8, 8, 8, 8, 8, 8, 8, 8, 8, 8, 8, 8, 8, 8, 8, 8, 8, 8, 8, 8, 8, 8, 8, 8, 8, 8, 8, 8, 8]⟩ : ByteArray).data.toList[b]? = some v ∧ v.toNat ≤ 8 ∧ Bl b v.toNat := fun b hb => tab_at hb
  generalize (⟨#[0, 1, 2, 2, 3, 3, 3, 3, 4, 4, 4, 4, 4, 4, 4, 4, 5, 5, 5, 5, 5, 5, 5, 5, 5, 5, 5, 5, 5, 5, 5, 5, 6, 6, 6, 6, 6, 6, 6, 6, 6, 6, 6, 6, 6, 6, 6, 6, 6, 6, 6, 6, 6, 6, 6, 6, 6, 6, 6, 6, 6, 6, 6, 6, 7, 7, 7, 7, 7, 7, 7, 7, 7, 7, 7, 7, 7, 7, 7, 7, 7, 7, 7, 7, 7, 7, 7, 7, 7, 7, 7, 7, 7, 7, 7, 7, 7, 7, 7, 7, 7, 7, 7, 7, 7, 7, 7, 7, 7, 7, 7, 7, 7, 7, 7, 7, 7, 7, 7, 7, 7, 7, 7, 7, 7, 7, 7, 7, 8, 8, 8, 8, 8, 8, 8, 8, 8, 8, 8, 8, 8, 8, 8, 8, 8, 8, 8, 8, 8, 8, 8, 8, 8, 8, 8, 8, 8, 8, 8, 8, 8, 8, 8, 8, 8, 8, 8, 8, 8, 8, 8, 8, 8, 8, 8, 8, 8, 8, 8, 8, 8, 8, 8, 8, 8, 8, 8, 8, 8, 8, 8, 8, 8, 8, 8, 8, 8, 8, 8, 8, 8, 8, 8, 8, 8, 8, 8, 8, 8, 8, 8, 8, 8, 8, 8, 8, 8, 8, 8, 8, 8, 8, 8, 8, 8, 8, 8, 8, 8, 8, 8, 8, 8, 8, 8, 8, 8, 8, 8, 8, 8, 8, 8, 8, 8, 8, 8, 8, 8, 8, 8, 8, 8, 8, 8, 8]⟩ : ByteArray) = T at *
  have e16 : (65536 : Nat) = 2 ^ 16 := rfl
  have e8 : (256 : Nat) = 2 ^ 8 := rfl
  by_cases h1 : (65536 : Int) ≤ (x : Int)
  · have d1 : x / 2 ^ 16 < 65536 := by omega
    have d0 : x / 2 ^ 16 ≠ 0 := by omega
    by_cases h2 : (256 : Int) ≤ ((x / 2 ^ 16 : Nat) : Int)
    · have g1 : x / 2 ^ 16 / 2 ^ 8 < 256 := by omega
      have g0 : x / 2 ^ 16 / 2 ^ 8 ≠ 0 := by omega
      obtain ⟨v, hv, hv8, hb⟩ := low _ g1
      simp +contextual (disch := omega) only [↓AM, ↓AV, AP, CQ, shr_16, shr_8, i64, u8, h1, h2, hv]
      exact ⟨8 + 16 + v.toNat, by simp, by omega, by have := (hb.up g0).up d0; rwa [show 16 + (8 + v.toNat) = 8 + 16 + v.toNat by omega] at this⟩
    · have g1 : x / 2 ^ 16 < 256 := by omega
      obtain ⟨v, hv, hv8, hb⟩ := low _ g1
      simp +contextual (disch := omega) only [↓AM, ↓AV, AP, CQ, shr_16, shr_8, i64, u8, h1, h2, hv]
      exact ⟨16 + v.toNat, by simp, by omega, hb.up d0⟩
  · by_cases h2 : (256 : Int) ≤ (x : Int)
    · have g1 : x / 2 ^ 8 < 256 := by omega
      have g0 : x / 2 ^ 8 ≠ 0 := by omega
      obtain ⟨v, hv, hv8, hb⟩ := low _ g1
      simp +contextual (disch := omega) only [↓AM, ↓AV, AP, CQ, shr_16, shr_8, i64, u8, h1, h2, hv]
      exact ⟨8 + v.toNat, by simp, by omega, hb.up g0⟩
    · have g1 : x < 256 := by omega
      obtain ⟨v, hv, hv8, hb⟩ := low _ g1
      simp +contextual (disch := omega) only [↓AM, ↓AV, AP, CQ, shr_16, shr_8, i64, u8, h1, h2, hv]
      exact ⟨v.toNat, by simp, by omega, hb⟩
end Go.Proofs.Ytbfbgkhlngkifaa.Nu

/- Limbs moved up by bits. Plain theorems over the abstract machine.
   Conditions: none. -/
namespace Go.Proofs.Ytbfbgkhlngkifaa.Nu
open Go Go.RowKit Go.Proofs.Ytbfbgkhlngkifaa.Am Go.Proofs.Ytbfbgkhlngkifaa.Af Go.Proofs.Ytbfbgkhlngkifaa.Md
set_option linter.unusedVariables false
set_option linter.unusedSimpArgs false
set_option linter.defProp false
set_option maxRecDepth 20000
set_option maxHeartbeats 1000000

theorem c_Lz {h : Hp} {x : Nat} (h0 : 0 < x) (hx : x < 4294967296) : ACalls Try.prog 130 [.int .u32 (x : Int)] h fun v h' => h' = h ∧ ∃ by_ : Nat, v = .int .i64 (by_ : Int) ∧ by_ < 32 ∧ 2147483648 ≤ x * 2 ^ by_ ∧ x * 2 ^ by_ < 4294967296 := by
  refine bits_LeadingZeros32_ok.snd hm rfl fun w => ?_
  rw [WF_eq, bits_LeadingZeros32]
  simp +contextual (disch := omega) only [↓AM, ↓AV, AP, CQ]
  refine (c_Len32 hx).use ?_
  rintro _ _ w1 ⟨rfl, n, rfl, hn, h1, h2⟩
  have e : (32 : Int) - (n : Int) = ((32 - n : Nat) : Int) := by omega
  simp +contextual (disch := omega) only [↓AM, ↓AV, AP, CQ, i64, e]
  rcases h2 with h2 | ⟨h2, h3⟩
  · omega
  refine ⟨32 - n, rfl, by omega, ?_, ?_⟩
  · have := Nat.mul_le_mul_right (2 ^ (32 - n)) h3
    rw [← Nat.pow_add, show n - 1 + (32 - n) = 31 by omega] at this
    exact this
  · have := Nat.mul_lt_mul_of_pos_right h1 (Nat.pow_pos (n := 32 - n) (show 0 < 2 by decide))
    rw [← Nat.pow_add, show n + (32 - n) = 32 by omega] at this
    exact this
theorem shl_by {x b : Nat} (hb : b ≤ 64) : (x : Int) * 2 ^ min b IntKind.u64.bits = ((x * 2 ^ b : Nat) : Int) := by
  rw [show min b IntKind.u64.bits = b from Nat.min_eq_left hb]
  rw [Int.natCast_mul, Int.natCast_pow]; rfl
theorem or_by {l x b : Nat} (hl : l < 2 ^ b) (hx : x < 4294967296) (hb : b < 32) : (BitVec.ofInt IntKind.u64.bits (l : Int) ||| BitVec.ofInt IntKind.u64.bits ((x * 2 ^ b : Nat) : Int)).toNat = l + x * 2 ^ b := by
  have hp : 2 ^ b ≤ 2147483648 := Nat.pow_le_pow_right (by decide) (show b ≤ 31 by omega)
  have hm : x * 2 ^ b ≤ 4294967296 * 2147483648 := Nat.mul_le_mul (by omega) hp
  show (BitVec.ofInt 64 (l : Int) ||| BitVec.ofInt 64 ((x * 2 ^ b : Nat) : Int)).toNat = l + x * 2 ^ b
  rw [BitVec.toNat_or, BitVec.toNat_ofInt, BitVec.toNat_ofInt]
  have e1 : ((((x * 2 ^ b : Nat) : Int)) % ((2 ^ 64 : Nat) : Int)).toNat = x <<< b := by
    rw [Nat.shiftLeft_eq]; omega
  have e2 : (((l : Nat) : Int) % ((2 ^ 64 : Nat) : Int)).toNat = l := by omega
  rw [e1, e2, Nat.or_comm, ← Nat.shiftLeft_add_eq_or_of_lt hl, Nat.shiftLeft_eq, Nat.add_comm]
theorem take_u3 {Y : List Nat} {j q : Nat} (hq : Y[j]? = some q) : vL B32 (Y.take (j + 1)) = vL B32 (Y.take j) + B32 ^ j * q := by
  rw [List.take_add_one, hq]
  show vL B32 (Y.take j ++ [q]) = _
  rw [vL_snoc, List.length_take, Nat.min_eq_left (by have := (List.getElem?_eq_some_iff.1 hq).1; omega)]
theorem c_shift {h : Hp} {a : Option Addr} {n c b : Nat} {M : List Nat} (la : Lm h a n c M) (hn : n ≤ 400000) (hb : b < 32) :
    ACalls Try.prog 131 [.slice a n c, .int .i64 (b : Int)] h fun v h' => ∃ k U, v = .slice (some ⟨k, 0, none⟩) (n + 1) (n + 1) ∧ h.size ≤ k ∧ h'.get k = some ⟨u3 U, .own⟩ ∧ U.length = n + 1 ∧ Dl B32 U ∧ vL B32 U = vL B32 M * 2 ^ b ∧ Fm No h h' := by
  refine num_shift_ok.snd hm rfl fun w => ?_
  rw [WF_eq, num_shift]
  have hml := la.len
  have hp : 0 < 2 ^ b := Nat.pow_pos (by decide)
  have hp2 : 2 ^ b ≤ 2147483648 := Nat.pow_le_pow_right (by decide) (show b ≤ 31 by omega)
  simp +contextual (disch := omega) only [↓AM, ↓AV, AP, CQ, i64, rep_u3]
  refine ⟨by omega, ?_⟩
  have zl : vL B32 (List.replicate (n + 1) 0) = 0 := vL_zeros _ _
  refine WL.mk (fun k t h' => ∃ O : List Nat, h' = h.new ⟨u3 O, .own⟩ ∧ O.length = n + 1 ∧ Dl B32 O ∧ ∃ i l : Nat, i ≤ n ∧ k = n - i ∧ l < 2 ^ b ∧ vL B32 O + B32 ^ i * l = vL B32 (M.take i) * 2 ^ b ∧ (∀ j, i ≤ j → j < O.length → O[j]? = some 0) ∧
      t = [(0, some (.slice a n c)), (1, some (.int .i64 (b : Int))), (5, some (.slice (some ⟨h.size, 0, none⟩) (n + 1) (n + 1))), (6, some (.int .u64 (l : Int))), (13, some (.slice a n c)), (14, some (.int .i64 (n : Int))), (15, some (.int .i64 (i : Int)))])
    ⟨n, _, rfl, by simp, Dl.zeros _, 0, 0, by omega, rfl, hp, by rw [zl]; simp [vL], fun j h1 h2 => by rw [List.getElem?_replicate, if_pos (by simpa using h2)], rfl⟩ ?_
  rintro k t _ ⟨O, rfl, hOl, hOd, i, l, hi, rfl, hl, hv, hz, rfl⟩
  by_cases hin : i < n
  · obtain ⟨b1, o1, s1, p, rfl, f1, hp1, r1⟩ := (la.rd.keepW w (Fm.new (o := ⟨u3 O, .own⟩) (Fm.refl (F := No))) nNo).nat hin
    have hpl : p < 4294967296 := la.dl.at hp1
    have eo := or_by hl hpl hb
    have hpb : p * 2 ^ b ≤ 4294967295 * 2 ^ b := Nat.mul_le_mul_right _ (by omega)
    have hub : p * 2 ^ b < 9223372036854775808 := by
      have : p * 2 ^ b ≤ 4294967295 * 2147483648 := Nat.mul_le_mul (by omega) hp2
      omega
    have es := shl_by (x := p) (b := b) (by omega)
    have hie : i < O.length := by omega
    have hin2 : i < n + 1 := by omega
    have ul : leIs (i + 1) (u3 O) = true := by rw [← leIs_p, u3_len]; omega
    have us : spl (u3 O) i [.int .u32 (((l + p * 2 ^ b) % 4294967296 : Nat) : Int)] = u3 (O.set i ((l + p * 2 ^ b) % 4294967296)) := spl_u3 hie
    have h0 := hz i (Nat.le_refl _) hie
    simp +contextual (disch := omega) only [↓AM, ↓AV, AP, CQ, CN, i64, u64, hin, f1, r1, es, eo, hin2, ul, us]
    refine ⟨n - (i + 1), by omega, _, rfl, by simp [hOl], hOd.set (Nat.mod_lt _ (by decide)), i + 1, (l + p * 2 ^ b) / 4294967296, by omega, rfl, ?_, ?_, ?_, rfl⟩
    · refine (Nat.div_lt_iff_lt_mul (by decide)).2 ?_
      have : 2 ^ b * 4294967296 = 4294967295 * 2 ^ b + 2 ^ b := by omega
      omega
    · have e1 := vL_set (B := B32) (d := (l + p * 2 ^ b) % 4294967296) h0
      rw [Nat.mul_zero, Nat.add_zero] at e1
      rw [take_u3 hp1, e1, Nat.add_mul, ← hv, Nat.pow_succ, Nat.mul_assoc, Nat.mul_assoc]
      have e2 : B32 ^ i * ((l + p * 2 ^ b) % 4294967296) + B32 ^ i * (B32 * ((l + p * 2 ^ b) / 4294967296)) = B32 ^ i * l + B32 ^ i * (p * 2 ^ b) := by
        rw [← Nat.mul_add, ← Nat.mul_add]; congr 1; exact Nat.mod_add_div _ 4294967296
      omega
    · intro j h1 h2
      rw [List.getElem?_set_ne (by omega)]
      exact hz j (by omega) (by simpa using h2)
  · have hie : i = n := by omega
    subst hie
    have hiO : i < O.length := by omega
    have ul : leIs (i + 1) (u3 O) = true := by rw [← leIs_p, u3_len]; omega
    have us : spl (u3 O) i [.int .u32 ((l % 4294967296 : Nat) : Int)] = u3 (O.set i (l % 4294967296)) := spl_u3 hiO
    have hin2 : i < i + 1 := by omega
    have h0 := hz i (Nat.le_refl _) hiO
    simp +contextual (disch := omega) only [↓AM, ↓AV, AP, CQ, CN, i64, u64, hin, hin2, ul, us]
    refine ⟨h.size, O.set i (l % 4294967296), rfl, Nat.le_refl _, gnew, by simp [hOl], hOd.set (Nat.mod_lt _ (by decide)), ?_, Fm.new Fm.refl⟩
    have e1 := vL_set (B := B32) (d := l % 4294967296) h0
    rw [Nat.mul_zero, Nat.add_zero] at e1
    rw [List.take_of_length_le (by omega)] at hv
    rw [e1, Nat.mod_eq_of_lt (by omega), hv]
end Go.Proofs.Ytbfbgkhlngkifaa.Nu

/- Long division: one digit, in plain numbers. Plain theorems.
   Conditions: none. -/
namespace Go.Proofs.Ytbfbgkhlngkifaa.Nu
open Go Go.RowKit Go.Proofs.Ytbfbgkhlngkifaa.Am Go.Proofs.Ytbfbgkhlngkifaa.Af Go.Proofs.Ytbfbgkhlngkifaa.Md
set_option linter.unusedVariables false
set_option linter.unusedSimpArgs false
set_option linter.defProp false
set_option maxRecDepth 20000
set_option maxHeartbeats 1000000

/-- A divisor V with its two highest limbs, and a number U with its three highest ones (the two highest of them as one). -/
structure Kn (B top u2 v1 v2 W V U : Nat) : Prop where
  v1l : 1 ≤ v1
  v2h : v2 < B
  u2h : u2 < B
  w0 : 0 < W
  vl : (v1 * B + v2) * W ≤ V
  vh : V < (v1 * B + v2 + 1) * W
  ul : (top * B + u2) * W ≤ U
  uh : U < (top * B + u2 + 1) * W
  lt : U < V * B
section
variable {B top u2 v1 v2 W V U : Nat}
theorem Kn.v0 (k : Kn B top u2 v1 v2 W V U) : 0 < V := by
  have h1 := k.lt
  refine Nat.pos_of_ne_zero fun e => ?_
  rw [e, Nat.zero_mul] at h1
  omega
theorem Kn.b0 (k : Kn B top u2 v1 v2 W V U) : 0 < B := by have := k.v2h; omega
theorem Kn.qB (k : Kn B top u2 v1 v2 W V U) : U / V < B := (Nat.div_lt_iff_lt_mul k.v0).2 (by have := k.lt; rwa [Nat.mul_comm] at this)
theorem Kn.qV (k : Kn B top u2 v1 v2 W V U) : U / V * V ≤ U := Nat.div_mul_le_self U V
/-- The quotient's estimate from above. -/
theorem Kn.qU (k : Kn B top u2 v1 v2 W V U) : U / V * (v1 * B + v2) ≤ top * B + u2 := by
  have h1 := k.qV
  have h2 := Nat.mul_le_mul_left (U / V) k.vl
  have h3 := k.uh
  have h4 : U / V * (v1 * B + v2) * W < (top * B + u2 + 1) * W := by rw [Nat.mul_assoc]; omega
  have := Nat.lt_of_mul_lt_mul_right h4
  omega
theorem Kn.init (k : Kn B top u2 v1 v2 W V U) : U / V ≤ top / v1 := by
  have h := k.qU
  have hv := k.v1l
  have hu := k.u2h
  have hb := k.b0
  refine (Nat.le_div_iff_mul_le (by omega)).2 ?_
  rw [Nat.mul_add, ← Nat.mul_assoc] at h
  generalize U / V * v1 = m at *
  generalize U / V * v2 = l at *
  have h2 : m * B < (top + 1) * B := by rw [Nat.add_mul, Nat.one_mul]; omega
  have := Nat.lt_of_mul_lt_mul_right h2
  omega
theorem Kn.topB (k : Kn B top u2 v1 v2 W V U) : top ≤ v1 * B + v2 := by
  have h1 := k.ul
  have h2 := k.lt
  have h3 := k.vh
  have hb := k.b0
  have h4 : (top * B + u2) * W < (v1 * B + v2 + 1) * W * B := by
    have := Nat.mul_lt_mul_of_pos_right h3 hb
    omega
  have h5 : (top * B + u2) * W < (v1 * B + v2 + 1) * B * W := by
    rw [Nat.mul_assoc _ W, Nat.mul_comm W, ← Nat.mul_assoc] at h4; exact h4
  have h6 := Nat.lt_of_mul_lt_mul_right h5
  have h7 : top * B < (v1 * B + v2 + 1) * B := by omega
  have := Nat.lt_of_mul_lt_mul_right h7
  omega
theorem Kn.dec (k : Kn B top u2 v1 v2 W V U) {q r : Nat} (e : q * v1 + r = top) (h : B ≤ q ∨ r * B + u2 < q * v2) : U / V < q := by
  rcases h with h | h
  · exact Nat.lt_of_lt_of_le k.qB h
  · refine est_ge (V2 := v1 * B + v2) (U3 := top * B + u2) (W := W) k.vl k.uh k.qV ?_
    rw [Nat.mul_add, ← Nat.mul_assoc, ← e, Nat.add_mul]
    omega
theorem Kn.fin (k : Kn B top u2 v1 v2 W V U) {q r : Nat} (e : q * v1 + r = top) (hq : q < B) (h : q * v2 ≤ r * B + u2) : q ≤ U / V + 1 := by
  rcases Nat.eq_zero_or_pos q with h0 | h0
  · rw [h0]; exact Nat.zero_le _
  · have h1 : (q - 1) * V ≤ U := by
      refine est_le (V2 := v1 * B + v2) (U3 := top * B + u2) (W := W) k.vh k.ul ?_ ?_ h0
      · rw [Nat.mul_add, ← Nat.mul_assoc, ← e, Nat.add_mul]
        omega
      · have h2 := k.vl
        have h4 : 1 * B ≤ v1 * B := Nat.mul_le_mul_right B k.v1l
        have h3 : q * W ≤ (v1 * B + v2) * W := Nat.mul_le_mul_right W (by omega)
        omega
    have := (Nat.le_div_iff_mul_le k.v0).2 h1
    omega
theorem Kn.brk (k : Kn B top u2 v1 v2 W V U) {q r : Nat} (e : q * v1 + r = top) (hr : B ≤ r) : q < B ∧ q ≤ U / V + 1 := by
  have ht := k.topB
  have hv := k.v2h
  have hv1 := k.v1l
  have hq : q < B := by
    refine Nat.lt_of_not_le fun h => ?_
    have := Nat.mul_le_mul_right v1 h
    rw [Nat.mul_comm B] at this
    omega
  refine ⟨hq, k.fin e hq ?_⟩
  have h1 : q * v2 ≤ B * B := Nat.mul_le_mul (by omega) (by omega)
  have h2 : B * B ≤ r * B := Nat.mul_le_mul_right B hr
  omega
end
/-- The window of limbs from j on, the first i of them. -/
def wn (O : List Nat) (j i : Nat) : Nat := vL B32 ((O.drop j).take i)
theorem wn_set {O : List Nat} {j i d : Nat} (h : j + i < O.length) : wn (O.set (j + i) d) j (i + 1) = wn O j i + B32 ^ i * d := by
  unfold wn
  rw [List.drop_set, if_neg (by omega), show j + i - j = i by omega, List.take_add_one, List.take_set_of_le (Nat.le_refl i), List.getElem?_set_self (by simp; omega)]
  show vL B32 ((O.drop j).take i ++ [d]) = _
  rw [vL_snoc, List.length_take, List.length_drop, Nat.min_eq_left (by omega)]
theorem wn_at {O : List Nat} {j i d : Nat} (h : O[j + i]? = some d) : wn O j (i + 1) = wn O j i + B32 ^ i * d := by
  unfold wn
  have hl := (List.getElem?_eq_some_iff.1 h).1
  rw [List.take_add_one, List.getElem?_drop, h]
  show vL B32 ((O.drop j).take i ++ [d]) = _
  rw [vL_snoc, List.length_take, List.length_drop, Nat.min_eq_left (by omega)]
theorem wn_lt {O : List Nat} (h : Dl B32 O) (j i : Nat) : wn O j i < B32 ^ i := by
  have h1 : vL B32 ((O.drop j).take i) < B32 ^ ((O.drop j).take i).length := vL_lt fun d hd => h d (List.mem_of_mem_drop (List.mem_of_mem_take hd))
  have h2 : B32 ^ ((O.drop j).take i).length ≤ B32 ^ i := Nat.pow_le_pow_right (by decide) (by rw [List.length_take]; omega)
  exact Nat.lt_of_lt_of_le h1 h2
theorem wn_0 (O : List Nat) (j : Nat) : wn O j 0 = 0 := rfl
/-- The two highest limbs of a window tell it but for what is below. -/
theorem wn_top2 {O : List Nat} (hd : Dl B32 O) {j n a b : Nat} (ha : O[j + n]? = some a) (hb : O[j + (n + 1)]? = some b) : (b * B32 + a) * B32 ^ n ≤ wn O j (n + 2) ∧ wn O j (n + 2) < (b * B32 + a + 1) * B32 ^ n := by
  have h1 := wn_at hb
  have h2 := wn_at ha
  have h3 := wn_lt hd j n
  rw [h1, h2, Nat.pow_succ]
  generalize B32 = B at *
  have e1 : B ^ n * B * b = b * B * B ^ n := by ac_rfl
  have e2 : B ^ n * a = a * B ^ n := Nat.mul_comm _ _
  rw [e1, e2, Nat.add_mul, Nat.add_mul, Nat.add_mul, Nat.one_mul]
  generalize b * B * B ^ n = p at *
  generalize a * B ^ n = q at *
  generalize B ^ n = W at *
  omega
/-- The same for the three highest ones. -/
theorem wn_top3 {O : List Nat} (hd : Dl B32 O) {j n a b c : Nat} (ha : O[j + n]? = some a) (hb : O[j + (n + 1)]? = some b) (hc : O[j + (n + 2)]? = some c) : ((c * B32 + b) * B32 + a) * B32 ^ n ≤ wn O j (n + 3) ∧ wn O j (n + 3) < ((c * B32 + b) * B32 + a + 1) * B32 ^ n := by
  have h0 := wn_at hc
  have ⟨h1, h2⟩ := wn_top2 hd ha hb
  rw [h0]
  generalize B32 = B at *
  have e1 : B ^ (n + 2) * c = c * B * B * B ^ n := by
    rw [show n + 2 = n + 1 + 1 from rfl, Nat.pow_succ, Nat.pow_succ]; ac_rfl
  have e2 : ((c * B + b) * B + a) * B ^ n = c * B * B * B ^ n + (b * B + a) * B ^ n := by rw [← Nat.add_mul, Nat.add_mul (c * B) b B, Nat.add_assoc]
  have e3 : ((c * B + b) * B + a + 1) * B ^ n = c * B * B * B ^ n + (b * B + a + 1) * B ^ n := by rw [← Nat.add_mul, Nat.add_mul (c * B) b B, Nat.add_assoc, Nat.add_assoc, Nat.add_assoc]
  rw [e1, e2, e3]
  omega
end Go.Proofs.Ytbfbgkhlngkifaa.Nu

/- Long division: one digit, walked. Plain theorems over the abstract machine.
   Conditions: none. -/
namespace Go.Proofs.Ytbfbgkhlngkifaa.Nu
open Go Go.RowKit Go.Proofs.Ytbfbgkhlngkifaa.Am Go.Proofs.Ytbfbgkhlngkifaa.Af Go.Proofs.Ytbfbgkhlngkifaa.Md
set_option linter.unusedVariables false
set_option linter.unusedSimpArgs false
set_option linter.defProp false
set_option maxRecDepth 20000
set_option maxHeartbeats 2000000

theorem nzN {b : Nat} (h : 0 < b) : (((b : Nat) : Int) = 0) = False := eq_false (by omega)
theorem u3_rd {h : Hp} {b : Nat} {O : List Nat} (hg : h.get b = some ⟨u3 O, .own⟩) {i d : Nat} (hd : O[i]? = some d) : h.rd b i = some (.int .u32 (d : Int)) := (rd_mk hg).trans (u3_at hd)
theorem lt_l {O : List Nat} {i d : Nat} (h : O[i]? = some d) : i < O.length := (List.getElem?_eq_some_iff.1 h).1
theorem sub_key {p q bor : Nat} (hp : p < 4294967296) (hq : q < 4294967296) (hb : bor ≤ 1) : ∃ D : Nat, IntKind.u64.wrap (IntKind.u64.wrap ((p : Int) - (q : Int)) - (bor : Int)) = (D : Int) ∧ D / 9223372036854775808 ≤ 1 ∧ D % 4294967296 + q + bor = p + 4294967296 * (D / 9223372036854775808) := by
  refine ⟨(IntKind.u64.wrap (IntKind.u64.wrap ((p : Int) - (q : Int)) - (bor : Int))).toNat, ?_, ?_, ?_⟩
  · rw [IntKind.wrap_u64, IntKind.wrap_u64]; omega
  · rw [IntKind.wrap_u64, IntKind.wrap_u64]; omega
  · rw [IntKind.wrap_u64, IntKind.wrap_u64]; omega
theorem mul_lim {q y c : Nat} (hq : q < 4294967296) (hy : y < 4294967296) (hc : c < 4294967296) : q * y < 18446744065119617026 ∧ c + q * y < 18446744073709551616 ∧ (c + q * y) / 4294967296 < 4294967296 := by
  have : q * y ≤ 4294967295 * 4294967295 := Nat.mul_le_mul (by omega) (by omega)
  omega
/-- How the heap stands: the limbs of the number and those of the divisor. -/
structure Dv (h : Hp) (bu : Nat) (O : List Nat) (a : Option Addr) (n c : Nat) (V : List Nat) : Prop where
  wf : Wf h
  gu : h.get bu = some ⟨u3 O, .own⟩
  lv : Lm h a n c V
  ne : ∀ z, At a z → z ≠ bu
theorem Dv.put {h : Hp} {bu n c : Nat} {O O' : List Nat} {a : Option Addr} {V : List Nat} (d : Dv h bu O a n c V) : Dv (h.put bu ⟨u3 O', .own⟩) bu O' a n c V :=
  ⟨d.wf.put (d.wf.lt d.gu), gput, ⟨d.lv.rd.keep d.wf (F := fun z => z = bu) (Fm.put Fm.refl fun _ => rfl) d.ne, d.lv.le, d.lv.dl⟩, d.ne⟩
theorem put_self {h : Hp} {b : Nat} {o : Ob} (e : h.get b = some o) : h.put b o = h := by
  obtain ⟨s, g⟩ := h
  simp only [Hp.put, Hp.mk.injEq, true_and, and_true]
  funext x
  split
  · rename_i hx; subst hx; exact e.symm
  · rfl
theorem two_up {a b X s t : Nat} (e : a + X * s = b + X * t) (ha : a < X) (hb : b < X) : s = t ∧ a = b := by
  have h1 : (a + X * s) / X = s := by rw [Nat.add_mul_div_left _ _ (by omega), Nat.div_eq_of_lt ha, Nat.zero_add]
  have h2 : (b + X * t) / X = t := by rw [Nat.add_mul_div_left _ _ (by omega), Nat.div_eq_of_lt hb, Nat.zero_add]
  have h3 : s = t := by rw [← h1, ← h2, e]
  subst h3
  exact ⟨rfl, by omega⟩
theorem c_digitL {h : Hp} {bu j cu n c : Nat} {U V : List Nat} {a : Option Addr} (d : Dv h bu U a n c V) (hn : 2 ≤ n) (hn2 : n ≤ 400000) (hj : j + n + 1 ≤ U.length) (hcu : n + 1 ≤ cu) (hU : Dl B32 U) (hv1 : 2147483648 ≤ V.getD (n - 1) 0) (hlt : wn U j (n + 1) < vL B32 V * 4294967296) (hjl : U.length ≤ 1000000) :
    ACalls Try.prog 132 [.slice (some ⟨bu, j, none⟩) (n + 1) cu, .slice a n c] h fun v h' => v = .int .u32 ((wn U j (n + 1) / vL B32 V : Nat) : Int) ∧ ∃ O, h' = h.put bu ⟨u3 O, .own⟩ ∧ O.length = U.length ∧ Dl B32 O ∧ (∀ k, k < j ∨ j + n < k → O[k]? = U[k]?) ∧ wn O j (n + 1) = wn U j (n + 1) % vL B32 V := by
  refine num_digit_ok.snd hm rfl fun w => ?_
  rw [WF_eq, num_digit]
  obtain ⟨m, rfl⟩ : ∃ m, n = m + 2 := ⟨n - 2, by omega⟩
  have hVl := d.lv.len
  obtain ⟨v1, hv1e⟩ : ∃ v1, V[m + 1]? = some v1 := ⟨_, List.getElem?_eq_getElem (by omega)⟩
  obtain ⟨v2, hv2e⟩ : ∃ v2, V[m]? = some v2 := ⟨_, List.getElem?_eq_getElem (by omega)⟩
  obtain ⟨un, hun⟩ : ∃ un, U[j + (m + 2)]? = some un := ⟨_, List.getElem?_eq_getElem (by omega)⟩
  obtain ⟨un1, hun1⟩ : ∃ un, U[j + (m + 1)]? = some un := ⟨_, List.getElem?_eq_getElem (by omega)⟩
  obtain ⟨u2, hu2⟩ : ∃ un, U[j + m]? = some un := ⟨_, List.getElem?_eq_getElem (by omega)⟩
  have hv1' : 2147483648 ≤ v1 := by
    have e : V.getD (m + 2 - 1) 0 = v1 := by rw [List.getD_eq_getElem?_getD, show m + 2 - 1 = m + 1 from rfl, hv1e]; rfl
    rw [e] at hv1; exact hv1
  have v1h : v1 < 4294967296 := d.lv.dl.at hv1e
  have v2h : v2 < 4294967296 := d.lv.dl.at hv2e
  have unh : un < 4294967296 := hU.at hun
  have un1h : un1 < 4294967296 := hU.at hun1
  have u2h : u2 < 4294967296 := hU.at hu2
  have hvw : vL B32 V = wn V 0 (m + 2) := by unfold wn; rw [List.drop_zero, List.take_of_length_le (by omega)]
  have kn : Kn B32 (un * 4294967296 + un1) u2 v1 v2 (B32 ^ m) (vL B32 V) (wn U j (m + 2 + 1)) := by
    obtain ⟨p1, p2⟩ := wn_top2 (j := 0) d.lv.dl (show V[0 + m]? = some v2 by rw [Nat.zero_add]; exact hv2e) (show V[0 + (m + 1)]? = some v1 by rw [Nat.zero_add]; exact hv1e)
    obtain ⟨q1, q2⟩ := wn_top3 (j := j) hU hu2 hun1 hun
    rw [← hvw] at p1 p2
    exact ⟨by omega, v2h, u2h, Nat.pow_pos (by decide), p1, p2, q1, q2, hlt⟩
  have qB := kn.qB
  have qI := kn.init
  generalize hQ : wn U j (m + 2 + 1) / vL B32 V = Q at *
  obtain ⟨b1, o1, s1, v1', rfl, f1, e1, rv1⟩ := d.lv.rd.nat (i := m + 1) (by omega)
  rw [hv1e] at e1; cases e1
  obtain ⟨b2, o2, s2, v2', e2, f2, e3, rv2⟩ := d.lv.rd.nat (i := m) (by omega)
  cases e2
  rw [hv2e] at e3; cases e3
  have run := u3_rd d.gu hun
  have run1 := u3_rd d.gu hun1
  have ru2 := u3_rd d.gu hu2
  have eor := or_32 unh un1h
  have s21 : ((m + 2 : Nat) : Int) - 1 = ((m + 1 : Nat) : Int) := by omega
  have s22 : ((m + 2 : Nat) : Int) - 2 = ((m : Nat) : Int) := by omega
  have l1 : m + 2 < m + 2 + 1 := by omega
  have l2 : m + 1 < m + 2 + 1 := by omega
  have l3 : m + 1 < m + 2 := by omega
  have l4 : m < m + 2 := by omega
  have l5 : m < m + 2 + 1 := by omega
  have z1 : ((v1 : Int) = 0) = False := nzN (by omega)
  have topb : un * 4294967296 + un1 < 18446744073709551616 := by omega
  have qd : (un * 4294967296 + un1) / v1 < 8589934592 + 1 := by
    refine (Nat.div_lt_iff_lt_mul (by omega)).2 ?_
    have : 8589934593 * 2147483648 ≤ 8589934593 * v1 := Nat.mul_le_mul_left _ hv1'
    omega
  have rmd : (un * 4294967296 + un1) % v1 < v1 := Nat.mod_lt _ (by omega)
  have hdm : (un * 4294967296 + un1) / v1 * v1 + (un * 4294967296 + un1) % v1 = un * 4294967296 + un1 := by rw [Nat.mul_comm]; exact Nat.div_add_mod _ _
  generalize hq0 : (un * 4294967296 + un1) / v1 = q0 at *
  generalize hr0 : (un * 4294967296 + un1) % v1 = r0 at *
  simp +contextual (disch := omega) only [↓AM, ↓AV, AP, CQ, CN, i64, u64, run, run1, rv1, f1, eor, s21, l1, l2, l3, z1, ntdiv, ntmod, hq0, hr0]
  -- LOOP1
  refine WL.mk (fun k t h' => ∃ q r : Nat, h' = h ∧ q * v1 + r = un * 4294967296 + un1 ∧ Q ≤ q ∧ r < 4294967296 ∧ q ≤ 8589934592 ∧ k = q ∧ t = [(0, some (.slice (some ⟨bu, j, none⟩) (m + 2 + 1) cu)), (1, some (.slice (some ⟨b1, o1, s1⟩) (m + 2) c)), (5, some (.int .i64 ((m + 2 : Nat) : Int))), (7, some (.int .u64 (q : Int))), (8, some (.int .u64 (r : Int)))]) ⟨q0, q0, r0, rfl, hdm, qI, by omega, by omega, rfl, rfl⟩ ?_
  rintro q t h ⟨_, r, rfl, hqr, hQq, hr, hql, rfl, rfl⟩
  by_cases hgo : 4294967296 ≤ q ∨ r * 4294967296 + u2 < q * v2
  · have hdec := kn.dec hqr hgo
    obtain ⟨q, rfl⟩ : ∃ q', q = q' + 1 := ⟨q - 1, by omega⟩
    have hqr' : q * v1 + (r + v1) = un * 4294967296 + un1 := by rw [← hqr, Nat.add_mul, Nat.one_mul]; omega
    have hQ1 : Q ≤ q := by omega
    by_cases hrB : 4294967296 ≤ r + v1
    · have e7 : ((0 : Int) < (((r + v1) / 4294967296 : Nat) : Int)) = True := eq_true (by omega)
      obtain ⟨hqB, hq2⟩ := kn.brk (B := B32) hqr' hrB
      rw [hQ] at hq2
      by_cases hbig : 4294967296 ≤ q + 1
      · have e5 : ((0 : Int) < (((q + 1) / 4294967296 : Nat) : Int)) = True := eq_true (by omega)
        simp +contextual (disch := omega) only [↓AM, ↓AV, AP, CQ, CN, i64, u64, rv1, f1, s21, l3, e5, e7]
        have hs0 := put_self d.gu
        refine WL.mk (fun k t h' => ∃ O : List Nat, h' = h.put bu ⟨u3 O, .own⟩ ∧ O.length = U.length ∧ Dl B32 O ∧ ∃ i cy bor : Nat, i ≤ m + 2 ∧ k = m + 2 - i ∧ cy < 4294967296 ∧ bor ≤ 1 ∧ (∀ k, k < j ∨ j + i ≤ k → O[k]? = U[k]?) ∧ wn O j i + q * vL B32 (V.take i) = wn U j i + B32 ^ i * (bor + cy) ∧
            t = [(0, some (.slice (some ⟨bu, j, none⟩) (m + 2 + 1) cu)), (1, some (.slice (some ⟨b1, o1, s1⟩) (m + 2) c)), (5, some (.int .i64 ((m + 2 : Nat) : Int))), (7, some (.int .u64 (q : Int))), (9, some (.int .u64 (cy : Int))), (10, some (.int .u64 (bor : Int))), (85, some (.slice (some ⟨b1, o1, s1⟩) (m + 2) c)), (86, some (.int .i64 ((m + 2 : Nat) : Int))), (87, some (.int .i64 (i : Int)))])
          ⟨m + 2, U, hs0.symm, rfl, hU, 0, 0, 0, by omega, rfl, by decide, by decide, fun k _ => rfl, by simp [wn, vL], rfl⟩ ?_
        rintro k t _ ⟨O, rfl, hOl, hOd, i, cy, bor, hi, rfl, hcy, hbor, hout, hv, rfl⟩
        have dO := d.put (O' := O)
        by_cases hin : i < m + 2
        · obtain ⟨b3, o3, s3, y, e4, f3, hy, ry⟩ := dO.lv.rd.nat (i := i) hin
          cases e4
          have hyl : y < 4294967296 := d.lv.dl.at hy
          obtain ⟨u, hu⟩ : ∃ u, O[j + i]? = some u := ⟨_, List.getElem?_eq_getElem (by omega)⟩
          have hul : u < 4294967296 := hOd.at hu
          have hij := lt_l hu
          have huU : U[j + i]? = some u := by rw [← hout (j + i) (.inr (Nat.le_refl _))]; exact hu
          have ru := u3_rd dO.gu hu
          obtain ⟨m1, m2, m3⟩ := mul_lim hqB hyl hcy
          have m4 : (cy + q * y) % 4294967296 < 4294967296 := Nat.mod_lt _ (by decide)
          obtain ⟨D, kD, kD2, kD3⟩ := sub_key hul m4 hbor
          have hi2 : i < m + 2 + 1 := by omega
          have ul : leIs (j + i + 1) (u3 O) = true := by rw [← leIs_p, u3_len]; omega
          have us : spl (u3 O) (j + i) [.int .u32 ((D % 4294967296 : Nat) : Int)] = u3 (O.set (j + i) (D % 4294967296)) := spl_u3 hij
          have gO : (h.put bu ⟨u3 O, .own⟩).get bu = some ⟨u3 O, .own⟩ := gput
          have Dl64 : D < 18446744073709551616 := by omega
          simp +contextual (disch := omega) only [↓AM, ↓AV, AP, CQ, CN, i64, u64, gput, rput, put_put, hin, f1, ry, ru, u3_at hu, hi2, kD, shr_63, ul, us]
          refine ⟨m + 2 - (i + 1), by omega, O.set (j + i) (D % 4294967296), rfl, by simp [hOl], hOd.set (Nat.mod_lt _ (by decide)), i + 1, (cy + q * y) / 4294967296, D / 9223372036854775808, by omega, rfl, m3, kD2, ?_, ?_, rfl⟩
          · intro k hk
            rw [List.getElem?_set_ne (by omega)]
            exact hout k (by omega)
          · rw [wn_set hij, wn_at huU, take_u3 hy, Nat.pow_succ]
            have e5 : D % 4294967296 + (q * y) + bor + cy = u + 4294967296 * (D / 9223372036854775808 + (cy + q * y) / 4294967296) := by omega
            have e6 : B32 ^ i * (D % 4294967296) + B32 ^ i * (q * y) + B32 ^ i * (bor + cy) = B32 ^ i * u + B32 ^ i * B32 * (D / 9223372036854775808 + (cy + q * y) / 4294967296) := by
              rw [← Nat.mul_add, ← Nat.mul_add, Nat.mul_assoc, ← Nat.mul_add]; congr 1
              show D % 4294967296 + q * y + (bor + cy) = u + 4294967296 * (D / 9223372036854775808 + (cy + q * y) / 4294967296)
              omega
            have e7 : q * (vL B32 (V.take i) + B32 ^ i * y) = q * vL B32 (V.take i) + B32 ^ i * (q * y) := by rw [Nat.mul_add]; congr 1; ac_rfl
            rw [e7]
            omega
        have hie : i = m + 2 := by omega
        subst hie
        rw [List.take_of_length_le (l := V) (by omega)] at hv
        obtain ⟨m4, hO4⟩ : ∃ z, O[j + (m + 2)]? = some z := ⟨_, List.getElem?_eq_getElem (by omega)⟩
        have hm4 : m4 = un := by
          have := hout (j + (m + 2)) (.inr (Nat.le_refl _))
          rw [hO4, hun] at this
          exact Option.some.inj this
        subst hm4
        have hij := lt_l hO4
        have ru := u3_rd dO.gu hO4
        obtain ⟨D, kD, kD2, kD3⟩ := sub_key unh hcy hbor
        have ul : leIs (j + (m + 2) + 1) (u3 O) = true := by rw [← leIs_p, u3_len]; omega
        have us : spl (u3 O) (j + (m + 2)) [.int .u32 ((D % 4294967296 : Nat) : Int)] = u3 (O.set (j + (m + 2)) (D % 4294967296)) := spl_u3 hij
        have Dl64 : D < 18446744073709551616 := by omega
        have hw2 : wn (O.set (j + (m + 2)) (D % 4294967296)) j (m + 2 + 1) = wn O j (m + 2) + B32 ^ (m + 2) * (D % 4294967296) := wn_set hij
        have hwU : wn U j (m + 2 + 1) = wn U j (m + 2) + B32 ^ (m + 2) * m4 := wn_at hun
        have e8 : B32 ^ (m + 2) * (D % 4294967296) + B32 ^ (m + 2) * (bor + cy) = B32 ^ (m + 2) * m4 + B32 ^ (m + 2) * (4294967296 * (D / 9223372036854775808)) := by
          rw [← Nat.mul_add, ← Nat.mul_add]; congr 1; omega
        have hQV : Q * vL B32 V ≤ wn U j (m + 2 + 1) := by rw [← hQ]; exact kn.qV
        have hQV2 : wn U j (m + 2 + 1) % vL B32 V + Q * vL B32 V = wn U j (m + 2 + 1) := by rw [← hQ, Nat.mul_comm]; exact Nat.mod_add_div _ _
        have hQV3 : wn U j (m + 2 + 1) % vL B32 V < vL B32 V := Nat.mod_lt _ kn.v0
        have hOd2 : Dl B32 (O.set (j + (m + 2)) (D % 4294967296)) := hOd.set (Nat.mod_lt _ (by decide))
        have hPl : (O.set (j + (m + 2)) (D % 4294967296)).length = U.length := by simp [hOl]
        have hwl := wn_lt hOd2 j (m + 2 + 1)
        by_cases hz : D / 9223372036854775808 = 0
        · have ez : EqI ((D / 9223372036854775808 : Nat) : Int) 0 = True := by rw [hz]; exact eqI_self
          have kS : (m4 : Int) - (cy : Int) - (bor : Int) = (D : Int) := by rw [← kD, IntKind.wrap_u64, IntKind.wrap_u64]; omega
          simp +contextual (disch := omega) only [↓AM, ↓AV, AP, CQ, CN, i64, u64, gput, rput, put_put, hin, u3_at hO4, l1, kD, kS, shr_63, ul, us, ez]
          simp only [hz, Nat.mul_zero, Nat.add_zero] at e8
          have hle : q * vL B32 V ≤ wn U j (m + 2 + 1) := by omega
          have hqQ : q ≤ Q := by rw [← hQ]; exact (Nat.le_div_iff_mul_le kn.v0).2 hle
          have hqe : q = Q := by omega
          subst hqe
          refine ⟨by rw [Nat.mod_eq_of_lt hqB], _, rfl, hPl, hOd2, ?_, by omega⟩
          intro k hk
          rw [List.getElem?_set_ne (by omega)]
          exact hout k (by omega)
        have hz1 : D / 9223372036854775808 = 1 := by omega
        have ez : EqI ((D / 9223372036854775808 : Nat) : Int) 0 = False := eq_false (by unfold EqI; omega)
        simp +contextual (disch := omega) only [↓AM, ↓AV, AP, CQ, CN, i64, u64, gput, rput, put_put, hin, u3_at hO4, l1, kD, shr_63, ul, us, ez]
        rw [hz1, Nat.mul_one] at e8
        have epow : B32 ^ (m + 2) * 4294967296 = B32 ^ (m + 2 + 1) := (Nat.pow_succ ..).symm
        rw [epow] at e8
        have hgt : wn U j (m + 2 + 1) < q * vL B32 V := by omega
        have hqe : q = Q + 1 := by
          have : Q < q := by
            refine Nat.lt_of_not_le fun hh => ?_
            have := Nat.mul_le_mul_right (vL B32 V) hh
            omega
          omega
        subst hqe
        have dP := d.put (O' := O.set (j + (m + 2)) (D % 4294967296))
        have hP4 : (O.set (j + (m + 2)) (D % 4294967296))[j + (m + 2)]? = some (D % 4294967296) := List.getElem?_set_self hij
        have houtP : ∀ k, k < j ∨ j + (m + 2) < k → (O.set (j + (m + 2)) (D % 4294967296))[k]? = U[k]? := fun k hk => by
          rw [List.getElem?_set_ne (by omega)]
          exact hout k (by omega)
        have hwP : wn (O.set (j + (m + 2)) (D % 4294967296)) j (m + 2 + 1) = wn (O.set (j + (m + 2)) (D % 4294967296)) j (m + 2) + B32 ^ (m + 2) * (D % 4294967296) := wn_at hP4
        generalize O.set (j + (m + 2)) (D % 4294967296) = P at *
        refine WL.mk (fun k t h' => ∃ R : List Nat, h' = h.put bu ⟨u3 R, .own⟩ ∧ R.length = U.length ∧ Dl B32 R ∧ ∃ i ba : Nat, i ≤ m + 2 ∧ k = m + 2 - i ∧ ba ≤ 1 ∧ (∀ k, k < j ∨ j + i ≤ k → R[k]? = P[k]?) ∧ wn R j i + B32 ^ i * ba = wn P j i + vL B32 (V.take i) ∧
            t = [(0, some (.slice (some ⟨bu, j, none⟩) (m + 2 + 1) cu)), (5, some (.int .i64 ((m + 2 : Nat) : Int))), (7, some (.int .u64 ((Q + 1 : Nat) : Int))), (15, some (.int .u64 (ba : Int))), (138, some (.slice (some ⟨b1, o1, s1⟩) (m + 2) c)), (139, some (.int .i64 ((m + 2 : Nat) : Int))), (140, some (.int .i64 (i : Int)))])
          ⟨m + 2, P, rfl, hPl, hOd2, 0, 0, by omega, rfl, by decide, fun k _ => rfl, by simp [wn, vL], rfl⟩ ?_
        rintro k t _ ⟨R, rfl, hRl, hRd, i, ba, hi, rfl, hba, houtR, hvR, rfl⟩
        have dR := d.put (O' := R)
        by_cases hin : i < m + 2
        · obtain ⟨b3, o3, s3, y, e4, f3, hy, ry⟩ := dR.lv.rd.nat (i := i) hin
          cases e4
          have hyl : y < 4294967296 := d.lv.dl.at hy
          obtain ⟨u, hu⟩ : ∃ u, R[j + i]? = some u := ⟨_, List.getElem?_eq_getElem (by omega)⟩
          have hul : u < 4294967296 := hRd.at hu
          have hij := lt_l hu
          have huP : P[j + i]? = some u := by rw [← houtR (j + i) (.inr (Nat.le_refl _))]; exact hu
          have ru := u3_rd dR.gu hu
          have hi2 : i < m + 2 + 1 := by omega
          have ul : leIs (j + i + 1) (u3 R) = true := by rw [← leIs_p, u3_len]; omega
          have us : spl (u3 R) (j + i) [.int .u32 (((ba + (u + y)) % 4294967296 : Nat) : Int)] = u3 (R.set (j + i) ((ba + (u + y)) % 4294967296)) := spl_u3 hij
          simp +contextual (disch := omega) only [↓AM, ↓AV, AP, CQ, CN, i64, u64, gput, rput, put_put, hin, f1, ry, ru, u3_at hu, hi2, ul, us]
          refine ⟨m + 2 - (i + 1), by omega, R.set (j + i) ((ba + (u + y)) % 4294967296), rfl, by simp [hRl], hRd.set (Nat.mod_lt _ (by decide)), i + 1, (ba + (u + y)) / 4294967296, by omega, rfl, by omega, ?_, ?_, rfl⟩
          · intro k hk
            rw [List.getElem?_set_ne (by omega)]
            exact houtR k (by omega)
          · rw [wn_set hij, wn_at huP, take_u3 hy, Nat.pow_succ]
            have e6 : B32 ^ i * ((ba + (u + y)) % 4294967296) + B32 ^ i * B32 * ((ba + (u + y)) / 4294967296) = B32 ^ i * ba + (B32 ^ i * u + B32 ^ i * y) := by
              rw [← Nat.mul_add, ← Nat.mul_add, Nat.mul_assoc, ← Nat.mul_add]; congr 1; exact Nat.mod_add_div _ 4294967296
            omega
        have hie : i = m + 2 := by omega
        subst hie
        rw [List.take_of_length_le (l := V) (by omega)] at hvR
        have hR4 : R[j + (m + 2)]? = some (D % 4294967296) := by rw [houtR (j + (m + 2)) (.inr (Nat.le_refl _))]; exact hP4
        have hij := lt_l hR4
        have hRw := wn_lt hRd j (m + 2)
        have hVw : vL B32 V < B32 ^ (m + 2) := by have := vL_lt d.lv.dl; rw [hVl] at this; exact this
        obtain ⟨t1, t2⟩ := two_up (a := wn R j (m + 2)) (b := wn U j (m + 2 + 1) % vL B32 V) (X := B32 ^ (m + 2)) (s := D % 4294967296 + ba) (t := 4294967296) (by
          rw [Nat.mul_add, epow]
          have e9 : (Q + 1) * vL B32 V = Q * vL B32 V + vL B32 V := by rw [Nat.add_mul, Nat.one_mul]
          omega) hRw (by omega)
        have ul : leIs (j + (m + 2) + 1) (u3 R) = true := by rw [← leIs_p, u3_len]; omega
        have us : spl (u3 R) (j + (m + 2)) [.int .u32 0] = u3 (R.set (j + (m + 2)) 0) := spl_u3 hij
        have wz : IntKind.u32.wrap (((D % 4294967296 : Nat) : Int) + ((ba % 4294967296 : Nat) : Int)) = 0 := by
          rw [IntKind.wrap_u32]; omega
        have wz2 : IntKind.u32.wrap ((D % 4294967296 + ba % 4294967296 : Nat) : Int) = 0 := by
          rw [IntKind.wrap_u32]; omega
        have wz3 : (((D % 4294967296 + ba % 4294967296) % 4294967296 : Nat) : Int) = 0 := by omega
        simp +contextual (disch := omega) only [↓AM, ↓AV, AP, CQ, CN, i64, u64, gput, rput, put_put, hin, u3_at hR4, l1, ul, us, wz, wz2, wz3]
        refine ⟨by rw [Nat.mod_eq_of_lt (by omega)], _, rfl, by simp [hRl], hRd.set (by decide), ?_, ?_⟩
        · intro k hk
          rw [List.getElem?_set_ne (by omega), houtR k (by omega)]
          exact houtP k hk
        · rw [wn_set hij, Nat.mul_zero, Nat.add_zero]
          exact t2
      · have e5 : ((0 : Int) < (((q + 1) / 4294967296 : Nat) : Int)) = False := eq_false (by omega)
        have hcmp : r * 4294967296 + u2 < (q + 1) * v2 := hgo.resolve_left hbig
        have mb : (q + 1) * v2 ≤ 4294967296 * 4294967295 := Nat.mul_le_mul (by omega) (by omega)
        have eor2 := or_32 hr u2h
        simp +contextual (disch := omega) only [↓AM, ↓AV, AP, CQ, CN, i64, u64, rv1, rv2, ru2, f1, s21, s22, l3, l4, l5, e5, e7, eor2, hcmp]
        have hs0 := put_self d.gu
        refine WL.mk (fun k t h' => ∃ O : List Nat, h' = h.put bu ⟨u3 O, .own⟩ ∧ O.length = U.length ∧ Dl B32 O ∧ ∃ i cy bor : Nat, i ≤ m + 2 ∧ k = m + 2 - i ∧ cy < 4294967296 ∧ bor ≤ 1 ∧ (∀ k, k < j ∨ j + i ≤ k → O[k]? = U[k]?) ∧ wn O j i + q * vL B32 (V.take i) = wn U j i + B32 ^ i * (bor + cy) ∧
            t = [(0, some (.slice (some ⟨bu, j, none⟩) (m + 2 + 1) cu)), (1, some (.slice (some ⟨b1, o1, s1⟩) (m + 2) c)), (5, some (.int .i64 ((m + 2 : Nat) : Int))), (7, some (.int .u64 (q : Int))), (9, some (.int .u64 (cy : Int))), (10, some (.int .u64 (bor : Int))), (85, some (.slice (some ⟨b1, o1, s1⟩) (m + 2) c)), (86, some (.int .i64 ((m + 2 : Nat) : Int))), (87, some (.int .i64 (i : Int)))])
          ⟨m + 2, U, hs0.symm, rfl, hU, 0, 0, 0, by omega, rfl, by decide, by decide, fun k _ => rfl, by simp [wn, vL], rfl⟩ ?_
        rintro k t _ ⟨O, rfl, hOl, hOd, i, cy, bor, hi, rfl, hcy, hbor, hout, hv, rfl⟩
        have dO := d.put (O' := O)
        by_cases hin : i < m + 2
        · obtain ⟨b3, o3, s3, y, e4, f3, hy, ry⟩ := dO.lv.rd.nat (i := i) hin
          cases e4
          have hyl : y < 4294967296 := d.lv.dl.at hy
          obtain ⟨u, hu⟩ : ∃ u, O[j + i]? = some u := ⟨_, List.getElem?_eq_getElem (by omega)⟩
          have hul : u < 4294967296 := hOd.at hu
          have hij := lt_l hu
          have huU : U[j + i]? = some u := by rw [← hout (j + i) (.inr (Nat.le_refl _))]; exact hu
          have ru := u3_rd dO.gu hu
          obtain ⟨m1, m2, m3⟩ := mul_lim hqB hyl hcy
          have m4 : (cy + q * y) % 4294967296 < 4294967296 := Nat.mod_lt _ (by decide)
          obtain ⟨D, kD, kD2, kD3⟩ := sub_key hul m4 hbor
          have hi2 : i < m + 2 + 1 := by omega
          have ul : leIs (j + i + 1) (u3 O) = true := by rw [← leIs_p, u3_len]; omega
          have us : spl (u3 O) (j + i) [.int .u32 ((D % 4294967296 : Nat) : Int)] = u3 (O.set (j + i) (D % 4294967296)) := spl_u3 hij
          have gO : (h.put bu ⟨u3 O, .own⟩).get bu = some ⟨u3 O, .own⟩ := gput
          have Dl64 : D < 18446744073709551616 := by omega
          simp +contextual (disch := omega) only [↓AM, ↓AV, AP, CQ, CN, i64, u64, gput, rput, put_put, hin, f1, ry, ru, u3_at hu, hi2, kD, shr_63, ul, us]
          refine ⟨m + 2 - (i + 1), by omega, O.set (j + i) (D % 4294967296), rfl, by simp [hOl], hOd.set (Nat.mod_lt _ (by decide)), i + 1, (cy + q * y) / 4294967296, D / 9223372036854775808, by omega, rfl, m3, kD2, ?_, ?_, rfl⟩
          · intro k hk
            rw [List.getElem?_set_ne (by omega)]
            exact hout k (by omega)
          · rw [wn_set hij, wn_at huU, take_u3 hy, Nat.pow_succ]
            have e5 : D % 4294967296 + (q * y) + bor + cy = u + 4294967296 * (D / 9223372036854775808 + (cy + q * y) / 4294967296) := by omega
            have e6 : B32 ^ i * (D % 4294967296) + B32 ^ i * (q * y) + B32 ^ i * (bor + cy) = B32 ^ i * u + B32 ^ i * B32 * (D / 9223372036854775808 + (cy + q * y) / 4294967296) := by
              rw [← Nat.mul_add, ← Nat.mul_add, Nat.mul_assoc, ← Nat.mul_add]; congr 1
              show D % 4294967296 + q * y + (bor + cy) = u + 4294967296 * (D / 9223372036854775808 + (cy + q * y) / 4294967296)
              omega
            have e7 : q * (vL B32 (V.take i) + B32 ^ i * y) = q * vL B32 (V.take i) + B32 ^ i * (q * y) := by rw [Nat.mul_add]; congr 1; ac_rfl
            rw [e7]
            omega
        have hie : i = m + 2 := by omega
        subst hie
        rw [List.take_of_length_le (l := V) (by omega)] at hv
        obtain ⟨m4, hO4⟩ : ∃ z, O[j + (m + 2)]? = some z := ⟨_, List.getElem?_eq_getElem (by omega)⟩
        have hm4 : m4 = un := by
          have := hout (j + (m + 2)) (.inr (Nat.le_refl _))
          rw [hO4, hun] at this
          exact Option.some.inj this
        subst hm4
        have hij := lt_l hO4
        have ru := u3_rd dO.gu hO4
        obtain ⟨D, kD, kD2, kD3⟩ := sub_key unh hcy hbor
        have ul : leIs (j + (m + 2) + 1) (u3 O) = true := by rw [← leIs_p, u3_len]; omega
        have us : spl (u3 O) (j + (m + 2)) [.int .u32 ((D % 4294967296 : Nat) : Int)] = u3 (O.set (j + (m + 2)) (D % 4294967296)) := spl_u3 hij
        have Dl64 : D < 18446744073709551616 := by omega
        have hw2 : wn (O.set (j + (m + 2)) (D % 4294967296)) j (m + 2 + 1) = wn O j (m + 2) + B32 ^ (m + 2) * (D % 4294967296) := wn_set hij
        have hwU : wn U j (m + 2 + 1) = wn U j (m + 2) + B32 ^ (m + 2) * m4 := wn_at hun
        have e8 : B32 ^ (m + 2) * (D % 4294967296) + B32 ^ (m + 2) * (bor + cy) = B32 ^ (m + 2) * m4 + B32 ^ (m + 2) * (4294967296 * (D / 9223372036854775808)) := by
          rw [← Nat.mul_add, ← Nat.mul_add]; congr 1; omega
        have hQV : Q * vL B32 V ≤ wn U j (m + 2 + 1) := by rw [← hQ]; exact kn.qV
        have hQV2 : wn U j (m + 2 + 1) % vL B32 V + Q * vL B32 V = wn U j (m + 2 + 1) := by rw [← hQ, Nat.mul_comm]; exact Nat.mod_add_div _ _
        have hQV3 : wn U j (m + 2 + 1) % vL B32 V < vL B32 V := Nat.mod_lt _ kn.v0
        have hOd2 : Dl B32 (O.set (j + (m + 2)) (D % 4294967296)) := hOd.set (Nat.mod_lt _ (by decide))
        have hPl : (O.set (j + (m + 2)) (D % 4294967296)).length = U.length := by simp [hOl]
        have hwl := wn_lt hOd2 j (m + 2 + 1)
        by_cases hz : D / 9223372036854775808 = 0
        · have ez : EqI ((D / 9223372036854775808 : Nat) : Int) 0 = True := by rw [hz]; exact eqI_self
          have kS : (m4 : Int) - (cy : Int) - (bor : Int) = (D : Int) := by rw [← kD, IntKind.wrap_u64, IntKind.wrap_u64]; omega
          simp +contextual (disch := omega) only [↓AM, ↓AV, AP, CQ, CN, i64, u64, gput, rput, put_put, hin, u3_at hO4, l1, kD, kS, shr_63, ul, us, ez]
          simp only [hz, Nat.mul_zero, Nat.add_zero] at e8
          have hle : q * vL B32 V ≤ wn U j (m + 2 + 1) := by omega
          have hqQ : q ≤ Q := by rw [← hQ]; exact (Nat.le_div_iff_mul_le kn.v0).2 hle
          have hqe : q = Q := by omega
          subst hqe
          refine ⟨by rw [Nat.mod_eq_of_lt hqB], _, rfl, hPl, hOd2, ?_, by omega⟩
          intro k hk
          rw [List.getElem?_set_ne (by omega)]
          exact hout k (by omega)
        have hz1 : D / 9223372036854775808 = 1 := by omega
        have ez : EqI ((D / 9223372036854775808 : Nat) : Int) 0 = False := eq_false (by unfold EqI; omega)
        simp +contextual (disch := omega) only [↓AM, ↓AV, AP, CQ, CN, i64, u64, gput, rput, put_put, hin, u3_at hO4, l1, kD, shr_63, ul, us, ez]
        rw [hz1, Nat.mul_one] at e8
        have epow : B32 ^ (m + 2) * 4294967296 = B32 ^ (m + 2 + 1) := (Nat.pow_succ ..).symm
        rw [epow] at e8
        have hgt : wn U j (m + 2 + 1) < q * vL B32 V := by omega
        have hqe : q = Q + 1 := by
          have : Q < q := by
            refine Nat.lt_of_not_le fun hh => ?_
            have := Nat.mul_le_mul_right (vL B32 V) hh
            omega
          omega
        subst hqe
        have dP := d.put (O' := O.set (j + (m + 2)) (D % 4294967296))
        have hP4 : (O.set (j + (m + 2)) (D % 4294967296))[j + (m + 2)]? = some (D % 4294967296) := List.getElem?_set_self hij
        have houtP : ∀ k, k < j ∨ j + (m + 2) < k → (O.set (j + (m + 2)) (D % 4294967296))[k]? = U[k]? := fun k hk => by
          rw [List.getElem?_set_ne (by omega)]
          exact hout k (by omega)
        have hwP : wn (O.set (j + (m + 2)) (D % 4294967296)) j (m + 2 + 1) = wn (O.set (j + (m + 2)) (D % 4294967296)) j (m + 2) + B32 ^ (m + 2) * (D % 4294967296) := wn_at hP4
        generalize O.set (j + (m + 2)) (D % 4294967296) = P at *
        refine WL.mk (fun k t h' => ∃ R : List Nat, h' = h.put bu ⟨u3 R, .own⟩ ∧ R.length = U.length ∧ Dl B32 R ∧ ∃ i ba : Nat, i ≤ m + 2 ∧ k = m + 2 - i ∧ ba ≤ 1 ∧ (∀ k, k < j ∨ j + i ≤ k → R[k]? = P[k]?) ∧ wn R j i + B32 ^ i * ba = wn P j i + vL B32 (V.take i) ∧
            t = [(0, some (.slice (some ⟨bu, j, none⟩) (m + 2 + 1) cu)), (5, some (.int .i64 ((m + 2 : Nat) : Int))), (7, some (.int .u64 ((Q + 1 : Nat) : Int))), (15, some (.int .u64 (ba : Int))), (138, some (.slice (some ⟨b1, o1, s1⟩) (m + 2) c)), (139, some (.int .i64 ((m + 2 : Nat) : Int))), (140, some (.int .i64 (i : Int)))])
          ⟨m + 2, P, rfl, hPl, hOd2, 0, 0, by omega, rfl, by decide, fun k _ => rfl, by simp [wn, vL], rfl⟩ ?_
        rintro k t _ ⟨R, rfl, hRl, hRd, i, ba, hi, rfl, hba, houtR, hvR, rfl⟩
        have dR := d.put (O' := R)
        by_cases hin : i < m + 2
        · obtain ⟨b3, o3, s3, y, e4, f3, hy, ry⟩ := dR.lv.rd.nat (i := i) hin
          cases e4
          have hyl : y < 4294967296 := d.lv.dl.at hy
          obtain ⟨u, hu⟩ : ∃ u, R[j + i]? = some u := ⟨_, List.getElem?_eq_getElem (by omega)⟩
          have hul : u < 4294967296 := hRd.at hu
          have hij := lt_l hu
          have huP : P[j + i]? = some u := by rw [← houtR (j + i) (.inr (Nat.le_refl _))]; exact hu
          have ru := u3_rd dR.gu hu
          have hi2 : i < m + 2 + 1 := by omega
          have ul : leIs (j + i + 1) (u3 R) = true := by rw [← leIs_p, u3_len]; omega
          have us : spl (u3 R) (j + i) [.int .u32 (((ba + (u + y)) % 4294967296 : Nat) : Int)] = u3 (R.set (j + i) ((ba + (u + y)) % 4294967296)) := spl_u3 hij
          simp +contextual (disch := omega) only [↓AM, ↓AV, AP, CQ, CN, i64, u64, gput, rput, put_put, hin, f1, ry, ru, u3_at hu, hi2, ul, us]
          refine ⟨m + 2 - (i + 1), by omega, R.set (j + i) ((ba + (u + y)) % 4294967296), rfl, by simp [hRl], hRd.set (Nat.mod_lt _ (by decide)), i + 1, (ba + (u + y)) / 4294967296, by omega, rfl, by omega, ?_, ?_, rfl⟩
          · intro k hk
            rw [List.getElem?_set_ne (by omega)]
            exact houtR k (by omega)
          · rw [wn_set hij, wn_at huP, take_u3 hy, Nat.pow_succ]
            have e6 : B32 ^ i * ((ba + (u + y)) % 4294967296) + B32 ^ i * B32 * ((ba + (u + y)) / 4294967296) = B32 ^ i * ba + (B32 ^ i * u + B32 ^ i * y) := by
              rw [← Nat.mul_add, ← Nat.mul_add, Nat.mul_assoc, ← Nat.mul_add]; congr 1; exact Nat.mod_add_div _ 4294967296
            omega
        have hie : i = m + 2 := by omega
        subst hie
        rw [List.take_of_length_le (l := V) (by omega)] at hvR
        have hR4 : R[j + (m + 2)]? = some (D % 4294967296) := by rw [houtR (j + (m + 2)) (.inr (Nat.le_refl _))]; exact hP4
        have hij := lt_l hR4
        have hRw := wn_lt hRd j (m + 2)
        have hVw : vL B32 V < B32 ^ (m + 2) := by have := vL_lt d.lv.dl; rw [hVl] at this; exact this
        obtain ⟨t1, t2⟩ := two_up (a := wn R j (m + 2)) (b := wn U j (m + 2 + 1) % vL B32 V) (X := B32 ^ (m + 2)) (s := D % 4294967296 + ba) (t := 4294967296) (by
          rw [Nat.mul_add, epow]
          have e9 : (Q + 1) * vL B32 V = Q * vL B32 V + vL B32 V := by rw [Nat.add_mul, Nat.one_mul]
          omega) hRw (by omega)
        have ul : leIs (j + (m + 2) + 1) (u3 R) = true := by rw [← leIs_p, u3_len]; omega
        have us : spl (u3 R) (j + (m + 2)) [.int .u32 0] = u3 (R.set (j + (m + 2)) 0) := spl_u3 hij
        have wz : IntKind.u32.wrap (((D % 4294967296 : Nat) : Int) + ((ba % 4294967296 : Nat) : Int)) = 0 := by
          rw [IntKind.wrap_u32]; omega
        have wz2 : IntKind.u32.wrap ((D % 4294967296 + ba % 4294967296 : Nat) : Int) = 0 := by
          rw [IntKind.wrap_u32]; omega
        have wz3 : (((D % 4294967296 + ba % 4294967296) % 4294967296 : Nat) : Int) = 0 := by omega
        simp +contextual (disch := omega) only [↓AM, ↓AV, AP, CQ, CN, i64, u64, gput, rput, put_put, hin, u3_at hR4, l1, ul, us, wz, wz2, wz3]
        refine ⟨by rw [Nat.mod_eq_of_lt (by omega)], _, rfl, by simp [hRl], hRd.set (by decide), ?_, ?_⟩
        · intro k hk
          rw [List.getElem?_set_ne (by omega), houtR k (by omega)]
          exact houtP k hk
        · rw [wn_set hij, Nat.mul_zero, Nat.add_zero]
          exact t2
    · have e7 : ((0 : Int) < (((r + v1) / 4294967296 : Nat) : Int)) = False := eq_false (by omega)
      by_cases hbig : 4294967296 ≤ q + 1
      · have e5 : ((0 : Int) < (((q + 1) / 4294967296 : Nat) : Int)) = True := eq_true (by omega)
        simp +contextual (disch := omega) only [↓AM, ↓AV, AP, CQ, CN, i64, u64, rv1, f1, s21, l3, e5, e7]
        exact ⟨q, by omega, q, r + v1, hqr', hQ1, by omega, by omega, rfl, rfl⟩
      · have e5 : ((0 : Int) < (((q + 1) / 4294967296 : Nat) : Int)) = False := eq_false (by omega)
        have hcmp : r * 4294967296 + u2 < (q + 1) * v2 := hgo.resolve_left hbig
        have mb : (q + 1) * v2 ≤ 4294967296 * 4294967295 := Nat.mul_le_mul (by omega) (by omega)
        have eor2 := or_32 hr u2h
        simp +contextual (disch := omega) only [↓AM, ↓AV, AP, CQ, CN, i64, u64, rv1, rv2, ru2, f1, s21, s22, l3, l4, l5, e5, e7, eor2, hcmp]
        exact ⟨q, by omega, q, r + v1, hqr', hQ1, by omega, by omega, rfl, rfl⟩
  · have hqB : q < 4294967296 := by omega
    have hcmp : ¬ r * 4294967296 + u2 < q * v2 := fun hh => hgo (.inr hh)
    have e5 : ((0 : Int) < ((q / 4294967296 : Nat) : Int)) = False := eq_false (by omega)
    have hq2 := kn.fin (B := B32) hqr hqB (Nat.le_of_not_lt hcmp)
    rw [hQ] at hq2
    have mb : q * v2 ≤ 4294967296 * 4294967295 := Nat.mul_le_mul (by omega) (by omega)
    have eor2 := or_32 hr u2h
    simp +contextual (disch := omega) only [↓AM, ↓AV, AP, CQ, CN, i64, u64, rv1, rv2, ru2, f1, s21, s22, l3, l4, l5, e5, eor2, hcmp]
    have hs0 := put_self d.gu
    refine WL.mk (fun k t h' => ∃ O : List Nat, h' = h.put bu ⟨u3 O, .own⟩ ∧ O.length = U.length ∧ Dl B32 O ∧ ∃ i cy bor : Nat, i ≤ m + 2 ∧ k = m + 2 - i ∧ cy < 4294967296 ∧ bor ≤ 1 ∧ (∀ k, k < j ∨ j + i ≤ k → O[k]? = U[k]?) ∧ wn O j i + q * vL B32 (V.take i) = wn U j i + B32 ^ i * (bor + cy) ∧
        t = [(0, some (.slice (some ⟨bu, j, none⟩) (m + 2 + 1) cu)), (1, some (.slice (some ⟨b1, o1, s1⟩) (m + 2) c)), (5, some (.int .i64 ((m + 2 : Nat) : Int))), (7, some (.int .u64 (q : Int))), (9, some (.int .u64 (cy : Int))), (10, some (.int .u64 (bor : Int))), (85, some (.slice (some ⟨b1, o1, s1⟩) (m + 2) c)), (86, some (.int .i64 ((m + 2 : Nat) : Int))), (87, some (.int .i64 (i : Int)))])
      ⟨m + 2, U, hs0.symm, rfl, hU, 0, 0, 0, by omega, rfl, by decide, by decide, fun k _ => rfl, by simp [wn, vL], rfl⟩ ?_
    rintro k t _ ⟨O, rfl, hOl, hOd, i, cy, bor, hi, rfl, hcy, hbor, hout, hv, rfl⟩
    have dO := d.put (O' := O)
    by_cases hin : i < m + 2
    · obtain ⟨b3, o3, s3, y, e4, f3, hy, ry⟩ := dO.lv.rd.nat (i := i) hin
      cases e4
      have hyl : y < 4294967296 := d.lv.dl.at hy
      obtain ⟨u, hu⟩ : ∃ u, O[j + i]? = some u := ⟨_, List.getElem?_eq_getElem (by omega)⟩
      have hul : u < 4294967296 := hOd.at hu
      have hij := lt_l hu
      have huU : U[j + i]? = some u := by rw [← hout (j + i) (.inr (Nat.le_refl _))]; exact hu
      have ru := u3_rd dO.gu hu
      obtain ⟨m1, m2, m3⟩ := mul_lim hqB hyl hcy
      have m4 : (cy + q * y) % 4294967296 < 4294967296 := Nat.mod_lt _ (by decide)
      obtain ⟨D, kD, kD2, kD3⟩ := sub_key hul m4 hbor
      have hi2 : i < m + 2 + 1 := by omega
      have ul : leIs (j + i + 1) (u3 O) = true := by rw [← leIs_p, u3_len]; omega
      have us : spl (u3 O) (j + i) [.int .u32 ((D % 4294967296 : Nat) : Int)] = u3 (O.set (j + i) (D % 4294967296)) := spl_u3 hij
      have gO : (h.put bu ⟨u3 O, .own⟩).get bu = some ⟨u3 O, .own⟩ := gput
      have Dl64 : D < 18446744073709551616 := by omega
      simp +contextual (disch := omega) only [↓AM, ↓AV, AP, CQ, CN, i64, u64, gput, rput, put_put, hin, f1, ry, ru, u3_at hu, hi2, kD, shr_63, ul, us]
      refine ⟨m + 2 - (i + 1), by omega, O.set (j + i) (D % 4294967296), rfl, by simp [hOl], hOd.set (Nat.mod_lt _ (by decide)), i + 1, (cy + q * y) / 4294967296, D / 9223372036854775808, by omega, rfl, m3, kD2, ?_, ?_, rfl⟩
      · intro k hk
        rw [List.getElem?_set_ne (by omega)]
        exact hout k (by omega)
      · rw [wn_set hij, wn_at huU, take_u3 hy, Nat.pow_succ]
        have e5 : D % 4294967296 + (q * y) + bor + cy = u + 4294967296 * (D / 9223372036854775808 + (cy + q * y) / 4294967296) := by omega
        have e6 : B32 ^ i * (D % 4294967296) + B32 ^ i * (q * y) + B32 ^ i * (bor + cy) = B32 ^ i * u + B32 ^ i * B32 * (D / 9223372036854775808 + (cy + q * y) / 4294967296) := by
          rw [← Nat.mul_add, ← Nat.mul_add, Nat.mul_assoc, ← Nat.mul_add]; congr 1
          show D % 4294967296 + q * y + (bor + cy) = u + 4294967296 * (D / 9223372036854775808 + (cy + q * y) / 4294967296)
          omega
        have e7 : q * (vL B32 (V.take i) + B32 ^ i * y) = q * vL B32 (V.take i) + B32 ^ i * (q * y) := by rw [Nat.mul_add]; congr 1; ac_rfl
        rw [e7]
        omega
    have hie : i = m + 2 := by omega
    subst hie
    rw [List.take_of_length_le (l := V) (by omega)] at hv
    obtain ⟨m4, hO4⟩ : ∃ z, O[j + (m + 2)]? = some z := ⟨_, List.getElem?_eq_getElem (by omega)⟩
    have hm4 : m4 = un := by
      have := hout (j + (m + 2)) (.inr (Nat.le_refl _))
      rw [hO4, hun] at this
      exact Option.some.inj this
    subst hm4
    have hij := lt_l hO4
    have ru := u3_rd dO.gu hO4
    obtain ⟨D, kD, kD2, kD3⟩ := sub_key unh hcy hbor
    have ul : leIs (j + (m + 2) + 1) (u3 O) = true := by rw [← leIs_p, u3_len]; omega
    have us : spl (u3 O) (j + (m + 2)) [.int .u32 ((D % 4294967296 : Nat) : Int)] = u3 (O.set (j + (m + 2)) (D % 4294967296)) := spl_u3 hij
    have Dl64 : D < 18446744073709551616 := by omega
    have hw2 : wn (O.set (j + (m + 2)) (D % 4294967296)) j (m + 2 + 1) = wn O j (m + 2) + B32 ^ (m + 2) * (D % 4294967296) := wn_set hij
    have hwU : wn U j (m + 2 + 1) = wn U j (m + 2) + B32 ^ (m + 2) * m4 := wn_at hun
    have e8 : B32 ^ (m + 2) * (D % 4294967296) + B32 ^ (m + 2) * (bor + cy) = B32 ^ (m + 2) * m4 + B32 ^ (m + 2) * (4294967296 * (D / 9223372036854775808)) := by
      rw [← Nat.mul_add, ← Nat.mul_add]; congr 1; omega
    have hQV : Q * vL B32 V ≤ wn U j (m + 2 + 1) := by rw [← hQ]; exact kn.qV
    have hQV2 : wn U j (m + 2 + 1) % vL B32 V + Q * vL B32 V = wn U j (m + 2 + 1) := by rw [← hQ, Nat.mul_comm]; exact Nat.mod_add_div _ _
    have hQV3 : wn U j (m + 2 + 1) % vL B32 V < vL B32 V := Nat.mod_lt _ kn.v0
    have hOd2 : Dl B32 (O.set (j + (m + 2)) (D % 4294967296)) := hOd.set (Nat.mod_lt _ (by decide))
    have hPl : (O.set (j + (m + 2)) (D % 4294967296)).length = U.length := by simp [hOl]
    have hwl := wn_lt hOd2 j (m + 2 + 1)
    by_cases hz : D / 9223372036854775808 = 0
    · have ez : EqI ((D / 9223372036854775808 : Nat) : Int) 0 = True := by rw [hz]; exact eqI_self
      have kS : (m4 : Int) - (cy : Int) - (bor : Int) = (D : Int) := by rw [← kD, IntKind.wrap_u64, IntKind.wrap_u64]; omega
      simp +contextual (disch := omega) only [↓AM, ↓AV, AP, CQ, CN, i64, u64, gput, rput, put_put, hin, u3_at hO4, l1, kD, kS, shr_63, ul, us, ez]
      simp only [hz, Nat.mul_zero, Nat.add_zero] at e8
      have hle : q * vL B32 V ≤ wn U j (m + 2 + 1) := by omega
      have hqQ : q ≤ Q := by rw [← hQ]; exact (Nat.le_div_iff_mul_le kn.v0).2 hle
      have hqe : q = Q := by omega
      subst hqe
      refine ⟨by rw [Nat.mod_eq_of_lt hqB], _, rfl, hPl, hOd2, ?_, by omega⟩
      intro k hk
      rw [List.getElem?_set_ne (by omega)]
      exact hout k (by omega)
    have hz1 : D / 9223372036854775808 = 1 := by omega
    have ez : EqI ((D / 9223372036854775808 : Nat) : Int) 0 = False := eq_false (by unfold EqI; omega)
    simp +contextual (disch := omega) only [↓AM, ↓AV, AP, CQ, CN, i64, u64, gput, rput, put_put, hin, u3_at hO4, l1, kD, shr_63, ul, us, ez]
    rw [hz1, Nat.mul_one] at e8
    have epow : B32 ^ (m + 2) * 4294967296 = B32 ^ (m + 2 + 1) := (Nat.pow_succ ..).symm
    rw [epow] at e8
    have hgt : wn U j (m + 2 + 1) < q * vL B32 V := by omega
    have hqe : q = Q + 1 := by
      have : Q < q := by
        refine Nat.lt_of_not_le fun hh => ?_
        have := Nat.mul_le_mul_right (vL B32 V) hh
        omega
      omega
    subst hqe
    have dP := d.put (O' := O.set (j + (m + 2)) (D % 4294967296))
    have hP4 : (O.set (j + (m + 2)) (D % 4294967296))[j + (m + 2)]? = some (D % 4294967296) := List.getElem?_set_self hij
    have houtP : ∀ k, k < j ∨ j + (m + 2) < k → (O.set (j + (m + 2)) (D % 4294967296))[k]? = U[k]? := fun k hk => by
      rw [List.getElem?_set_ne (by omega)]
      exact hout k (by omega)
    have hwP : wn (O.set (j + (m + 2)) (D % 4294967296)) j (m + 2 + 1) = wn (O.set (j + (m + 2)) (D % 4294967296)) j (m + 2) + B32 ^ (m + 2) * (D % 4294967296) := wn_at hP4
    generalize O.set (j + (m + 2)) (D % 4294967296) = P at *
    refine WL.mk (fun k t h' => ∃ R : List Nat, h' = h.put bu ⟨u3 R, .own⟩ ∧ R.length = U.length ∧ Dl B32 R ∧ ∃ i ba : Nat, i ≤ m + 2 ∧ k = m + 2 - i ∧ ba ≤ 1 ∧ (∀ k, k < j ∨ j + i ≤ k → R[k]? = P[k]?) ∧ wn R j i + B32 ^ i * ba = wn P j i + vL B32 (V.take i) ∧
        t = [(0, some (.slice (some ⟨bu, j, none⟩) (m + 2 + 1) cu)), (5, some (.int .i64 ((m + 2 : Nat) : Int))), (7, some (.int .u64 ((Q + 1 : Nat) : Int))), (15, some (.int .u64 (ba : Int))), (138, some (.slice (some ⟨b1, o1, s1⟩) (m + 2) c)), (139, some (.int .i64 ((m + 2 : Nat) : Int))), (140, some (.int .i64 (i : Int)))])
      ⟨m + 2, P, rfl, hPl, hOd2, 0, 0, by omega, rfl, by decide, fun k _ => rfl, by simp [wn, vL], rfl⟩ ?_
    rintro k t _ ⟨R, rfl, hRl, hRd, i, ba, hi, rfl, hba, houtR, hvR, rfl⟩
    have dR := d.put (O' := R)
    by_cases hin : i < m + 2
    · obtain ⟨b3, o3, s3, y, e4, f3, hy, ry⟩ := dR.lv.rd.nat (i := i) hin
      cases e4
      have hyl : y < 4294967296 := d.lv.dl.at hy
      obtain ⟨u, hu⟩ : ∃ u, R[j + i]? = some u := ⟨_, List.getElem?_eq_getElem (by omega)⟩
      have hul : u < 4294967296 := hRd.at hu
      have hij := lt_l hu
      have huP : P[j + i]? = some u := by rw [← houtR (j + i) (.inr (Nat.le_refl _))]; exact hu
      have ru := u3_rd dR.gu hu
      have hi2 : i < m + 2 + 1 := by omega
      have ul : leIs (j + i + 1) (u3 R) = true := by rw [← leIs_p, u3_len]; omega
      have us : spl (u3 R) (j + i) [.int .u32 (((ba + (u + y)) % 4294967296 : Nat) : Int)] = u3 (R.set (j + i) ((ba + (u + y)) % 4294967296)) := spl_u3 hij
      simp +contextual (disch := omega) only [↓AM, ↓AV, AP, CQ, CN, i64, u64, gput, rput, put_put, hin, f1, ry, ru, u3_at hu, hi2, ul, us]
      refine ⟨m + 2 - (i + 1), by omega, R.set (j + i) ((ba + (u + y)) % 4294967296), rfl, by simp [hRl], hRd.set (Nat.mod_lt _ (by decide)), i + 1, (ba + (u + y)) / 4294967296, by omega, rfl, by omega, ?_, ?_, rfl⟩
      · intro k hk
        rw [List.getElem?_set_ne (by omega)]
        exact houtR k (by omega)
      · rw [wn_set hij, wn_at huP, take_u3 hy, Nat.pow_succ]
        have e6 : B32 ^ i * ((ba + (u + y)) % 4294967296) + B32 ^ i * B32 * ((ba + (u + y)) / 4294967296) = B32 ^ i * ba + (B32 ^ i * u + B32 ^ i * y) := by
          rw [← Nat.mul_add, ← Nat.mul_add, Nat.mul_assoc, ← Nat.mul_add]; congr 1; exact Nat.mod_add_div _ 4294967296
        omega
    have hie : i = m + 2 := by omega
    subst hie
    rw [List.take_of_length_le (l := V) (by omega)] at hvR
    have hR4 : R[j + (m + 2)]? = some (D % 4294967296) := by rw [houtR (j + (m + 2)) (.inr (Nat.le_refl _))]; exact hP4
    have hij := lt_l hR4
    have hRw := wn_lt hRd j (m + 2)
    have hVw : vL B32 V < B32 ^ (m + 2) := by have := vL_lt d.lv.dl; rw [hVl] at this; exact this
    obtain ⟨t1, t2⟩ := two_up (a := wn R j (m + 2)) (b := wn U j (m + 2 + 1) % vL B32 V) (X := B32 ^ (m + 2)) (s := D % 4294967296 + ba) (t := 4294967296) (by
      rw [Nat.mul_add, epow]
      have e9 : (Q + 1) * vL B32 V = Q * vL B32 V + vL B32 V := by rw [Nat.add_mul, Nat.one_mul]
      omega) hRw (by omega)
    have ul : leIs (j + (m + 2) + 1) (u3 R) = true := by rw [← leIs_p, u3_len]; omega
    have us : spl (u3 R) (j + (m + 2)) [.int .u32 0] = u3 (R.set (j + (m + 2)) 0) := spl_u3 hij
    have wz : IntKind.u32.wrap (((D % 4294967296 : Nat) : Int) + ((ba % 4294967296 : Nat) : Int)) = 0 := by
      rw [IntKind.wrap_u32]; omega
    have wz2 : IntKind.u32.wrap ((D % 4294967296 + ba % 4294967296 : Nat) : Int) = 0 := by
      rw [IntKind.wrap_u32]; omega
    have wz3 : (((D % 4294967296 + ba % 4294967296) % 4294967296 : Nat) : Int) = 0 := by omega
    simp +contextual (disch := omega) only [↓AM, ↓AV, AP, CQ, CN, i64, u64, gput, rput, put_put, hin, u3_at hR4, l1, ul, us, wz, wz2, wz3]
    refine ⟨by rw [Nat.mod_eq_of_lt (by omega)], _, rfl, by simp [hRl], hRd.set (by decide), ?_, ?_⟩
    · intro k hk
      rw [List.getElem?_set_ne (by omega), houtR k (by omega)]
      exact houtP k hk
    · rw [wn_set hij, Nat.mul_zero, Nat.add_zero]
      exact t2
end Go.Proofs.Ytbfbgkhlngkifaa.Nu

/- Limbs divided by limbs. Plain theorems over the abstract machine.
   Conditions: none. -/
namespace Go.Proofs.Ytbfbgkhlngkifaa.Nu
open Go Go.RowKit Go.Proofs.Ytbfbgkhlngkifaa.Am Go.Proofs.Ytbfbgkhlngkifaa.Af Go.Proofs.Ytbfbgkhlngkifaa.Md
set_option linter.unusedVariables false
set_option linter.unusedSimpArgs false
set_option linter.defProp false
set_option maxRecDepth 20000
set_option maxHeartbeats 2000000

theorem lm_get {h : Hp} {b n c : Nat} {O : List Nat} (hg : h.get b = some ⟨u3 O, .own⟩) (hd : Dl B32 O) (hn : n ≤ O.length) (hc : n ≤ c) : Lm h (some ⟨b, 0, none⟩) n c (O.take n) := by
  refine ⟨Rd.of rfl ?_, hc, hd.take n⟩
  rw [Nat.mul_one, rdN_mk hg (by show 0 + n ≤ (u3 O).length; rw [u3_len]; omega)]
  show some (((u3 O).drop 0).take n) = _
  rw [List.drop_zero, u3_take]
theorem vl_split (O : List Nat) (k : Nat) (hk : k ≤ O.length) : vL B32 O = vL B32 (O.take k) + B32 ^ k * vL B32 (O.drop k) := vL_take b32 hk
/-- What is small has nothing above. -/
theorem vl_small {O : List Nat} {n : Nat} (h : vL B32 O < B32 ^ n) : vL B32 (O.take n) = vL B32 O := by
  rcases Nat.lt_or_ge n O.length with hl | hl
  · have e := vl_split O n (by omega)
    have : vL B32 (O.drop n) = 0 := by
      refine Nat.eq_zero_of_not_pos fun hp => ?_
      have := Nat.mul_le_mul_left (B32 ^ n) (show 1 ≤ vL B32 (O.drop n) by omega)
      omega
    rw [this, Nat.mul_zero, Nat.add_zero] at e
    exact e.symm
  · rw [List.take_of_length_le hl]
theorem dg_len_lt {x n : Nat} (h : (dg x).length ≤ n) : x < B32 ^ n := by
  have h1 := vL_lt (dg_dl x)
  rw [dg_val] at h1
  exact Nat.lt_of_lt_of_le h1 (Nat.pow_le_pow_right (by decide) h)
/-- The highest limb. -/
theorem dg_top {y n : Nat} (hn : (dg y).length = n + 1) : ∃ t, (dg y)[n]? = some t ∧ 0 < t ∧ t < 4294967296 ∧ B32 ^ n * t ≤ y ∧ y < B32 ^ n * (t + 1) := by
  obtain ⟨t, ht⟩ : ∃ t, (dg y)[n]? = some t := ⟨_, List.getElem?_eq_getElem (by omega)⟩
  have hd := dg_dl y
  have e := take_u3 ht
  rw [List.take_of_length_le (by omega), dg_val] at e
  have hl := vL_lt (hd.take n)
  rw [List.length_take, Nat.min_eq_left (by omega)] at hl
  have hnz : (dg y).getLast? ≠ some 0 := dig_nz (hB := b32) y
  have htl := hd.at ht
  refine ⟨t, ht, Nat.pos_of_ne_zero fun h0 => hnz ?_, htl, by omega, ?_⟩
  · rw [List.getLast?_eq_getElem?, hn]
    show (dg y)[n]? = _
    rw [ht, h0]
  · rw [Nat.mul_add, Nat.mul_one]; omega
theorem pow_by {t b : Nat} (hb : b < 32) (h : t * 2 ^ b < 4294967296) : (t + 1) * 2 ^ b ≤ 4294967296 := by
  have e : (4294967296 : Nat) = 2 ^ (32 - b) * 2 ^ b := by rw [← Nat.pow_add, show 32 - b + b = 32 by omega]
  rw [e] at h ⊢
  have := Nat.lt_of_mul_lt_mul_right h
  exact Nat.mul_le_mul_right _ this
/-- The divisor, moved up: as many limbs, and the highest one great. -/
theorem moved {y n t b : Nat} {Ub : List Nat} (hn : (dg y).length = n + 1) (ht : (dg y)[n]? = some t) (hb : b < 32) (h1 : 2147483648 ≤ t * 2 ^ b) (h2 : t * 2 ^ b < 4294967296) (hl : Ub.length = n + 1 + 1) (hd : Dl B32 Ub) (hv : vL B32 Ub = y * 2 ^ b) :
    vL B32 (Ub.take (n + 1)) = y * 2 ^ b ∧ 2147483648 ≤ (Ub.take (n + 1)).getD n 0 ∧ y * 2 ^ b < B32 ^ (n + 1) ∧ B32 ^ n * 2 ^ b ≤ y * 2 ^ b := by
  obtain ⟨t', ht', t0, tl, tlo, thi⟩ := dg_top hn
  rw [ht] at ht'
  cases ht'
  have hp : 0 < 2 ^ b := Nat.pow_pos (by decide)
  have hlt : y * 2 ^ b < B32 ^ (n + 1) := by
    have e1 : y * 2 ^ b < B32 ^ n * (t + 1) * 2 ^ b := Nat.mul_lt_mul_of_pos_right thi hp
    rw [Nat.mul_assoc] at e1
    have e2 := Nat.mul_le_mul_left (B32 ^ n) (pow_by hb h2)
    rw [Nat.pow_succ]
    exact Nat.lt_of_lt_of_le e1 e2
  have hs : vL B32 (Ub.take (n + 1)) = y * 2 ^ b := by rw [vl_small (by rw [hv]; exact hlt), hv]
  refine ⟨hs, ?_, hlt, ?_⟩
  · obtain ⟨z, hz⟩ : ∃ z, Ub[n]? = some z := ⟨_, List.getElem?_eq_getElem (by omega)⟩
    have hz2 : (Ub.take (n + 1)).getD n 0 = z := by
      rw [List.getD_eq_getElem?_getD, List.getElem?_take, if_pos (by omega), hz]; rfl
    rw [hz2]
    have e := take_u3 hz
    have hl2 := vL_lt (hd.take n)
    rw [List.length_take, Nat.min_eq_left (by omega)] at hl2
    rw [hs] at e
    have e3 : B32 ^ n * t * 2 ^ b ≤ y * 2 ^ b := Nat.mul_le_mul_right _ tlo
    rw [Nat.mul_assoc] at e3
    have e4 : B32 ^ n * (t * 2 ^ b) < B32 ^ n * (z + 1) := by rw [Nat.mul_add, Nat.mul_one]; omega
    have := Nat.lt_of_mul_lt_mul_left e4
    omega
  · refine Nat.mul_le_mul_right _ (Nat.le_trans ?_ tlo)
    exact Nat.le_mul_of_pos_right _ t0
/-- The limbs of what is moved down again. -/
theorem down_step {x b i p q : Nat} {O : List Nat} (hx : vL B32 O = x) (hd : Dl B32 O) (hb : b < 32) (hp : O[i]? = some p) (hq : O[i + 1]? = some q) : (x / 2 ^ b) / B32 ^ i % 4294967296 = ((q * 4294967296 + p) / 2 ^ b) % 4294967296 := by
  have hi := lt_l hq
  have e1 := vl_split O i (by omega)
  have e2 : O.drop i = p :: q :: O.drop (i + 2) := by
    rw [List.drop_eq_getElem_cons (by omega), List.drop_eq_getElem_cons (by omega)]
    rw [List.getElem?_eq_getElem (by omega)] at hp hq
    rw [Option.some.inj hp, Option.some.inj hq]
  have hl := vL_lt (hd.take i)
  rw [List.length_take, Nat.min_eq_left (by omega)] at hl
  rw [e2, vL, vL] at e1
  have e3 : x / B32 ^ i = p + 4294967296 * (q + 4294967296 * vL B32 (O.drop (i + 2))) := by
    rw [← hx, e1, Nat.add_mul_div_left _ _ (Nat.pow_pos (by decide)), Nat.div_eq_of_lt hl, Nat.zero_add]
  rw [Nat.div_div_eq_div_mul, Nat.mul_comm (2 ^ b), ← Nat.div_div_eq_div_mul, e3]
  generalize vL B32 (O.drop (i + 2)) = T
  have e4 : p + 4294967296 * (q + 4294967296 * T) = (q * 4294967296 + p) + 2 ^ b * (4294967296 * (2 ^ (32 - b) * T)) := by
    have e5 : 2 ^ b * (4294967296 * (2 ^ (32 - b) * T)) = 4294967296 * 4294967296 * T := by
      have e6 : 2 ^ b * 2 ^ (32 - b) = 4294967296 := by rw [← Nat.pow_add, show b + (32 - b) = 32 by omega]
      calc 2 ^ b * (4294967296 * (2 ^ (32 - b) * T)) = 4294967296 * (2 ^ b * 2 ^ (32 - b)) * T := by ac_rfl
        _ = _ := by rw [e6]
    rw [e5]
    omega
  rw [e4, Nat.add_mul_div_left _ _ (Nat.pow_pos (by decide)), Nat.add_mul_mod_self_left]
theorem shr_by {x b : Nat} (hb : b < 32) : (x : Int).fdiv (2 ^ min b IntKind.u64.bits) = ((x / 2 ^ b : Nat) : Int) := by
  rw [show min b IntKind.u64.bits = b from Nat.min_eq_left (by show b ≤ 64; omega)]
  rw [Int.fdiv_eq_ediv_of_nonneg _ (Int.pow_nonneg (by omega))]
  rw [Int.natCast_ediv, Int.natCast_pow]; rfl
end Go.Proofs.Ytbfbgkhlngkifaa.Nu

/- Limbs divided by limbs, walked. Plain theorems over the abstract machine.
   Conditions: none. -/
namespace Go.Proofs.Ytbfbgkhlngkifaa.Nu
open Go Go.RowKit Go.Proofs.Ytbfbgkhlngkifaa.Am Go.Proofs.Ytbfbgkhlngkifaa.Af Go.Proofs.Ytbfbgkhlngkifaa.Md
set_option linter.unusedVariables false
set_option linter.unusedSimpArgs false
set_option linter.defProp false
set_option maxRecDepth 20000
set_option maxHeartbeats 2000000

theorem slA {k j c : Nat} (h : ¬ c = j) : slAddr k 0 none 1 j c true = ⟨k, j, none⟩ := by simp [slAddr, h]
theorem c_divG {h : Hp} {a b : Option Addr} {c d x y : Nat} (la : Lm h a (dg x).length c (dg x)) (lb : Lm h b (dg y).length d (dg y)) (hx : (dg x).length ≤ 100000) (hy : (dg y).length ≤ 100000) (hy0 : 0 < y) :
    ACalls Try.prog 118 [.slice a (dg x).length c, .slice b (dg y).length d] h fun r h' => ∃ u v, r = .tuple #[u, v] ∧ LmV h' u (x / y) ∧ LmV h' v (x % y) ∧ Fm No h h' := by
  by_cases hyB : y < 4294967296
  · exact c_div la lb (by omega) hy0 hyB
  refine num_divMag_ok.snd hm rfl fun w => ?_
  rw [WF_eq, num_divMag]
  have hyl2 : 2 ≤ (dg y).length := by
    rcases Nat.lt_or_ge (dg y).length 2 with h2 | h2
    · exfalso
      have := dg_len_lt (x := y) (n := 1) (by omega)
      rw [Nat.pow_one] at this
      exact hyB this
    · exact h2
  simp +contextual (disch := omega) only [↓AM, ↓AV, AP, CQ, i64]
  refine (c_cmp la lb (by omega) (by omega)).use ?_
  rintro _ h w1 ⟨⟨q, rfl, q1, q2, q3, q4⟩, rfl⟩
  by_cases hlt : x < y
  · have hq : q < 0 := q1.2 hlt
    simp +contextual (disch := omega) only [↓AM, ↓AV, AP, CQ, i64, hq]
    refine (c_clone la (by omega)).use ?_
    rintro _ h2 w2 ⟨l, fm⟩
    simp +contextual (disch := omega) only [↓AM, ↓AV, AP, CQ, i64]
    rw [Nat.div_eq_of_lt hlt, Nat.mod_eq_of_lt hlt]
    exact ⟨_, _, rfl, lmv0, l, fm⟩
  have hq : ¬ q < 0 := fun h => hlt (q1.1 h)
  have hll : (dg y).length ≤ (dg x).length := by
    rcases Nat.lt_or_ge (dg x).length (dg y).length with h2 | h2
    · have := len_lt b32 (dg_dl x) (dig_nz (hB := b32) y) h2
      rw [dg_val, show vL B32 (dig B32 b32 y) = y from dg_val y] at this
      omega
    · exact h2
  obtain ⟨n, hn⟩ : ∃ n, (dg y).length = n + 1 := ⟨(dg y).length - 1, by omega⟩
  obtain ⟨t, ht, t0, tl, -, -⟩ := dg_top hn
  obtain ⟨b2, o2, s2, t', rfl, f2, ht', rt⟩ := lb.rd.nat (i := n) (by omega)
  rw [ht] at ht'
  cases ht'
  have e1 : EqI (((n + 1 : Nat)) : Int) 1 = False := eq_false (by unfold EqI; omega)
  have nn1 : n < n + 1 := by omega
  have xlt := dg_len_lt (Nat.le_refl (dg x).length)
  rw [hn] at lb hll ⊢
  simp +contextual (disch := omega) only [↓AM, ↓AV, AP, CQ, i64, hq, e1, f2, rt, nn1]
  refine (c_Lz t0 tl).use ?_
  rintro _ h w2 ⟨rfl, by_, rfl, hby, hb1, hb2⟩
  simp +contextual (disch := omega) only [↓AM, ↓AV, AP, CQ, i64]
  generalize hX : (dg x).length = lx at *
  have xval : vL B32 (dg x) = x := dg_val x
  have yval : vL B32 (dg y) = y := dg_val y
  refine (c_shift la (by omega) hby).use ?_
  rintro _ h3 w3 ⟨k1, U0, rfl, hk1, g1, hU0l, hU0d, hU0v, f3⟩
  simp +contextual (disch := omega) only [↓AM, ↓AV, AP, CQ, i64]
  have lb3 : Lm h3 (some ⟨b2, o2, s2⟩) (n + 1) d (dg y) := ⟨lb.rd.keepW w2 f3 nNo, lb.le, lb.dl⟩
  refine (c_shift lb3 (by omega) hby).use ?_
  rintro _ h4 w4 ⟨k2, Ub, rfl, hk2, g2, hUbl, hUbd, hUbv, f4⟩
  have hk1' := w3.lt g1
  have g1 := f4.keep w3 g1 (fun f => f)
  have hk2' := w4.lt g2
  rw [xval] at hU0v
  rw [yval] at hUbv
  obtain ⟨m1, m2, m3, m4⟩ := moved hn ht hby hb1 hb2 hUbl hUbd hUbv
  have f34 := f3.trans f4 fun _ _ f => f
  have hVl : (Ub.take (n + 1)).length = n + 1 := by rw [List.length_take]; omega
  have sl1 : slAddr k2 0 none 1 0 (n + 1 + 1) true = ⟨k2, 0, none⟩ := slA (by omega)
  have hVd := hUbd.take (n + 1)
  generalize hV : Ub.take (n + 1) = V at *
  have lV : ∀ g : Hp, g.get k2 = some ⟨u3 Ub, .own⟩ → Lm g (some ⟨k2, 0, none⟩) (n + 1) (n + 1 + 1) V := fun g hg => by
    have := lm_get (n := n + 1) (c := n + 1 + 1) hg hUbd (by omega) (by omega)
    rw [hV] at this; exact this
  obtain ⟨mq, hmq⟩ : ∃ mq, lx = mq + (n + 1) := ⟨lx - (n + 1), by omega⟩
  have emq : (lx : Int) - ((n + 1 : Nat) : Int) = (mq : Int) := by omega
  obtain ⟨h5, e5⟩ : ∃ g, h4.new ⟨u3 (List.replicate (mq + 1) 0), .own⟩ = g := ⟨_, rfl⟩
  obtain ⟨kq, ekq⟩ : ∃ g, h4.size = g := ⟨_, rfl⟩
  have w5 : Wf h5 := e5 ▸ w4.new
  have f5 : Fm No h4 h5 := e5 ▸ Fm.new Fm.refl
  have gq : h5.get kq = some ⟨u3 (List.replicate (mq + 1) 0), .own⟩ := by rw [← e5, ← ekq]; exact gnew
  have f35 := f34.trans f5 fun _ _ f => f
  have bl : n + 1 ≤ n + 1 + 1 := by omega
  simp +contextual (disch := omega) only [↓AM, ↓AV, AP, CQ, i64, bnds, Option.isNone, flagOk_none, capOk, sl1, emq, rep_u3, e5, ekq]
  refine ⟨by omega, by omega, ?_⟩
  have V0 : 0 < y * 2 ^ by_ := Nat.mul_pos hy0 (Nat.pow_pos (by decide))
  have zl : ∀ k, vL B32 ((List.replicate (mq + 1) 0).drop k) = 0 := fun k => by rw [List.drop_replicate]; exact vL_zeros _ _
  have top0 : vL B32 (U0.drop (mq + 1)) < y * 2 ^ by_ := by
    have e := vl_split U0 (mq + 1) (by omega)
    rw [hU0v] at e
    have hp : 0 < 2 ^ by_ := Nat.pow_pos (by decide)
    have e2 : x * 2 ^ by_ < B32 ^ lx * 2 ^ by_ := Nat.mul_lt_mul_of_pos_right xlt hp
    rw [hmq, show mq + (n + 1) = (mq + 1) + n by omega, Nat.pow_add, Nat.mul_assoc] at e2
    have e3 : B32 ^ (mq + 1) * vL B32 (U0.drop (mq + 1)) < B32 ^ (mq + 1) * (B32 ^ n * 2 ^ by_) := by omega
    have := Nat.lt_of_mul_lt_mul_left e3
    omega
  refine WL.mk (fun k t h' => k ≤ mq + 1 ∧ ∃ O Q : List Nat, Wf h' ∧ Fm No h h' ∧ h'.get k1 = some ⟨u3 O, .own⟩ ∧ h'.get k2 = some ⟨u3 Ub, .own⟩ ∧ h'.get kq = some ⟨u3 Q, .own⟩ ∧ O.length = lx + 1 ∧ Q.length = mq + 1 ∧ Dl B32 O ∧ Dl B32 Q ∧ O.take k = U0.take k ∧ vL B32 (U0.drop k) = vL B32 (Q.drop k) * (y * 2 ^ by_) + vL B32 (O.drop k) ∧ vL B32 (O.drop k) < y * 2 ^ by_ ∧
      t = [(4, some (.slice (some ⟨kq, 0, none⟩) (mq + 1) (mq + 1))), (8, some (.int .i64 (by_ : Int))), (9, some (.slice (some ⟨k1, 0, none⟩) (lx + 1) (lx + 1))), (10, some (.slice (some ⟨k2, 0, none⟩) (n + 1) (n + 1 + 1))), (11, some (.int .i64 ((n + 1 : Nat) : Int))), (12, some (.int .i64 ((k : Int) - 1)))])
    ⟨mq + 1, Nat.le_refl _, U0, _, w5, f35, f5.keep w4 g1 (fun f => f), f5.keep w4 g2 (fun f => f), gq, hU0l, by simp, hU0d, Dl.zeros _, rfl, by rw [zl]; simp, top0, by rw [show (((mq + 1 : Nat)) : Int) - 1 = (mq : Int) by omega]⟩ ?_
  rintro k t h' ⟨hk, O, Q, w', f', p1, p2, p3, hOl, hQl, hOd, hQd, htk, hv, hr, rfl⟩
  cases k with
  | zero =>
    have e2 : ((0 : Int) ≤ ((0 : Nat) : Int) - 1) = False := by simp
    have hv : x * 2 ^ by_ = vL B32 Q * (y * 2 ^ by_) + vL B32 O := by rw [← hU0v]; exact hv
    have hr : vL B32 O < y * 2 ^ by_ := hr
    have hp : 0 < 2 ^ by_ := Nat.pow_pos (by decide)
    have vq : vL B32 Q = x / y := by
      have : x * 2 ^ by_ / (y * 2 ^ by_) = vL B32 Q := by rw [hv, Nat.mul_comm (vL B32 Q), Nat.mul_add_div V0, Nat.div_eq_of_lt hr]; rfl
      rw [← this, Nat.mul_div_mul_right _ _ hp]
    have vo : vL B32 O = x % y * 2 ^ by_ := by
      have : x * 2 ^ by_ % (y * 2 ^ by_) = vL B32 O := by rw [hv, Nat.mul_comm (vL B32 Q), Nat.mul_add_mod, Nat.mod_eq_of_lt hr]
      rw [← this, Nat.mul_mod_mul_right]
    have vo2 : vL B32 O / 2 ^ by_ = x % y := by rw [vo]; exact Nat.mul_div_cancel _ hp
    have xyb : x % y < B32 ^ (n + 1) := by
      have h1 : x % y < y := Nat.mod_lt _ hy0
      have h2 : y ≤ y * 2 ^ by_ := Nat.le_mul_of_pos_right _ hp
      omega
    obtain ⟨h6, e6⟩ : ∃ g, h'.new ⟨u3 (List.replicate (n + 1) 0), .own⟩ = g := ⟨_, rfl⟩
    obtain ⟨kr, ekr⟩ : ∃ g, h'.size = g := ⟨_, rfl⟩
    have w6 : Wf h6 := e6 ▸ w'.new
    have f6 : Fm No h' h6 := e6 ▸ Fm.new Fm.refl
    have gr : h6.get kr = some ⟨u3 (List.replicate (n + 1) 0), .own⟩ := by rw [← e6, ← ekr]; exact gnew
    have k1r := w'.lt p1
    have kqr := w'.lt p3
    have hks := f'.size
    simp +contextual (disch := omega) only [↓AM, ↓AV, AP, CQ, i64, e2, rep_u3, e6, ekr]
    refine ⟨by omega, ?_⟩
    refine WL.mk (fun k t g => ∃ R : List Nat, Wf g ∧ Fm (fun z => z = kr) h6 g ∧ g.get kr = some ⟨u3 R, .own⟩ ∧ R.length = n + 1 ∧ Dl B32 R ∧ ∃ i : Nat, i ≤ n + 1 ∧ k = n + 1 - i ∧ vL B32 R = (vL B32 O / 2 ^ by_) % B32 ^ i ∧ (∀ j, i ≤ j → j < R.length → R[j]? = some 0) ∧
        t = [(4, some (.slice (some ⟨kq, 0, none⟩) (mq + 1) (mq + 1))), (5, some (.slice (some ⟨kr, 0, none⟩) (n + 1) (n + 1))), (8, some (.int .i64 (by_ : Int))), (9, some (.slice (some ⟨k1, 0, none⟩) (lx + 1) (lx + 1))), (107, some (.int .i64 ((n + 1 : Nat) : Int))), (108, some (.int .i64 (i : Int)))])
      ⟨n + 1, _, w6, Fm.refl, gr, by simp, Dl.zeros _, 0, by omega, rfl, by rw [vL_zeros, Nat.pow_zero, Nat.mod_one], fun j h1 h2 => by rw [List.getElem?_replicate, if_pos (by simpa using h2)], rfl⟩ ?_
    rintro k t g ⟨R, wg, fg, gg, hRl, hRd, i, hi, rfl, hvR, hzR, rfl⟩
    have gO : g.get k1 = some ⟨u3 O, .own⟩ := fg.keep w6 (f6.keep w' p1 (fun f => f)) (by omega)
    have gQ : g.get kq = some ⟨u3 Q, .own⟩ := fg.keep w6 (f6.keep w' p3 (fun f => f)) (by omega)
    have fall : Fm No h g := (f'.trans f6 fun _ _ f => f).trans fg fun z hz e => by omega
    by_cases hin : i < n + 1
    · obtain ⟨p, hp1⟩ : ∃ p, O[i]? = some p := ⟨_, List.getElem?_eq_getElem (by omega)⟩
      obtain ⟨q, hq1⟩ : ∃ q, O[i + 1]? = some q := ⟨_, List.getElem?_eq_getElem (by omega)⟩
      have pl : p < 4294967296 := hOd.at hp1
      have ql : q < 4294967296 := hOd.at hq1
      have rp := u3_rd gO hp1
      have rq := u3_rd gO hq1
      have eor := or_32 ql pl
      have es := shr_by (x := q * 4294967296 + p) hby
      have hq64 : (q * 4294967296 + p) / 2 ^ by_ ≤ q * 4294967296 + p := Nat.div_le_self _ _
      have hij : i < R.length := by omega
      have l1 : i + 1 < lx + 1 := by omega
      have l2 : i < lx + 1 := by omega
      have ul : leIs (i + 1) (u3 R) = true := by rw [← leIs_p, u3_len]; omega
      have us : spl (u3 R) i [.int .u32 (((q * 4294967296 + p) / 2 ^ by_ % 4294967296 : Nat) : Int)] = u3 (R.set i ((q * 4294967296 + p) / 2 ^ by_ % 4294967296)) := spl_u3 hij
      simp +contextual (disch := omega) only [↓AM, ↓AV, AP, CQ, CN, i64, u64, hin, rp, rq, l1, l2, eor, es, gg, ul, us]
      have fp : Fm (fun z => z = kr) g (g.put kr ⟨u3 (R.set i ((q * 4294967296 + p) / 2 ^ by_ % 4294967296)), .own⟩) := Fm.put Fm.refl fun _ => rfl
      refine ⟨n + 1 - (i + 1), by omega, R.set i ((q * 4294967296 + p) / 2 ^ by_ % 4294967296), wg.put (wg.lt gg), fg.trans fp fun _ _ e => e, by first | rfl | exact gput, by simp [hRl], hRd.set (Nat.mod_lt _ (by decide)), i + 1, by omega, rfl, ?_, ?_, rfl⟩
      · have h0 := vL_set (B := B32) (d := (q * 4294967296 + p) / 2 ^ by_ % 4294967296) (hzR i (Nat.le_refl _) hij)
        rw [Nat.mul_zero, Nat.add_zero] at h0
        rw [h0, hvR, Nat.pow_succ, Nat.mod_mul, down_step rfl hOd hby hp1 hq1]
      · intro j h1 h2
        rw [List.getElem?_set_ne (by omega)]
        exact hzR j (by omega) (by simpa using h2)
    · have hie : i = n + 1 := by omega
      subst hie
      rw [vo2, Nat.mod_eq_of_lt xyb] at hvR
      simp +contextual (disch := omega) only [↓AM, ↓AV, AP, CQ, CN, i64, hin]
      have lQ := lm_get (n := mq + 1) (c := mq + 1) gQ hQd (by omega) (Nat.le_refl _)
      rw [List.take_of_length_le (by omega)] at lQ
      refine (c_trim lQ (by omega)).use ?_
      rintro u g1 w7 ⟨lu, rfl⟩
      rw [vq] at lu
      simp +contextual (disch := omega) only [↓AM, ↓AV, AP, CQ, CN, i64]
      have lR := lm_get (n := n + 1) (c := n + 1) gg hRd (by omega) (Nat.le_refl _)
      rw [List.take_of_length_le (by omega)] at lR
      refine (c_trim lR (by omega)).use ?_
      rintro v g2 w8 ⟨lv, rfl⟩
      rw [hvR] at lv
      obtain ⟨ua, uc, rfl, lu⟩ := lu
      obtain ⟨va, vc, rfl, lv⟩ := lv
      simp +contextual (disch := omega) only [↓AM, ↓AV, AP, CQ, CN, i64]
      exact ⟨_, _, rfl, ⟨_, _, rfl, lu⟩, ⟨_, _, rfl, lv⟩, fall⟩
  | succ k =>
    have hks := f'.size
    obtain ⟨ok, hok⟩ : ∃ z, O[k]? = some z := ⟨_, List.getElem?_eq_getElem (by omega)⟩
    have huk : U0[k]? = some ok := by
      have := congrArg (·[k]?) htk
      simp only [List.getElem?_take, show k < k + 1 by omega, if_true] at this
      rw [← this]; exact hok
    have okl : ok < 4294967296 := hOd.at hok
    have dO : vL B32 (O.drop k) = ok + B32 * vL B32 (O.drop (k + 1)) := by
      rw [List.drop_eq_getElem_cons (by omega)]
      rw [List.getElem?_eq_getElem (by omega)] at hok
      rw [Option.some.inj hok, vL]
    have dU : vL B32 (U0.drop k) = ok + B32 * vL B32 (U0.drop (k + 1)) := by
      rw [List.drop_eq_getElem_cons (by omega)]
      rw [List.getElem?_eq_getElem (by omega)] at huk
      rw [Option.some.inj huk, vL]
    have hlt2 : vL B32 (O.drop k) < y * 2 ^ by_ * 4294967296 := by
      have : B32 * (vL B32 (O.drop (k + 1)) + 1) ≤ B32 * (y * 2 ^ by_) := Nat.mul_le_mul_left _ hr
      rw [Nat.mul_add, Nat.mul_one] at this
      rw [dO, Nat.mul_comm _ 4294967296]
      have e : B32 * (y * 2 ^ by_) = 4294967296 * (y * 2 ^ by_) := rfl
      have eB : B32 = 4294967296 := rfl
      omega
    have hws : wn O k (n + 1 + 1) = vL B32 (O.drop k) := by
      unfold wn
      refine vl_small (Nat.lt_of_lt_of_le hlt2 ?_)
      rw [Nat.pow_succ]
      exact Nat.mul_le_mul_right _ (Nat.le_of_lt m3)
    have dv : Dv h' k1 O (some ⟨k2, 0, none⟩) (n + 1) (n + 1 + 1) V := ⟨w', p1, lV h' p2, fun z hz => by rw [At.some] at hz; have hz : k2 = z := hz; omega⟩
    have sl2 : slAddr k1 0 none 1 k (lx + 1) true = ⟨k1, 0 + k * 1, none⟩ := by rw [Nat.zero_add, Nat.mul_one]; exact slA (by omega)
    have ek : ((k : Int) + ((n + 1 : Nat) : Int) + 1) = ((k + (n + 1) + 1 : Nat) : Int) := by omega
    have el : k + (n + 1) + 1 - k = n + 1 + 1 := by omega
    simp +contextual (disch := omega) only [↓AM, ↓AV, AP, CQ, i64, bnds, Option.isNone, flagOk_none, capOk, sl2, ek]
    have hVv : vL B32 V = y * 2 ^ by_ := m1
    have dg := c_digitL (cu := lx + 1 - k) (j := k) dv (by omega) (by omega) (by omega) (by omega) hOd m2 (by rw [hws, hVv]; exact hlt2) (by omega)
    rw [el]
    refine ⟨⟨by omega, by omega⟩, ?_⟩
    refine dg.use ?_
    rintro _ _ w7 ⟨rfl, O2, rfl, hO2l, hO2d, hO2o, hO2w⟩
    rw [hws, hVv] at hO2w ⊢
    obtain ⟨hA, eA⟩ : ∃ g, h'.put k1 ⟨u3 O2, .own⟩ = g := ⟨_, rfl⟩
    rw [eA] at w7
    have fA : Fm (fun z => z = k1) h' hA := eA ▸ Fm.put Fm.refl fun _ => rfl
    have a1 : hA.get k1 = some ⟨u3 O2, .own⟩ := eA ▸ gput
    have k1q : k1 ≠ kq := by have := f'.size; omega
    have a2 := fA.keep w' p2 (show ¬ k2 = k1 by omega)
    have a3 := fA.keep w' p3 (fun e => k1q e.symm)
    have hkq : k < Q.length := by omega
    have qb : vL B32 (O.drop k) / (y * 2 ^ by_) < 4294967296 := (Nat.div_lt_iff_lt_mul V0).2 (by rw [Nat.mul_comm]; exact hlt2)
    generalize hqd : vL B32 (O.drop k) / (y * 2 ^ by_) = qd at *
    have ul : leIs (k + 1) (u3 Q) = true := by rw [← leIs_p, u3_len]; omega
    have us : spl (u3 Q) k [.int .u32 (qd : Int)] = u3 (Q.set k qd) := spl_u3 hkq
    have lk : k < mq + 1 := by omega
    simp +contextual (disch := omega) only [↓AM, ↓AV, AP, CQ, i64, eA, a3, ul, us, lk]
    have fp : Fm (fun z => z = kq) hA (hA.put kq ⟨u3 (Q.set k qd), .own⟩) := Fm.put Fm.refl fun _ => rfl
    have dO2 : vL B32 (O2.drop k) = vL B32 (O.drop k) % (y * 2 ^ by_) := by
      have e := vl_split (O2.drop k) (n + 1 + 1) (by rw [List.length_drop]; omega)
      have e2 : (O2.drop k).drop (n + 1 + 1) = (O.drop k).drop (n + 1 + 1) := by
        rw [List.drop_drop, List.drop_drop]
        refine List.ext_getElem? fun z => ?_
        rw [List.getElem?_drop, List.getElem?_drop]
        exact hO2o _ (.inr (by omega))
      have e3 := vl_split (O.drop k) (n + 1 + 1) (by rw [List.length_drop]; omega)
      have hws' : vL B32 ((O.drop k).take (n + 1 + 1)) = vL B32 (O.drop k) := hws
      have hO2w' : vL B32 ((O2.drop k).take (n + 1 + 1)) = vL B32 (O.drop k) % (y * 2 ^ by_) := hO2w
      rw [e, hO2w', e2]
      omega
    refine ⟨k, by omega, by omega, O2, Q.set k qd, w7.put (w7.lt a3), ?_, (get_put k1q).trans a1, (get_put (by omega)).trans a2, by first | rfl | exact gput, by omega, by simp [hQl], hO2d, hQd.set qb, ?_, ?_, ?_, rfl⟩
    · exact (f'.trans fA fun z hz e => by omega).trans fp fun z hz e => by omega
    · have : O.take k = U0.take k := by
        have := congrArg (List.take k) htk
        rw [List.take_take, List.take_take, Nat.min_eq_left (by omega)] at this
        exact this
      rw [← this]
      refine List.ext_getElem? fun z => ?_
      rw [List.getElem?_take, List.getElem?_take]
      split
      · exact hO2o z (.inl (by omega))
      · rfl
    · have e4 : (Q.set k qd).drop k = qd :: Q.drop (k + 1) := by
        rw [List.drop_eq_getElem_cons (by simp; omega), List.getElem_set_self, List.drop_set_of_lt (by omega)]
      rw [e4, vL, dO2, dU, hv]
      have e5 := Nat.div_add_mod (vL B32 (O.drop k)) (y * 2 ^ by_)
      rw [hqd, dO] at e5
      rw [dO, Nat.add_mul, Nat.mul_add, Nat.mul_assoc, Nat.mul_comm qd]
      omega
    · rw [dO2]; exact Nat.mod_lt _ V0
end Go.Proofs.Ytbfbgkhlngkifaa.Nu

/- Whole numbers divided, fractions made of any numbers. Plain theorems over the abstract machine.
   Conditions: none. -/
namespace Go.Proofs.Ytbfbgkhlngkifaa.Nu
open Go Go.RowKit Go.Proofs.Ytbfbgkhlngkifaa.Am Go.Proofs.Ytbfbgkhlngkifaa.Af Go.Proofs.Ytbfbgkhlngkifaa.Md
set_option linter.unusedVariables false
set_option linter.unusedSimpArgs false
set_option linter.defProp false
set_option maxRecDepth 20000
set_option maxHeartbeats 2000000

theorem dg_mono {x y : Nat} (h : x ≤ y) : (dg x).length ≤ (dg y).length := by
  refine dg_len ?_
  have := vL_lt (dg_dl y)
  rw [dg_val] at this
  omega
theorem IntAt.same {h h' : Hp} {b o : Nat} {x : Int} (n : IntAt h b o x) (w : Wf h) (wr : Wr (fun y => y = b) h h') (e0 : h'.rd b o = h.rd b o) (e1 : h'.rd b (o + 1) = h.rd b (o + 1)) : IntAt h' b o x := by
  have sf := n.x.sf
  obtain ⟨cs, oa, c, h1, h2, h3, h4, h5⟩ := n
  obtain ⟨cs', g1, g2, g3⟩ := wr.ln b cs rfl h1
  rw [rd_mk g1, rd_mk h1] at e0 e1
  exact ⟨cs', oa, c, g1, g3 h2, e0.trans h3, e1.trans h4, h5.wr w wr sf⟩
/-- A fraction at a place, above with its sign. -/
def RatI (h : Hp) (b : Nat) (p : Int) (q : Nat) : Prop := IntAt h b 0 p ∧ NatAt h b 2 q
theorem RatI.keep {h h' : Hp} {b q : Nat} {p : Int} (r : RatI h b p q) (w : Wf h) (fm : Fm No h h') : RatI h' b p q := ⟨r.1.keep w fm, r.2.keep w fm⟩
theorem z_div {z : Int} {g : Nat} (h : g ∣ z.natAbs) : (if decide (z < 0) then -((z.natAbs / g : Nat) : Int) else ((z.natAbs / g : Nat) : Int)) = z / (g : Int) := by
  obtain ⟨k, hk⟩ := h
  rcases Nat.eq_zero_or_pos g with rfl | hg
  · have : z = 0 := by simp at hk; omega
    subst this; simp
  · have e1 : z.natAbs / g = k := by rw [hk]; exact Nat.mul_div_cancel_left k hg
    rw [e1]
    have hgz : (g : Int) ≠ 0 := by omega
    by_cases hz : z < 0
    · have ez : z = (g : Int) * (-(k : Int)) := by
        have : (z.natAbs : Int) = (g : Int) * (k : Int) := by rw [hk]; exact Int.natCast_mul _ _
        rw [Int.mul_neg]; omega
      rw [if_pos (by simpa using hz), ez, Int.mul_ediv_cancel_left _ hgz]
    · have ez : z = (g : Int) * (k : Int) := by
        have : (z.natAbs : Int) = (g : Int) * (k : Int) := by rw [hk]; exact Int.natCast_mul _ _
        omega
      rw [if_neg (by simpa using hz), ez, Int.mul_ediv_cancel_left _ hgz]
theorem c_SetFracG {h : Hp} {bx ba oa bb ob q : Nat} {z : Int} (xa : XAt h bx 2) (na : IntAt h ba oa z) (nb : NatAt h bb ob q) (hpl : (dg z.natAbs).length ≤ 50000) (hq0 : 0 < q) (hql : (dg q).length ≤ 50000) :
    ACalls Try.prog 94 [.pointer (some ⟨bx, 0, none⟩), .pointer (some ⟨ba, oa, none⟩), .pointer (some ⟨bb, ob, none⟩)] h fun r h' => r = .pointer (some ⟨bx, 0, none⟩) ∧ Wr (fun y => y = bx) h h' ∧ RatI h' bx (z / ((Nat.gcd z.natAbs q : Nat) : Int)) (q / Nat.gcd z.natAbs q) := by
  refine num_Rat__SetFrac_ok.snd hm rfl fun w => ?_
  rw [WF_eq, num_Rat__SetFrac]
  obtain ⟨ca, a, c, ga, sa, a0, a1, la⟩ := na
  obtain ⟨cb, b, d, gb, sb, b0, b1, lb⟩ := nb
  have r0 := (rd_mk ga (i := oa)).trans a0
  have r1 := (rd_mk ga (i := oa + 1)).trans a1
  have q0 := (rd_mk gb (i := ob)).trans b0
  have q1 := (rd_mk gb (i := ob + 1)).trans b1
  have hdiv := z_div (z := z) (g := Nat.gcd z.natAbs q) (Nat.gcd_dvd_left _ _)
  generalize hzp : z.natAbs = p at *
  have hg0 : 0 < Nat.gcd p q := Nat.gcd_pos_of_pos_right _ hq0
  have hg : (dg (Nat.gcd p q)).length ≤ 50000 := Nat.le_trans (dg_mono (Nat.gcd_le_right _ hq0)) hql
  have bne : (decide (z < 0) != false) = decide (z < 0) := by cases decide (z < 0) <;> rfl
  simp +contextual (disch := omega) only [↓AM, ↓AV, AP, CQ, r0, r1, q0, q1, bne]
  refine (c_clone la (by omega)).use ?_
  rintro _ h1 w1 ⟨l, fm⟩
  have r1 := (rd_mk (fm.keep w ga (fun f => f)) (i := oa + 1)).trans a1
  have q1 := (rd_mk (fm.keep w gb (fun f => f)) (i := ob + 1)).trans b1
  simp +contextual (disch := omega) only [↓AM, ↓AV, AP, CQ, r1, q1]
  refine WL.mk (fun k t h' => Wf h' ∧ Fm No h h' ∧ ∃ x u v, (dg k).length ≤ 50000 ∧ (dg x).length ≤ 50000 ∧ Nat.gcd x k = Nat.gcd p q ∧ LmV h' u x ∧ LmV h' v k ∧
      t = [(0, some (.pointer (some ⟨bx, 0, none⟩))), (1, some (.pointer (some ⟨ba, oa, none⟩))), (2, some (.pointer (some ⟨bb, ob, none⟩))), (7, some u), (8, some v)])
    ⟨q, w1, fm, p, _, _, hql, hpl, rfl, l, ⟨b, d, rfl, lb.rd.keepW w fm nNo, lb.le, lb.dl⟩, rfl⟩ ?_
  rintro k t h2 ⟨w2, fm2, x, u, v, hk, hx, hgc, ⟨au, cu, rfl, lu⟩, ⟨av, cv, rfl, lv⟩, rfl⟩
  rcases Nat.eq_zero_or_pos k with rfl | hk0
  · have e0 : ((0 : Int) < ((dg 0).length : Int)) = False := by rw [dg_0]; simp
    simp +contextual (disch := omega) only [↓AM, ↓AV, AP, CQ, e0]
    rw [Nat.gcd_zero_right] at hgc
    have r1 := (rd_mk (fm2.keep w ga (fun f => f)) (i := oa + 1)).trans a1
    have la2 := la.rd.keepW w fm2 nNo
    have lb2 := lb.rd.keepW w fm2 nNo
    simp +contextual (disch := omega) only [↓AM, ↓AV, AP, CQ, r1]
    rw [hgc] at lu ⊢
    refine (c_divG ⟨la2, la.le, la.dl⟩ lu (by omega) (by omega) hg0).use ?_
    rintro _ h3 w3 ⟨up, _, rfl, lup, -, fm3⟩
    have fm3h := fm2.trans fm3 fun _ _ f => f
    have q1 := (rd_mk (fm3h.keep w gb (fun f => f)) (i := ob + 1)).trans b1
    simp +contextual (disch := omega) only [↓AM, ↓AV, AP, CQ, q1]
    refine (c_divG ⟨lb2.keepW w2 fm3 nNo, lb.le, lb.dl⟩ ⟨lu.rd.keepW w2 fm3 nNo, lu.le, lu.dl⟩ (by omega) (by omega) hg0).use ?_
    rintro _ h4 w4 ⟨dn, _, rfl, ldn, -, fm4⟩
    have fm4h := fm3h.trans fm4 fun _ _ f => f
    have r0 := (rd_mk (fm4h.keep w ga (fun f => f)) (i := oa)).trans a0
    have q0 := (rd_mk (fm4h.keep w gb (fun f => f)) (i := ob)).trans b0
    simp +contextual (disch := omega) only [↓AM, ↓AV, AP, CQ, r0, q0, bne]
    have xa4 := xa.keep w fm4h
    refine (c_setS (decide (z < 0)) (xa4.le (o' := 0) (by omega)) (lup.keep w3 fm4)).use ?_
    rintro _ h5 w5 ⟨rfl, wr5, n5, -⟩
    simp +contextual (disch := omega) only [↓AM, ↓AV, AP, CQ]
    have xa5 := xa4.wr w4 wr5
    refine (c_set xa5 (ldn.wr w4 wr5 xa4.sf)).use ?_
    rintro _ h6 w6 ⟨rfl, wr6, n6, sm⟩
    simp +contextual (disch := omega) only [↓AM, ↓AV, AP, CQ]
    refine ⟨((Wr.of (F := fun y => y = bx) w fm4h).trans w w4 wr5 fun _ _ f => f).trans w w5 wr6 fun _ _ f => f, by rw [← hdiv]; exact n5.same w5 wr6 (sm 0 (by omega) (by omega)) (sm 1 (by omega) (by omega)), n6⟩
  · have e0 : ((0 : Int) < ((dg k).length : Int)) = True := eq_true (by have := dg_pos.2 hk0; omega)
    simp +contextual (disch := omega) only [↓AM, ↓AV, AP, CQ, e0]
    refine (c_divG lu lv (by omega) (by omega) hk0).use ?_
    rintro _ h3 w3 ⟨qu, rm, rfl, -, lrm, fm3⟩
    simp +contextual (disch := omega) only [↓AM, ↓AV, AP, CQ]
    refine ⟨x % k, Nat.mod_lt _ hk0, w3, fm2.trans fm3 fun _ _ f => f, k, _, _, Nat.le_trans (dg_mono (Nat.le_of_lt (Nat.mod_lt _ hk0))) hk, hk, ?_, ⟨av, cv, rfl, lv.rd.keepW w2 fm3 nNo, lv.le, lv.dl⟩, lrm, rfl⟩
    rw [← hgc, Nat.gcd_comm x k, Nat.gcd_rec k x, Nat.gcd_comm]
theorem tdiv_sgn (a b : Int) : (if (decide (a < 0) != decide (b < 0)) then -((a.natAbs / b.natAbs : Nat) : Int) else ((a.natAbs / b.natAbs : Nat) : Int)) = a.tdiv b ∧ (if decide (a < 0) then -((a.natAbs % b.natAbs : Nat) : Int) else ((a.natAbs % b.natAbs : Nat) : Int)) = a.tmod b := by
  have key : ∀ n m : Nat, (n : Int).tdiv (m : Int) = ((n / m : Nat) : Int) ∧ (n : Int).tmod (m : Int) = ((n % m : Nat) : Int) := fun n m => ⟨rfl, rfl⟩
  have ab : ∀ k : Nat, ((k : Nat) : Int).natAbs = k := fun k => by omega
  have pos : ∀ k : Nat, ¬ ((k : Int) < 0) := fun k => by omega
  by_cases ha : a < 0 <;> by_cases hb : b < 0
  · obtain ⟨n, rfl⟩ : ∃ n : Nat, a = -(n : Int) := ⟨a.natAbs, by omega⟩
    obtain ⟨m, rfl⟩ : ∃ m : Nat, b = -(m : Int) := ⟨b.natAbs, by omega⟩
    rw [decide_eq_true ha, decide_eq_true hb, Int.natAbs_neg, Int.natAbs_neg, ab, ab, Int.neg_tdiv, Int.tdiv_neg, Int.neg_neg, Int.neg_tmod, Int.tmod_neg, (key n m).1, (key n m).2]
    exact ⟨rfl, rfl⟩
  · obtain ⟨n, rfl⟩ : ∃ n : Nat, a = -(n : Int) := ⟨a.natAbs, by omega⟩
    obtain ⟨m, rfl⟩ : ∃ m : Nat, b = (m : Int) := ⟨b.natAbs, by omega⟩
    rw [decide_eq_true ha, decide_eq_false hb, Int.natAbs_neg, ab, ab, Int.neg_tdiv, Int.neg_tmod, (key n m).1, (key n m).2]
    exact ⟨rfl, rfl⟩
  · obtain ⟨n, rfl⟩ : ∃ n : Nat, a = (n : Int) := ⟨a.natAbs, by omega⟩
    obtain ⟨m, rfl⟩ : ∃ m : Nat, b = -(m : Int) := ⟨b.natAbs, by omega⟩
    rw [decide_eq_false ha, decide_eq_true hb, Int.natAbs_neg, ab, ab, Int.tdiv_neg, Int.tmod_neg, (key n m).1, (key n m).2]
    exact ⟨rfl, rfl⟩
  · obtain ⟨n, rfl⟩ : ∃ n : Nat, a = (n : Int) := ⟨a.natAbs, by omega⟩
    obtain ⟨m, rfl⟩ : ∃ m : Nat, b = (m : Int) := ⟨b.natAbs, by omega⟩
    rw [decide_eq_false ha, decide_eq_false hb, ab, ab, (key n m).1, (key n m).2]
    exact ⟨rfl, rfl⟩
theorem c_QuoRemG {h : Hp} {bx ox ba oa bb ob br or' : Nat} {x y : Int} (xa : XAt h bx ox) (ra : XAt h br or') (hne : bx ≠ br) (na : IntAt h ba oa x) (nb : IntAt h bb ob y) (hx : (dg x.natAbs).length ≤ 100000) (hy0 : y ≠ 0) (hy : (dg y.natAbs).length ≤ 100000) :
    ACalls Try.prog 120 [.pointer (some ⟨bx, ox, none⟩), .pointer (some ⟨ba, oa, none⟩), .pointer (some ⟨bb, ob, none⟩), .pointer (some ⟨br, or', none⟩)] h fun r h' =>
      r = .tuple #[.pointer (some ⟨bx, ox, none⟩), .pointer (some ⟨br, or', none⟩)] ∧ Wr (fun y => y = bx ∨ y = br) h h' ∧ IntAt h' bx ox (x.tdiv y) ∧ IntAt h' br or' (x.tmod y) := by
  refine num_Int__QuoRem_ok.snd hm rfl fun w => ?_
  rw [WF_eq, num_Int__QuoRem]
  obtain ⟨ca, a, c, ga, sa, a0, a1, la⟩ := na
  obtain ⟨cb, b, d, gb, sb, b0, b1, lb⟩ := nb
  have r0 := (rd_mk ga (i := oa)).trans a0
  have r1 := (rd_mk ga (i := oa + 1)).trans a1
  have q0 := (rd_mk gb (i := ob)).trans b0
  have q1 := (rd_mk gb (i := ob + 1)).trans b1
  obtain ⟨t1, t2⟩ := tdiv_sgn x y
  simp +contextual (disch := omega) only [↓AM, ↓AV, AP, CQ, r0, r1, q0, q1]
  refine (c_divG la lb hx hy (by omega)).use ?_
  rintro _ h1 w1 ⟨u, v, rfl, lu, lv, fm⟩
  have r1 := (rd_mk (fm.keep w ga (fun f => f)) (i := oa + 1)).trans a1
  have q1 := (rd_mk (fm.keep w gb (fun f => f)) (i := ob + 1)).trans b1
  simp +contextual (disch := omega) only [↓AM, ↓AV, AP, CQ, r1, q1]
  have ra1 := ra.keep w fm
  have xa1 := xa.keep w fm
  refine (c_setS (decide (x < 0)) ra1 lv).use ?_
  rintro _ h2 w2 ⟨rfl, wr, n, -⟩
  rw [t2] at n
  simp +contextual (disch := omega) only [↓AM, ↓AV, AP, CQ]
  have xa2 := xa1.wr w1 wr
  refine (c_setS (decide (x < 0) != decide (y < 0)) xa2 (lu.wr w1 wr ra1.sf)).use ?_
  rintro _ h3 w3 ⟨rfl, wr3, n3, -⟩
  rw [t1] at n3
  simp +contextual (disch := omega) only [↓AM, ↓AV, AP, CQ]
  refine ⟨((Wr.of (F := fun y => y = bx ∨ y = br) w fm).trans w w1 wr fun _ _ f => .inr f).trans w w2 wr3 fun _ _ f => .inl f, n3, n.wr w2 wr3 xa2.sf (fun e => hne e.symm)⟩
theorem c_SignG {h : Hp} {b o : Nat} {z : Int} (n : IntAt h b o z) :
    ACalls Try.prog 114 [.pointer (some ⟨b, o, none⟩)] h fun r h' => r = .int .i64 (sgnZ z) ∧ h' = h := by
  refine num_Int__Sign_ok.snd hm rfl fun w => ?_
  rw [WF_eq, num_Int__Sign]
  have r0 := n.r0
  obtain ⟨a, c, r1, la⟩ := n.r1
  by_cases hz : z = 0
  · have e0 : EqI ((dg z.natAbs).length : Int) 0 = True := eq_true (by rw [hz]; show EqI ((dg 0).length : Int) 0; rw [dg_0]; rfl)
    simp +contextual (disch := omega) only [↓AM, ↓AV, AP, CQ, r1, e0]
    rw [hz]; rfl
  · have e0 : EqI ((dg z.natAbs).length : Int) 0 = False := eq_false (by have := dg_pos.2 (show 0 < z.natAbs by omega); unfold EqI; omega)
    by_cases hn : z < 0
    · have e1 : decide (z < 0) = true := decide_eq_true hn
      rw [e1] at r0
      simp +contextual (disch := omega) only [↓AM, ↓AV, AP, CQ, r1, r0, e0]
      unfold sgnZ
      rw [if_pos hn]
    · have e1 : decide (z < 0) = false := decide_eq_false hn
      rw [e1] at r0
      simp +contextual (disch := omega) only [↓AM, ↓AV, AP, CQ, r1, r0, e0]
      unfold sgnZ
      rw [if_neg hn, if_neg hz]
theorem c_lowS {h : Hp} {b o x : Nat} {z : Int} (n : IntAt h b o z) (hzx : z.natAbs = x) (hx : x < 18446744073709551616) :
    ACalls Try.prog 119 [.pointer (some ⟨b, o, none⟩)] h fun r h' => r = .int .u64 (x : Int) ∧ h' = h := by
  refine num_Int__low_ok.snd hm rfl fun w => ?_
  rw [WF_eq, num_Int__low]
  obtain ⟨a, c, r1, la⟩ := n.r1
  rw [hzx] at r1 la
  have hlen : (dg x).length ≤ 2 := by
    rcases Nat.lt_or_ge 2 (dg x).length with h | h
    · exfalso
      have h1 := vL_ge b32 (dig_nz (hB := b32) x) (by intro e; rw [show dg x = [] from e] at h; simp at h)
      rw [show vL B32 (dig B32 b32 x) = x from dg_val x] at h1
      have h2 : B32 ^ 2 ≤ B32 ^ ((dig B32 b32 x).length - 1) := Nat.pow_le_pow_right (by decide) (by show 2 ≤ (dg x).length - 1; omega)
      have : B32 ^ 2 = 18446744073709551616 := by decide
      omega
    · exact h
  have emn : intMin [.int .i64 2, .int .i64 ((dg x).length : Int)] = some (.int .i64 ((dg x).length : Int)) := by
    have : (dg x).length = 0 ∨ (dg x).length = 1 ∨ (dg x).length = 2 := by omega
    rcases this with e | e | e <;> rw [e] <;> rfl
  simp +contextual (disch := omega) only [↓AM, ↓AV, AP, CQ, i64, r1, emn]
  refine WL.mk (fun k t h' => h' = h ∧ k ≤ (dg x).length ∧ t = [(0, some (.pointer (some ⟨b, o, none⟩))), (3, some (.int .u64 ((vL B32 ((dg x).drop k) : Nat) : Int))), (4, some (.int .i64 ((k : Int) - 1)))]) ⟨(dg x).length, rfl, Nat.le_refl _, by rw [List.drop_eq_nil_of_le (Nat.le_refl _)]; rfl⟩ ?_
  rintro k t hh ⟨rfl, hk, rfl⟩
  cases k with
  | zero =>
    have e2 : ((0 : Int) ≤ ((0 : Nat) : Int) - 1) = False := by simp
    simp +contextual (disch := omega) only [↓AM, ↓AV, AP, CQ, i64, e2, List.drop_zero]
    rw [dg_val]
  | succ k =>
    have hk1 : k < (dg x).length := by omega
    obtain ⟨b1, o1, s1, p, rfl, f1, hp, r2⟩ := la.rd.nat hk1
    have hpl : p < 4294967296 := la.dl.at hp
    have hvl : vL B32 ((dg x).drop (k + 1)) < 4294967296 := by
      have h1 := vL_lt (B := B32) (l := (dg x).drop (k + 1)) fun d hd => dg_dl x d (List.mem_of_mem_drop hd)
      rw [List.length_drop] at h1
      have h2 : B32 ^ ((dg x).length - (k + 1)) ≤ B32 ^ 1 := Nat.pow_le_pow_right (by decide) (by omega)
      have : B32 ^ 1 = 4294967296 := by decide
      omega
    have ed : vL B32 ((dg x).drop k) = vL B32 ((dg x).drop (k + 1)) * 4294967296 + p := by
      rw [List.drop_eq_getElem_cons hk1]
      rw [List.getElem?_eq_getElem hk1] at hp
      rw [Option.some.inj hp, vL]
      show p + 4294967296 * _ = _
      omega
    generalize vL B32 ((dg x).drop (k + 1)) = v at *
    have eor := or_32 hvl hpl
    simp +contextual (disch := omega) only [↓AM, ↓AV, AP, CQ, CN, i64, u64, f1, r1, r2, hk1, eor]
    exact ⟨k, by omega, by omega, by rw [ed]⟩
theorem c_Int64G {h : Hp} {b o : Nat} {z : Int} (n : IntAt h b o z) (hz : -9223372036854775807 ≤ z ∧ z ≤ 9223372036854775807) :
    ACalls Try.prog 97 [.pointer (some ⟨b, o, none⟩)] h fun r h' => r = .int .i64 z ∧ h' = h := by
  refine num_Int__Int64_ok.snd hm rfl fun w => ?_
  rw [WF_eq, num_Int__Int64]
  have r0 := n.r0
  by_cases hn : z < 0
  · have e1 : decide (z < 0) = true := decide_eq_true hn
    rw [e1] at r0
    simp +contextual (disch := omega) only [↓AM, ↓AV, AP, CQ, r0]
    refine (c_lowS n rfl (by omega)).use ?_
    rintro _ _ w2 ⟨rfl, rfl⟩
    have e2 : 0 - (z.natAbs : Int) = z := by omega
    simp +contextual (disch := omega) only [↓AM, ↓AV, AP, CQ, i64, e2]
  · have e1 : decide (z < 0) = false := decide_eq_false hn
    rw [e1] at r0
    simp +contextual (disch := omega) only [↓AM, ↓AV, AP, CQ, r0]
    refine (c_lowS n rfl (by omega)).use ?_
    rintro _ _ w2 ⟨rfl, rfl⟩
    have e2 : (z.natAbs : Int) = z := by omega
    simp +contextual (disch := omega) only [↓AM, ↓AV, AP, CQ, i64, e2]
theorem c_IsInt64 {h : Hp} {b o : Nat} {z : Int} (n : IntAt h b o z) (hl : (dg z.natAbs).length ≤ 100000) :
    ACalls Try.prog 96 [.pointer (some ⟨b, o, none⟩)] h fun r h' => r = .bool (decide (-9223372036854775808 ≤ z ∧ z ≤ 9223372036854775807)) ∧ h' = h := by
  refine num_Int__IsInt64_ok.snd hm rfl fun w => ?_
  rw [WF_eq, num_Int__IsInt64]
  have r0 := n.r0
  obtain ⟨a, c, r1, la⟩ := n.r1
  by_cases hl2 : (2 : Int) < ((dg z.natAbs).length : Int)
  · have hbig : 18446744073709551616 ≤ z.natAbs := by
      refine Nat.le_of_not_lt fun hh => ?_
      have := dg_len (x := z.natAbs) (k := 2) (Nat.lt_of_lt_of_le hh (by decide))
      omega
    simp +contextual (disch := omega) only [↓AM, ↓AV, AP, CQ, r1, hl2]
    rw [decide_eq_false (by omega)]
  · have hsm : z.natAbs < 18446744073709551616 := by
      have := dg_len_lt (x := z.natAbs) (n := 2) (by omega)
      exact Nat.lt_of_lt_of_le this (by decide)
    simp +contextual (disch := omega) only [↓AM, ↓AV, AP, CQ, r1, hl2]
    refine (c_lowS n rfl hsm).use ?_
    rintro _ _ w2 ⟨rfl, rfl⟩
    by_cases h1 : (z.natAbs : Int) < 9223372036854775808
    · simp +contextual (disch := omega) only [↓AM, ↓AV, AP, CQ, h1]
      rw [decide_eq_true (by omega)]
    · by_cases hn : z < 0
      · have e1 : decide (z < 0) = true := decide_eq_true hn
        rw [e1] at r0
        simp +contextual (disch := omega) only [↓AM, ↓AV, AP, CQ, h1, r0]
        exact congrArg Value.bool (decide_eq_decide.2 (by unfold EqI; omega))
      · have e1 : decide (z < 0) = false := decide_eq_false hn
        rw [e1] at r0
        simp +contextual (disch := omega) only [↓AM, ↓AV, AP, CQ, h1, r0]
        rw [decide_eq_false (by omega)]
end Go.Proofs.Ytbfbgkhlngkifaa.Nu

/- The Big numbers of the document: digits in memory. Plain theorems over the abstract machine.
   Conditions: none. -/
namespace Go.Proofs.Ytbfbgkhlngkifaa.Nu
open Go Go.RowKit Go.Proofs.Ytbfbgkhlngkifaa.Am Go.Proofs.Ytbfbgkhlngkifaa.Af Go.Proofs.Ytbfbgkhlngkifaa.Md
set_option linter.unusedVariables false
set_option linter.unusedSimpArgs false
set_option linter.defProp false
set_option maxRecDepth 20000
set_option maxHeartbeats 1000000

abbrev B24 : Nat := 16777216
theorem b24 : 1 < B24 := by decide
def de (v : Nat) : List Nat := dig B24 b24 v
def j3 (M : List Nat) : List Value := (M.map Int.ofNat).map (Value.int .i64)
theorem j3_len (M : List Nat) : (j3 M).length = M.length := by simp [j3]
theorem j3_take (M : List Nat) (k : Nat) : (j3 M).take k = j3 (M.take k) := by simp [j3, List.map_take]
theorem j3_app (a b : List Nat) : j3 (a ++ b) = j3 a ++ j3 b := by simp [j3]
theorem _root_.Go.Proofs.Ytbfbgkhlngkifaa.Am.Rd.dec24 {h : Hp} {oa : Option Addr} {n : Nat} {M : List Nat} (r : Rd h 1 oa n (j3 M)) {i : Nat} (hi : i < n) :
    ∃ b off sp d, oa = some ⟨b, off, sp⟩ ∧ flagOk sp = true ∧ M[i]? = some d ∧ h.rd b (off + i) = some (.int .i64 (d : Int)) := by
  obtain ⟨b, off, sp, h1, h2, v, h3, h4⟩ := r.int hi
  rw [List.getElem?_map] at h3
  cases hm : M[i]? with
  | none => rw [hm] at h3; cases h3
  | some d => rw [hm] at h3; cases h3; exact ⟨b, off, sp, d, h1, h2, rfl, h4⟩
structure Em (h : Hp) (oa : Option Addr) (n c : Nat) (M : List Nat) : Prop where
  rd : Rd h 1 oa n (j3 M)
  le : n ≤ c
  dl : Dl B24 M
  fl : ∀ a, oa = some a → flagOk a.spot = true
  nl : oa = none → c = 0
theorem _root_.Go.Proofs.Ytbfbgkhlngkifaa.Am.Ow.flag {h : Hp} {z ln cap : Nat} {oa : Option Addr} {cs : List Value} (o : Ow h z oa ln cap cs) : ∀ a, oa = some a → flagOk a.spot = true := by
  rintro ad rfl
  obtain ⟨_, _, _, _, _, _, hs⟩ := o.at_ _ rfl
  rcases hs with hs | ⟨hs, _⟩ <;> rw [hs] <;> rfl
theorem Em.len {h : Hp} {oa : Option Addr} {n c : Nat} {M : List Nat} (l : Em h oa n c M) : M.length = n := by
  have := l.rd.len; rw [j3_len] at this; omega
/-- A slice that is the digits of a number. -/
def EmV (h : Hp) (v : Value) (x : Nat) : Prop := ∃ oa c, v = .slice oa (de x).length c ∧ Em h oa (de x).length c (de x)
/-- The same, in blocks of a kind. -/
def EmW (S : Nat → Prop) (h : Hp) (v : Value) (x : Nat) : Prop := ∃ oa c, v = .slice oa (de x).length c ∧ Em h oa (de x).length c (de x) ∧ ∀ z, At oa z → S z
theorem EmW.v {S : Nat → Prop} {h : Hp} {v : Value} {x : Nat} (l : EmW S h v x) : EmV h v x := by
  obtain ⟨oa, c, e, l, _⟩ := l
  exact ⟨oa, c, e, l⟩
theorem EmV.keep {h h' : Hp} {v : Value} {x : Nat} (l : EmV h v x) (w : Wf h) (fm : Fm No h h') : EmV h' v x := by
  obtain ⟨oa, c, e, l⟩ := l
  exact ⟨oa, c, e, l.rd.keepW w fm nNo, l.le, l.dl, l.fl, l.nl⟩
theorem de_dl (x : Nat) : Dl B24 (de x) := dig_dl x
theorem de_val (x : Nat) : vL B24 (de x) = x := dig_val x
theorem de_0 : de 0 = [] := dig_0
theorem de_S {x : Nat} (h : x ≠ 0) : de x = x % 16777216 :: de (x / 16777216) := dig_pos h
theorem de_len {x k : Nat} (h : x < B24 ^ k) : (de x).length ≤ k := by
  rcases Nat.lt_or_ge k (de x).length with hk | hk
  · exfalso
    have h1 := vL_ge b24 (dig_nz (hB := b24) x) (by intro e; rw [show de x = [] from e] at hk; simp at hk)
    rw [show vL B24 (dig B24 b24 x) = x from de_val x] at h1
    have h2 : B24 ^ k ≤ B24 ^ ((dig B24 b24 x).length - 1) := Nat.pow_le_pow_right (by decide) (by show k ≤ (de x).length - 1; omega)
    omega
  · exact hk
theorem nz_takeE {B : Nat} {M : List Nat} {k d : Nat} (h : M[k]? = some d) (hd : d ≠ 0) : Nz (M.take (k + 1)) := by
  unfold Nz
  rw [List.take_add_one, h]
  simp [hd]
theorem _root_.Go.Proofs.Ytbfbgkhlngkifaa.Am.Rd.takeE {h : Hp} {b off n cap k : Nat} {sp : Option Nat} {cs : List Value} (r : Rd h 1 (some ⟨b, off, sp⟩) n cs) (hf : flagOk sp = true) (hk : k ≤ n) (hc : n ≤ cap) :
    Rd h 1 (some (slAddr b off sp 1 0 cap true)) k (cs.take k) := by
  by_cases h0 : cap = 0
  · have hk0 : k = 0 := by omega
    have hn0 : n = 0 := by omega
    subst hk0 hn0 h0
    have e : cs = [] := List.length_eq_zero_iff.1 (by have := r.len; omega)
    subst e
    refine ⟨rfl, fun e => rfl, fun a e => ?_⟩
    rcases r.at_ _ rfl with ⟨h1, h2⟩ | ⟨h1, h2⟩
    · cases e
      cases sp with
      | none => exact .inl ⟨rfl, by simpa [slAddr] using h2⟩
      | some v =>
        cases hv : flagOk (some 0) with
        | true => exact .inl ⟨by simpa [slAddr] using hv, by simpa [slAddr] using h2⟩
        | false => exact .inr ⟨by simpa [slAddr] using hv, rfl⟩
    · rw [hf] at h1; cases h1
  · have e : slAddr b off sp 1 0 cap true = ⟨b, off, sp⟩ := by cases sp <;> simp [slAddr, h0]
    rw [e]
    exact r.take hk
/-- A Big: a sign and the digits of a size. -/
def BigV (S : Nat → Prop) (h : Hp) (v : Value) (neg : Bool) (x : Nat) : Prop := ∃ u, v = .agg #[.bool neg, u] ∧ EmW S h u x
end Go.Proofs.Ytbfbgkhlngkifaa.Nu

/- A few plain words. -/
namespace Go.Proofs.Ytbfbgkhlngkifaa.Nu
open Go Go.RowKit Go.Proofs.Ytbfbgkhlngkifaa.Am
theorem nab (m : Nat) : ((m : Nat) : Int).natAbs = m := by omega
theorem dlt (m : Nat) : decide (((m : Nat) : Int) < 0) = false := decide_eq_false (by omega)
theorem rd_lt {h : Hp} (w : Wf h) {b i : Nat} {v : Value} (e : h.rd b i = some v) : b < h.size := by
  unfold Hp.rd at e
  cases hg : h.get b with
  | none => rw [hg] at e; cases e
  | some o => exact w.lt hg
end Go.Proofs.Ytbfbgkhlngkifaa.Nu

/- Times of the program: valid, compared. Plain theorems over the abstract machine.
   Conditions: none. -/
namespace Go.Proofs.Ytbfbgkhlngkifaa.St
open Go Go.RowKit Go.Proofs.Ytbfbgkhlngkifaa.Am Go.Proofs.Ytbfbgkhlngkifaa.Af Go.Proofs.Ytbfbgkhlngkifaa.Md Go.Proofs.Ytbfbgkhlngkifaa.Nu
set_option linter.unusedVariables false
set_option linter.unusedSimpArgs false
set_option linter.defProp false
set_option maxRecDepth 20000
set_option maxHeartbeats 1000000

theorem flat_get {α : Type} {f : α → List Value} {z : Nat} (hf : ∀ x, (f x).length = z) : ∀ {xs : List α} {i : Nat} {x : α}, xs[i]? = some x → ((xs.flatMap f).drop (i * z)).take z = f x
  | [], i, x, h => by simp at h
  | y :: xs, 0, x, h => by
    have : y = x := by simpa using h
    subst this
    rw [List.flatMap_cons, Nat.zero_mul, List.drop_zero, List.take_left' (hf y)]
  | y :: xs, i + 1, x, h => by
    have h' : xs[i]? = some x := by simpa using h
    rw [List.flatMap_cons, Nat.add_mul, Nat.one_mul, Nat.add_comm (i * z) z, List.drop_append, hf, List.drop_eq_nil_of_le (by rw [hf]; omega), List.nil_append, show z + i * z - z = i * z by omega]
    exact flat_get hf h'
theorem flat_take {α : Type} {f : α → List Value} {z : Nat} (hf : ∀ x, (f x).length = z) : ∀ (xs : List α) (i : Nat), (xs.flatMap f).take (i * z) = (xs.take i).flatMap f
  | [], i => by simp
  | x :: xs, 0 => by simp
  | x :: xs, i + 1 => by
    rw [List.flatMap_cons, List.take_succ_cons, List.flatMap_cons, List.take_append, hf, List.take_of_length_le (by rw [hf, Nat.add_mul]; omega), show (i + 1) * z - z = i * z by rw [Nat.add_mul]; omega, flat_take hf xs i]
/-- The element at a place. -/
theorem _root_.Go.Proofs.Ytbfbgkhlngkifaa.Am.Rd.elem {α : Type} {f : α → List Value} {z : Nat} {h : Hp} {oa : Option Addr} {n : Nat} {xs : List α} (r : Rd h z oa n (xs.flatMap f)) (hf : ∀ x, (f x).length = z) (hl : xs.length = n) {i : Nat} (hi : i < n) :
    ∃ b off sp x, oa = some ⟨b, off, sp⟩ ∧ flagOk sp = true ∧ xs[i]? = some x ∧ h.rdN b (off + i * z) z = some (f x) ∧ ∀ j v, (f x)[j]? = some v → h.rd b (off + i * z + j) = some v := by
  obtain ⟨b, off, sp, e, h1, h2⟩ := r.pos (by omega)
  have hx : xs[i]? = some xs[i] := List.getElem?_eq_getElem (by omega)
  have h3 := rdN_sub (k := i * z) (l := z) h2 (by rw [← Nat.succ_mul]; exact Nat.mul_le_mul_right z hi)
  rw [flat_get hf hx] at h3
  exact ⟨b, off, sp, _, e, h1, hx, h3, fun j v hv => rdN_get h3 hv⟩
abbrev Tim := Int × Int
def timC (x : Tim) : List Value := [.int .i64 x.1, .int .i64 x.2]
theorem timC_len (x : Tim) : (timC x).length = 2 := rfl
/-- A valid time. -/
def VT (x : Tim) : Prop := 1 ≤ x.2 ∧ x.2 ≤ 1152921504606846976 ∧ -1152921504606846976 ≤ x.1 ∧ x.1 ≤ 1152921504606846976
instance (x : Tim) : Decidable (VT x) := by unfold VT; infer_instance
theorem c_Valid {h : Hp} {x : Tim} : ACalls Try.prog 17 [.agg #[.int .i64 x.1, .int .i64 x.2]] h fun v h' => v = .bool (decide (VT x)) ∧ Fm No h h' := by
  refine exact_Valid_ok.snd Af.hm rfl fun w => ?_
  rw [WF_eq, exact_Valid]
  obtain ⟨h0, e0⟩ : ∃ g, h.new ⟨[.int .i64 x.1, .int .i64 x.2], .own⟩ = g := ⟨_, rfl⟩
  have f0 : Fm No h h0 := e0 ▸ Fm.new Fm.refl
  have r0 : ∀ i, h0.rd h.size i = ([.int .i64 x.1, .int .i64 x.2] : List Value)[i]? := fun i => rd_mk (e0 ▸ gnew)
  by_cases h1 : 1 ≤ x.2
  · by_cases h2 : x.2 ≤ 1152921504606846976
    · by_cases h3 : -1152921504606846976 ≤ x.1
      · simp +contextual (disch := omega) only [↓AM, ↓AV, AP, CQ, e0, r0, h1, h2, h3]
        exact ⟨congrArg Value.bool (decide_eq_decide.2 (by unfold VT; omega)), f0⟩
      · simp +contextual (disch := omega) only [↓AM, ↓AV, AP, CQ, e0, r0, h1, h2, h3]
        exact ⟨by rw [decide_eq_false (show ¬ VT x from fun h => h3 h.2.2.1)], f0⟩
    · simp +contextual (disch := omega) only [↓AM, ↓AV, AP, CQ, e0, r0, h1, h2]
      exact ⟨by rw [decide_eq_false (show ¬ VT x from fun h => h2 h.2.1)], f0⟩
  · simp +contextual (disch := omega) only [↓AM, ↓AV, AP, CQ, e0, r0, h1]
    exact ⟨by rw [decide_eq_false (show ¬ VT x from fun h => h1 h.1)], f0⟩
def nVT (x : Tim) : Bool := !decide (VT x)
theorem c_valid1 {h : Hp} {x : Tim} : ACalls Try.prog 75 [.agg #[.int .i64 x.1, .int .i64 x.2]] h fun v h' => v = .bool (nVT x) ∧ Fm No h h' := by
  refine exact_valid_1_ok.snd Af.hm rfl fun w => ?_
  rw [WF_eq, exact_valid_1]
  have fm0 : ∀ o, Fm No h (h.new o) := fun o => Fm.new Fm.refl
  have n0 : (h.new ⟨[.int .i64 x.1, .int .i64 x.2], .own⟩).rdN h.size 0 2 = some [.int .i64 x.1, .int .i64 x.2] := rd_n2
  simp +contextual (disch := omega) only [↓AM, ↓AV, AP, CQ, n0]
  refine c_Valid.use ?_
  rintro _ h1 w1 ⟨rfl, fm⟩
  simp +contextual (disch := omega) only [↓AM, ↓AV, AP, CQ]
  exact ⟨by simp [nVT], (fm0 _).trans fm fun _ _ f => f⟩
/-- Not small. -/
def Lg (x : Tim) : Prop := 1073741824 ≤ x.1 ∨ x.1 ≤ -1073741824 ∨ 1073741824 ≤ x.2
instance (x : Tim) : Decidable (Lg x) := by unfold Lg; infer_instance
def bLg (x : Tim) : Bool := decide (Lg x)
theorem c_little1 {h : Hp} {x : Tim} : ACalls Try.prog 107 [.agg #[.int .i64 x.1, .int .i64 x.2]] h fun v h' => v = .bool (bLg x) ∧ Fm No h h' := by
  refine exact_little_1_ok.snd Af.hm rfl fun w => ?_
  rw [WF_eq, exact_little_1]
  obtain ⟨h0, e0⟩ : ∃ g, h.new ⟨[.int .i64 x.1, .int .i64 x.2], .own⟩ = g := ⟨_, rfl⟩
  have f0 : Fm No h h0 := e0 ▸ Fm.new Fm.refl
  have r0 : ∀ i, h0.rd h.size i = ([.int .i64 x.1, .int .i64 x.2] : List Value)[i]? := fun i => rd_mk (e0 ▸ gnew)
  by_cases h1 : 1073741824 ≤ x.1
  · simp +contextual (disch := omega) only [↓AM, ↓AV, AP, CQ, e0, r0, h1]
    exact ⟨by unfold bLg; rw [decide_eq_true (show Lg x from .inl h1)], f0⟩
  · by_cases h2 : x.1 ≤ -1073741824
    · simp +contextual (disch := omega) only [↓AM, ↓AV, AP, CQ, e0, r0, h1, h2]
      exact ⟨by unfold bLg; rw [decide_eq_true (show Lg x from .inr (.inl h2))], f0⟩
    · simp +contextual (disch := omega) only [↓AM, ↓AV, AP, CQ, e0, r0, h1, h2]
      exact ⟨congrArg Value.bool (decide_eq_decide.2 (by unfold Lg; omega)), f0⟩
theorem c_IndexTime {h : Hp} {a : Option Addr} {n c f : Nat} {us vs : Array Value} {xs : List Tim} {p : Tim → Bool} (ha : Rd h 2 a n (xs.flatMap timC)) (hl : xs.length = n) (hn : n ≤ 140737488351232) (hf : okF Try.prog f = true)
    (hp : ∀ x ∈ xs, ∀ h1, Fm No h h1 → ACalls Try.prog f (us.toList ++ [.agg #[.int .i64 x.1, .int .i64 x.2]] ++ vs.toList) h1 fun v h' => v = .bool (p x) ∧ Fm No h1 h') :
    ACalls Try.prog 106 [.slice a n c, .func (.func f) us vs] h fun v h' => (∃ i : Int, v = .int .i64 i ∧ decide (0 ≤ i) = xs.any p) ∧ Fm No h h' := by
  refine slices_IndexFunc___api_Time_api_Time__ok.snd hm rfl fun w => ?_
  rw [WF_eq, slices_IndexFunc___api_Time_api_Time_]
  simp +contextual only [↓AM, ↓AV, AP]
  refine WL.mk (fun k t h' => Wf h' ∧ Fm No h h' ∧ ∃ i : Nat, i ≤ n ∧ k = n - i ∧ (xs.take i).any p = false ∧ t = [(0, some (.slice a n c)), (1, some (.func (.func f) us vs)), (7, some (.int .i64 n)), (8, some (.int .i64 i))]) ⟨n, w, Fm.refl, 0, by simp, rfl, rfl, rfl⟩ ?_
  rintro k t h1 ⟨w1, fm, i, hi, rfl, hall, rfl⟩
  by_cases hin : i < n
  · obtain ⟨b1, o1, s1, u, rfl, f1, hu, r1, -⟩ := (ha.keep w fm (fun x _ => id)).elem timC_len hl hin
    simp only [timC] at r1
    simp +contextual only [↓AM, ↓AV, AP, f1, r1, hin]
    refine ⟨hf, (hp u (List.mem_of_getElem? hu) _ fm).use ?_⟩
    rintro _ h2 w2 ⟨rfl, fm2⟩
    have fm' := fm.trans fm2 (fun _ _ x => x)
    simp +contextual only [↓AM, ↓AV, AP]
    refine ⟨fun hpu => ⟨⟨_, rfl, ?_⟩, fm'⟩, fun hpu => ⟨_, ?_, w2, fm', i + 1, hin, rfl, ?_, ?_⟩⟩
    · have : xs.any p = true := List.any_eq_true.2 ⟨u, List.mem_of_getElem? hu, hpu⟩
      rw [this]; simp
    · omega
    · rw [List.take_add_one, hu]; simp [hall, hpu]
    · rw [i64 (by omega)]; rfl
  · simp +contextual only [↓AM, ↓AV, AP, hin]
    rw [List.take_of_length_le (by omega)] at hall
    exact ⟨⟨_, rfl, by rw [hall]; rfl⟩, fm⟩
theorem c_ContainsTime {h : Hp} {a : Option Addr} {n c f : Nat} {us vs : Array Value} {xs : List Tim} {p : Tim → Bool} (ha : Rd h 2 a n (xs.flatMap timC)) (hl : xs.length = n) (hn : n ≤ 140737488351232) (hf : okF Try.prog f = true)
    (hp : ∀ x ∈ xs, ∀ h1, Fm No h h1 → ACalls Try.prog f (us.toList ++ [.agg #[.int .i64 x.1, .int .i64 x.2]] ++ vs.toList) h1 fun v h' => v = .bool (p x) ∧ Fm No h1 h') :
    ACalls Try.prog 74 [.slice a n c, .func (.func f) us vs] h fun v h' => v = .bool (xs.any p) ∧ Fm No h h' := by
  refine slices_ContainsFunc___api_Time_api_Time__ok.snd hm rfl fun w => ?_
  rw [WF_eq, slices_ContainsFunc___api_Time_api_Time_]
  simp +contextual only [↓AM, ↓AV, AP]
  refine (c_IndexTime ha hl hn hf hp).use ?_
  rintro _ _ w1 ⟨⟨i, rfl, hi⟩, fm⟩
  simp +contextual only [↓AM, ↓AV, AP, hi]
  exact fm

/-! ### the error of a lock -/
def badP (x : Int × Int) : Bool := !decide (0 ≤ x.1 ∧ x.1 ≤ 65536) || !decide (0 ≤ x.2 ∧ x.2 ≤ 65536)
theorem c_validL {h : Hp} {a : Option Addr} {n c : Nat} {xs : List Tim} (ha : Rd h 2 a n (xs.flatMap timC)) (hl : xs.length = n) (hn : n ≤ 140737488351232) :
    ACalls Try.prog 37 [.slice a n c] h fun v h' => v = .bool (!(xs.any nVT)) ∧ Fm No h h' := by
  refine exact_valid_ok.snd Af.hm rfl fun w => ?_
  rw [WF_eq, exact_valid]
  simp +contextual only [↓AM, ↓AV, AP]
  refine (c_ContainsTime (us := #[]) (vs := #[]) (p := nVT) ha hl hn exact_valid_1_ok.2 (fun x _ h1 _ => c_valid1)).use ?_
  rintro _ h1 w1 ⟨rfl, fm⟩
  simp +contextual only [↓AM, ↓AV, AP]
  exact fm
theorem c_littleL {h : Hp} {a : Option Addr} {n c : Nat} {xs : List Tim} (ha : Rd h 2 a n (xs.flatMap timC)) (hl : xs.length = n) (hn : n ≤ 140737488351232) :
    ACalls Try.prog 76 [.slice a n c] h fun v h' => v = .bool (!(xs.any bLg)) ∧ Fm No h h' := by
  refine exact_little_ok.snd Af.hm rfl fun w => ?_
  rw [WF_eq, exact_little]
  simp +contextual only [↓AM, ↓AV, AP]
  refine (c_ContainsTime (us := #[]) (vs := #[]) (p := bLg) ha hl hn exact_little_1_ok.2 (fun x _ h1 _ => c_little1)).use ?_
  rintro _ h1 w1 ⟨rfl, fm⟩
  simp +contextual only [↓AM, ↓AV, AP]
  exact fm
theorem dg_len {x k : Nat} (h : x < B32 ^ k) : (dg x).length ≤ k := by
  rcases Nat.lt_or_ge k (dg x).length with hk | hk
  · exfalso
    have h1 := vL_ge b32 (dig_nz (hB := b32) x) (by intro e; rw [show dg x = [] from e] at hk; simp at hk)
    rw [show vL B32 (dig B32 b32 x) = x from dg_val x] at h1
    have h2 : B32 ^ k ≤ B32 ^ ((dig B32 b32 x).length - 1) := Nat.pow_le_pow_right (by decide) (by show k ≤ (dg x).length - 1; omega)
    omega
  · exact hk
theorem dg2 {x : Nat} (h : x ≤ 9223372036854775808) : (dg x).length ≤ 2 := dg_len (Nat.lt_of_le_of_lt h (by decide))
theorem dg_mul {x y k l : Nat} (hx : (dg x).length ≤ k) (hy : (dg y).length ≤ l) : (dg (x * y)).length ≤ k + l := by
  have h1 := vL_lt (dg_dl x)
  have h2 := vL_lt (dg_dl y)
  rw [dg_val] at h1 h2
  refine dg_len ?_
  have h3 : B32 ^ (dg x).length ≤ B32 ^ k := Nat.pow_le_pow_right (by decide) hx
  have h4 : B32 ^ (dg y).length ≤ B32 ^ l := Nat.pow_le_pow_right (by decide) hy
  rw [Nat.pow_add]
  exact Nat.mul_lt_mul_of_lt_of_le (Nat.lt_of_lt_of_le h1 h3) (Nat.le_trans (Nat.le_of_lt h2) h4) (Nat.lt_of_lt_of_le (by omega) h4)
theorem c_product {h : Hp} {x y : Int} (hx : -9223372036854775808 ≤ x ∧ x ≤ 9223372036854775807) (hy : -9223372036854775808 ≤ y ∧ y ≤ 9223372036854775807) :
    ACalls Try.prog 77 [.int .i64 x, .int .i64 y] h fun r h' => ∃ b, r = .pointer (some ⟨b, 0, none⟩) ∧ IntAt h' b 0 (x * y) ∧ Fm No h h' := by
  refine exact_product_ok.snd Af.hm rfl fun w => ?_
  rw [WF_eq, exact_product]
  obtain ⟨h0, e0⟩ : ∃ g, h.new ⟨[.bool false, .slice none 0 0], .own⟩ = g := ⟨_, rfl⟩
  have w0 : Wf h0 := e0 ▸ w.new
  have f0 : Fm No h h0 := e0 ▸ Fm.new Fm.refl
  have x0 : XAt h0 h.size 0 := e0 ▸ x_new (by decide)
  simp +contextual (disch := omega) only [↓AM, ↓AV, AP, CQ, e0]
  refine (c_newIS hx).use ?_
  rintro _ h1 w1 ⟨b1, rfl, l1, n1, f1⟩
  simp +contextual (disch := omega) only [↓AM, ↓AV, AP, CQ, e0]
  refine (c_newIS hy).use ?_
  rintro _ h2 w2 ⟨b2, rfl, l2, n2, f2⟩
  simp +contextual (disch := omega) only [↓AM, ↓AV, AP, CQ, e0]
  refine (c_MulS ((x0.keep w0 f1).keep w1 f2) (n1.keep w1 f2) n2 (Nat.le_trans (dg2 (by omega)) (by decide)) (Nat.le_trans (dg2 (by omega)) (by decide))).use ?_
  rintro _ h3 w3 ⟨rfl, wr, n3⟩
  simp +contextual (disch := omega) only [↓AM, ↓AV, AP, CQ, e0]
  exact ⟨_, rfl, n3, ((f0.trans f1 fun _ _ f => f).trans f2 fun _ _ f => f).trans wr.fm fun z hz e => by omega⟩
theorem mul_b {x y : Int} (hx : -1073741824 < x ∧ x < 1073741824) (hy : 0 < y ∧ y < 1073741824) : -1152921504606846976 ≤ x * y ∧ x * y ≤ 1152921504606846976 := by
  obtain ⟨m, rfl⟩ : ∃ m : Nat, y = (m : Int) := ⟨y.toNat, by omega⟩
  have h1 : (x * m).natAbs = x.natAbs * m := by rw [Int.natAbs_mul, nab]
  have h2 : x.natAbs * m ≤ 1073741824 * 1073741824 := Nat.mul_le_mul (by omega) (by omega)
  omega
theorem cmpZ_01 {a b : Int} : cmpZ a b = (if a < b then -1 else if b < a then 1 else 0) := by
  unfold cmpZ
  split
  · rfl
  · split <;> split <;> omega
theorem c_cmpT {h : Hp} {x y : Tim} (hx : VT x) (hy : VT y) : ACalls Try.prog 38 [.agg #[.int .i64 x.1, .int .i64 x.2], .agg #[.int .i64 y.1, .int .i64 y.2]] h fun v h' => v = .int .i64 (cmpZ (x.1 * y.2) (y.1 * x.2)) ∧ Fm No h h' := by
  refine exact_cmp_ok.snd Af.hm rfl fun w => ?_
  rw [WF_eq, exact_cmp]
  obtain ⟨x1, x2⟩ := x
  obtain ⟨y1, y2⟩ := y
  simp only at *
  obtain ⟨hx1, hx2, hx3, hx4⟩ := hx
  obtain ⟨hy1, hy2, hy3, hy4⟩ := hy
  simp only at hx1 hx2 hx3 hx4 hy1 hy2 hy3 hy4
  obtain ⟨h0, e0⟩ : ∃ g, h.new ⟨[.int .i64 x1, .int .i64 x2], .own⟩ = g := ⟨_, rfl⟩
  obtain ⟨h1, e1⟩ : ∃ g, h0.new ⟨[.int .i64 y1, .int .i64 y2], .own⟩ = g := ⟨_, rfl⟩
  obtain ⟨h2, e2⟩ : ∃ g, h1.new ⟨[.int .i64 x1, .int .i64 x2, .int .i64 y1, .int .i64 y2], .own⟩ = g := ⟨_, rfl⟩
  have w0 : Wf h0 := e0 ▸ w.new
  have w1 : Wf h1 := e1 ▸ w0.new
  have w2 : Wf h2 := e2 ▸ w1.new
  have f0 : Fm No h h0 := e0 ▸ Fm.new Fm.refl
  have f1 : Fm No h0 h1 := e1 ▸ Fm.new Fm.refl
  have f2 : Fm No h1 h2 := e2 ▸ Fm.new Fm.refl
  have g0 : h1.get h.size = some ⟨[.int .i64 x1, .int .i64 x2], .own⟩ := f1.keep w0 (e0 ▸ gnew) (fun f => f)
  have g1 : h1.get h0.size = some ⟨[.int .i64 y1, .int .i64 y2], .own⟩ := e1 ▸ gnew
  have rds : ∀ g : Hp, Fm No h1 g → (∀ i, g.rd h.size i = ([.int .i64 x1, .int .i64 x2] : List Value)[i]?) ∧ (∀ i, g.rd h0.size i = ([.int .i64 y1, .int .i64 y2] : List Value)[i]?) := fun g fg => ⟨fun i => rd_mk (fg.keep w1 g0 (fun f => f)), fun i => rd_mk (fg.keep w1 g1 (fun f => f))⟩
  have n0 : h1.rdN h.size 0 2 = some [.int .i64 x1, .int .i64 x2] := rdN_mk g0 (by simp)
  have n1 : h1.rdN h0.size 0 2 = some [.int .i64 y1, .int .i64 y2] := rdN_mk g1 (by simp)
  have rl : Rd h2 2 (some ⟨h1.size, 0, none⟩) 2 ([(x1, x2), (y1, y2)].flatMap timC) := Rd.of rfl (by rw [← e2]; exact rd_n4)
  have f12 := (f0.trans f1 fun _ _ f => f).trans f2 fun _ _ f => f
  simp +contextual (disch := omega) only [↓AM, ↓AV, AP, CQ, e0, e1, n0, n1, e2]
  refine (c_littleL rl rfl (by omega)).use ?_
  rintro _ h3 w3 ⟨rfl, f3⟩
  obtain ⟨r0, r1⟩ := rds h3 (f2.trans f3 fun _ _ f => f)
  have f03 := f12.trans f3 fun _ _ f => f
  have eL : (!([(x1, x2), (y1, y2)].any bLg)) = decide (¬ Lg (x1, x2) ∧ ¬ Lg (y1, y2)) := by
    by_cases ha : Lg (x1, x2) <;> by_cases hb : Lg (y1, y2) <;> simp [ha, hb, bLg, nVT]
  rw [eL]
  by_cases hs : ¬ Lg (x1, x2) ∧ ¬ Lg (y1, y2)
  · obtain ⟨ha, hb⟩ := hs
    have hs : ¬ Lg (x1, x2) ∧ ¬ Lg (y1, y2) := ⟨ha, hb⟩
    unfold Lg at ha hb
    simp only at ha hb
    have m1 := mul_b (x := x1) (y := y2) (by omega) (by omega)
    have m2 := mul_b (x := y1) (y := x2) (by omega) (by omega)
    have ec : decide (¬ Lg (x1, x2) ∧ ¬ Lg (y1, y2)) = true := decide_eq_true hs
    rw [ec, cmpZ_01]
    have i1 : IntKind.i64.wrap (x1 * y2) = x1 * y2 := i64 (by omega)
    have i2 : IntKind.i64.wrap (y1 * x2) = y1 * x2 := i64 (by omega)
    by_cases c1 : x1 * y2 < y1 * x2
    · simp +contextual (disch := omega) only [↓AM, ↓AV, AP, CQ, e0, e1, e2, r0, r1, i1, i2, c1]
      exact f03
    · by_cases c2 : y1 * x2 < x1 * y2
      · simp +contextual (disch := omega) only [↓AM, ↓AV, AP, CQ, e0, e1, e2, r0, r1, i1, i2, c1, c2]
        exact f03
      · simp +contextual (disch := omega) only [↓AM, ↓AV, AP, CQ, e0, e1, e2, r0, r1, i1, i2, c1, c2]
        exact f03
  · rw [decide_eq_false hs]
    simp +contextual (disch := omega) only [↓AM, ↓AV, AP, CQ, e0, e1, e2, r0, r1]
    refine (c_product (by omega) (by omega)).use ?_
    rintro _ h4 w4 ⟨b4, rfl, n4, f4⟩
    obtain ⟨r2, r3⟩ := rds h4 ((f2.trans f3 fun _ _ f => f).trans f4 fun _ _ f => f)
    simp +contextual (disch := omega) only [↓AM, ↓AV, AP, CQ, e0, e1, e2, r0, r1, r2, r3]
    refine (c_product (by omega) (by omega)).use ?_
    rintro _ h5 w5 ⟨b5, rfl, n5, f5⟩
    simp +contextual (disch := omega) only [↓AM, ↓AV, AP, CQ]
    have d1 : (dg (x1 * y2).natAbs).length ≤ 4 := by rw [Int.natAbs_mul]; exact dg_mul (dg2 (by omega)) (dg2 (by omega))
    have d2 : (dg (y1 * x2).natAbs).length ≤ 4 := by rw [Int.natAbs_mul]; exact dg_mul (dg2 (by omega)) (dg2 (by omega))
    refine (c_CmpS (n4.keep w4 f5) n5 (by omega) (by omega)).use ?_
    rintro _ h6 w6 ⟨rfl, e⟩
    subst e
    simp +contextual (disch := omega) only [↓AM, ↓AV, AP, CQ]
    exact (f03.trans f4 fun _ _ f => f).trans f5 fun _ _ f => f
theorem c_CmpT {h : Hp} {x y : Tim} : ACalls Try.prog 18 [.agg #[.int .i64 x.1, .int .i64 x.2], .agg #[.int .i64 y.1, .int .i64 y.2]] h fun v h' => v = .tuple #[.int .i64 (if VT x ∧ VT y then cmpZ (x.1 * y.2) (y.1 * x.2) else 0), .int .i64 (if VT x ∧ VT y then 0 else 4)] ∧ Fm No h h' := by
  refine exact_Cmp_ok.snd Af.hm rfl fun w => ?_
  rw [WF_eq, exact_Cmp]
  obtain ⟨x1, x2⟩ := x
  obtain ⟨y1, y2⟩ := y
  simp only at *
  obtain ⟨h0, e0⟩ : ∃ g, h.new ⟨[.int .i64 x1, .int .i64 x2], .own⟩ = g := ⟨_, rfl⟩
  obtain ⟨h1, e1⟩ : ∃ g, h0.new ⟨[.int .i64 y1, .int .i64 y2], .own⟩ = g := ⟨_, rfl⟩
  obtain ⟨h2, e2⟩ : ∃ g, h1.new ⟨[.int .i64 x1, .int .i64 x2, .int .i64 y1, .int .i64 y2], .own⟩ = g := ⟨_, rfl⟩
  have w0 : Wf h0 := e0 ▸ w.new
  have w1 : Wf h1 := e1 ▸ w0.new
  have w2 : Wf h2 := e2 ▸ w1.new
  have f0 : Fm No h h0 := e0 ▸ Fm.new Fm.refl
  have f1 : Fm No h0 h1 := e1 ▸ Fm.new Fm.refl
  have f2 : Fm No h1 h2 := e2 ▸ Fm.new Fm.refl
  have g0 : h1.get h.size = some ⟨[.int .i64 x1, .int .i64 x2], .own⟩ := f1.keep w0 (e0 ▸ gnew) (fun f => f)
  have g1 : h1.get h0.size = some ⟨[.int .i64 y1, .int .i64 y2], .own⟩ := e1 ▸ gnew
  have n0 : ∀ g : Hp, Fm No h1 g → g.rdN h.size 0 2 = some [.int .i64 x1, .int .i64 x2] ∧ g.rdN h0.size 0 2 = some [.int .i64 y1, .int .i64 y2] := fun g fg => ⟨rdN_mk (fg.keep w1 g0 (fun f => f)) (by simp), rdN_mk (fg.keep w1 g1 (fun f => f)) (by simp)⟩
  obtain ⟨p0, p1⟩ := n0 h1 Fm.refl
  have rl : Rd h2 2 (some ⟨h1.size, 0, none⟩) 2 ([(x1, x2), (y1, y2)].flatMap timC) := Rd.of rfl (by rw [← e2]; exact rd_n4)
  have f12 := (f0.trans f1 fun _ _ f => f).trans f2 fun _ _ f => f
  simp +contextual (disch := omega) only [↓AM, ↓AV, AP, CQ, e0, e1, p0, p1, e2]
  refine (c_validL rl rfl (by omega)).use ?_
  rintro _ h3 w3 ⟨rfl, f3⟩
  obtain ⟨q0, q1⟩ := n0 h3 (f2.trans f3 fun _ _ f => f)
  have f03 := f12.trans f3 fun _ _ f => f
  have eL : (!([(x1, x2), (y1, y2)].any nVT)) = decide (VT (x1, x2) ∧ VT (y1, y2)) := by
    by_cases ha : VT (x1, x2) <;> by_cases hb : VT (y1, y2) <;> simp [ha, hb, bLg, nVT]
  rw [eL]
  by_cases hs : VT (x1, x2) ∧ VT (y1, y2)
  · rw [decide_eq_true hs, if_pos hs, if_pos hs]
    simp +contextual (disch := omega) only [↓AM, ↓AV, AP, CQ, e0, e1, e2, q0, q1]
    refine (c_cmpT hs.1 hs.2).use ?_
    rintro _ h4 w4 ⟨rfl, f4⟩
    simp +contextual (disch := omega) only [↓AM, ↓AV, AP, CQ]
    exact f03.trans f4 fun _ _ f => f
  · rw [decide_eq_false hs, if_neg hs, if_neg hs]
    simp +contextual (disch := omega) only [↓AM, ↓AV, AP, CQ, e0, e1, e2, q0, q1]
    exact f03
end Go.Proofs.Ytbfbgkhlngkifaa.St
