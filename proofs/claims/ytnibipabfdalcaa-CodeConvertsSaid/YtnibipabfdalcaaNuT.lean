/- The document's difference and quotient. Plain theorems over the abstract machine.
   Conditions: none. -/
import Derived.Test.YtnibipabfdalcaaNuS
namespace Go.Proofs.Ytnibipabfdalcaa.Nu
open Go Go.RowKit Go.Proofs.Ytnibipabfdalcaa.Am Go.Proofs.Ytnibipabfdalcaa.Af Go.Proofs.Ytnibipabfdalcaa.Md
set_option linter.unusedVariables false
set_option linter.unusedSimpArgs false
set_option linter.defProp false
set_option maxRecDepth 20000
set_option maxHeartbeats 1000000

theorem bor_end {X Y : List Nat} {L : List Nat} {n bor : Nat} (hL : L.length = n) (hd : Dl B9 L) (hb : bor ≤ 1) (hv : vL B9 L + vL B9 Y = vL B9 X + B9 ^ n * bor) (hle : vL B9 Y ≤ vL B9 X) : vL B9 L = vL B9 X - vL B9 Y := by
  have h1 := vL_lt hd
  rw [hL] at h1
  rcases (show bor = 0 ∨ bor = 1 by omega) with rfl | rfl
  · omega
  · rw [Nat.mul_one] at hv; omega
theorem c_Minus {h : Hp} {a b : Option Addr} {c d x y : Nat} (la : Dm h a (dc x).length c (dc x)) (lb : Dm h b (dc y).length d (dc y)) (hx : (dc x).length ≤ 400000) (hy : (dc y).length ≤ 400000) (hle : y ≤ x) :
    ACalls Try.prog 107 [.slice a (dc x).length c, .slice b (dc y).length d] h fun v h' => DmW (fun z => h.size ≤ z) h' v (x - y) ∧ Fm No h h' := by
  refine dioramaref02_Minus_ok.snd hm rfl fun w => ?_
  rw [WF_eq, dioramaref02_Minus]
  simp +contextual (disch := omega) only [↓AM, ↓AV, AP, CQ, i64]
  have xval : vL B9 (dc x) = x := dc_val x
  have yval : vL B9 (dc y) = y := dc_val y
  have hll : (dc y).length ≤ (dc x).length := by
    rcases Nat.lt_or_ge (dc x).length (dc y).length with h | h
    · have := len_lt b9 (dc_dl x) (dig_nz (hB := b9) y) h
      rw [dc_val, show vL B9 (dig B9 b9 y) = y from dc_val y] at this
      omega
    · exact h
  generalize hX : dc x = X at *
  generalize hY : dc y = Y at *
  refine WL.mk (fun k t h' => Wf h' ∧ Fm No h h' ∧ ∃ L : List Nat, ∃ oa cap bor, L.length ≤ X.length ∧ k = X.length - L.length ∧ bor ≤ 1 ∧ Dl B9 L ∧ Nw h oa ∧ Ow h' 1 oa L.length cap (i3 L) ∧ vL B9 L + vL B9 (Y.take L.length) = vL B9 (X.take L.length) + B9 ^ L.length * bor ∧
      t = [(0, some (.slice a X.length c)), (1, some (.slice b Y.length d)), (5, some (.slice oa L.length cap)), (6, some (.int .i64 (bor : Int))), (7, some (.int .i64 (L.length : Int)))])
    ⟨X.length, w, Fm.refl, [], none, 0, 0, by simp, rfl, by decide, (fun d hd => by cases hd), Nw.none, Ow.mk0, by simp [vL], rfl⟩ ?_
  rintro k t h1 ⟨w1, fm, L, oa, cap, bor, hi, rfl, hb, hLd, nw, ow, hv, rfl⟩
  by_cases hin : L.length < X.length
  · obtain ⟨b1, o1, s1, p, rfl, f1, hp, r1⟩ := (la.rd.keepW w fm nNo).dec hin
    have hpl : p < 1000000000 := la.dl.at hp
    have hpD : X.getD L.length 0 = p := by rw [List.getD_eq_getElem?_getD, hp]; rfl
    have ybd := getD_lt lb.dl L.length
    have htx := take_getD (Y := X) L.length
    have hty := take_getD (Y := Y) L.length
    rw [hpD] at htx
    generalize hq : Y.getD L.length 0 = q at *
    simp +contextual (disch := omega) only [↓AM, ↓AV, AP, CQ, CN, i64, hin]
    refine (c_digit (i := L.length) (la.rd.keepW w fm nNo) (by omega)).use ?_
    rintro _ hA w2 ⟨rfl, rfl⟩
    rw [hpD]
    simp +contextual (disch := omega) only [↓AM, ↓AV, AP, CQ, CN, i64]
    refine (c_digit (i := L.length) (lb.rd.keepW w fm nNo) (by omega)).use ?_
    rintro _ hB w2 ⟨rfl, rfl⟩
    rw [hq]
    have step : ∀ dd bo : Nat, dd < 1000000000 → bo ≤ 1 → dd + q + bor = p + 1000000000 * bo → vL B9 (L ++ [dd]) + vL B9 (Y.take (L ++ [dd]).length) = vL B9 (X.take (L ++ [dd]).length) + B9 ^ (L ++ [dd]).length * bo := by
      intro dd bo h1 h2 h3
      have e : (L ++ [dd]).length = L.length + 1 := by simp
      rw [e, vL_snoc, htx, hty, Nat.pow_succ, Nat.mul_assoc]
      have e1 : B9 ^ L.length * (dd + q + bor) = B9 ^ L.length * (p + 1000000000 * bo) := by rw [h3]
      rw [Nat.mul_add, Nat.mul_add, Nat.mul_add] at e1
      show _ + B9 ^ L.length * dd + (_ + B9 ^ L.length * q) = _ + B9 ^ L.length * p + B9 ^ L.length * (1000000000 * bo)
      omega
    by_cases hneg : (p : Int) - (q : Int) - (bor : Int) < 0
    · obtain ⟨dd, hdd⟩ : ∃ dd : Nat, (p : Int) - (q : Int) - (bor : Int) + 1000000000 = (dd : Int) := ⟨_, (Int.toNat_of_nonneg (by omega)).symm⟩
      simp +contextual (disch := omega) only [↓AM, ↓AV, AP, CQ, CN, i64, hneg, hdd]
      refine ow.push (m := 1) w2 rfl ?_ fun oa' cap' h2 o2 w3 f2 n2 => ?_
      · omega
      obtain ⟨g1, g2⟩ := grown fm nw f2 n2
      simp +contextual (disch := omega) only [↓AM, ↓AV, AP, CQ, CN, i64]
      refine ⟨_, ?_, w3, g1, L ++ [dd], oa', cap', 1, by simp; omega, rfl, by decide, ?_, g2, ?_, step dd 1 (by omega) (by decide) (by omega), by simp⟩
      · simp; omega
      · intro z hz
        rcases List.mem_append.1 hz with hz | hz
        · exact hLd z hz
        · rw [List.mem_singleton.1 hz]; show dd < 1000000000; omega
      · rw [i3_app, List.length_append]; exact o2
    · obtain ⟨dd, hdd⟩ : ∃ dd : Nat, (p : Int) - (q : Int) - (bor : Int) = (dd : Int) := ⟨_, (Int.toNat_of_nonneg (by omega)).symm⟩
      rw [hdd] at hneg
      simp +contextual (disch := omega) only [↓AM, ↓AV, AP, CQ, CN, i64, hdd, hneg]
      refine ow.push (m := 1) w2 rfl ?_ fun oa' cap' h2 o2 w3 f2 n2 => ?_
      · omega
      obtain ⟨g1, g2⟩ := grown fm nw f2 n2
      simp +contextual (disch := omega) only [↓AM, ↓AV, AP, CQ, CN, i64]
      refine ⟨_, ?_, w3, g1, L ++ [dd], oa', cap', 0, by simp; omega, rfl, by decide, ?_, g2, ?_, step dd 0 (by omega) (by decide) (by omega), by simp⟩
      · simp; omega
      · intro z hz
        rcases List.mem_append.1 hz with hz | hz
        · exact hLd z hz
        · rw [List.mem_singleton.1 hz]; show dd < 1000000000; omega
      · rw [i3_app, List.length_append]; exact o2
  · have hn : L.length = X.length := by omega
    simp +contextual (disch := omega) only [↓AM, ↓AV, AP, CQ, CN, i64, hin]
    have dm : Dm h1 oa L.length cap L := ⟨ow.rd, ow.le, hLd⟩
    refine (c_trimmed dm (by omega) ?_ ow.nil).use ?_
    · rintro ad rfl
      obtain ⟨_, _, _, _, _, _, hs⟩ := ow.at_ _ rfl
      rcases hs with hs | ⟨hs, _⟩ <;> rw [hs] <;> rfl
    rintro _ _ w2 ⟨⟨oa', cc, rfl, l, hS⟩, rfl⟩
    rw [List.take_of_length_le (l := Y) (by omega), List.take_of_length_le (l := X) (by omega)] at hv
    have hval := bor_end (n := L.length) rfl hLd hb hv (by omega)
    rw [xval, yval] at hval
    rw [hval] at l
    simp +contextual (disch := omega) only [↓AM, ↓AV, AP, CQ, CN, i64]
    rw [hval]
    exact ⟨⟨_, _, rfl, l, fun z hz => nw z (hS z hz)⟩, fm⟩
end Go.Proofs.Ytnibipabfdalcaa.Nu
