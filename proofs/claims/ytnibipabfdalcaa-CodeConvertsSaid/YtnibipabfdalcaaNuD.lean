/- Limbs copied, multiplied and divided by one limb. Plain theorems over the abstract machine.
   Conditions: none. -/
import Derived.Test.YtnibipabfdalcaaNuC
namespace Go.Proofs.Ytnibipabfdalcaa.Nu
open Go Go.RowKit Go.Proofs.Ytnibipabfdalcaa.Am Go.Proofs.Ytnibipabfdalcaa.Af Go.Proofs.Ytnibipabfdalcaa.Md
set_option linter.unusedVariables false
set_option linter.unusedSimpArgs false
set_option linter.defProp false
set_option maxRecDepth 20000
set_option maxHeartbeats 1000000

theorem c_clone {h : Hp} {a : Option Addr} {c x : Nat} (l : Lm h a (dg x).length c (dg x)) (hn : (dg x).length ≤ 1000000) :
    ACalls Try.prog 94 [.slice a (dg x).length c] h fun v h' => LmV h' v x ∧ Fm No h h' := by
  refine slices_Clone___uint32_uint32__ok.snd hm rfl fun w => ?_
  rw [WF_eq, slices_Clone___uint32_uint32_]
  have app : ∀ (y : Value) (K : Value → Hp → Prop) (tg : Tag K), y = .slice a (dg x).length c → (∀ oa' cap' h', Ow h' 1 oa' (dg x).length cap' (u3 (dg x)) → Wf h' → Fm No h h' → K (.slice oa' (dg x).length cap') h') →
      appV 1 4 (.slice (some ⟨h.size, 0, none⟩) 0 0) (dg x).length (u3 (dg x)) (h.new ⟨[], .own⟩) K tg := by
    intro x' K tg hx k
    have ow := Ow.new (h := h) (z := 1) (n := 0) (m := 0) (cs := []) rfl (Nat.le_refl _)
    have fm0 : Fm No h (h.new ⟨[], .own⟩) := Fm.new Fm.refl
    refine Ow.add (m := (dg x).length) w.new ow (by rw [u3_len]; omega) (by omega) fun oa' cap' h' o' w' f' n' => ?_
    obtain ⟨g1, g2⟩ := grown fm0 (Nw.new Fm.refl) f' n'
    rw [Nat.zero_add] at o' ⊢
    exact k oa' cap' h' (by simpa using o') w' g1
  have fm0 : Fm No h (h.new ⟨[], .own⟩) := Fm.new Fm.refl
  have hs := (l.rd.keep w fm0 (fun _ _ f => f)).src (c := c)
  rcases a with _ | ⟨b, off, sp⟩
  · have h0 := l.rd.nil rfl
    have hd : dg x = [] := List.length_eq_zero_iff.1 h0
    cases c with
    | zero =>
      rw [hd]
      simp +contextual only [↓AM, ↓AV, AP, isNilV, List.length_nil]
      refine ⟨⟨none, 0, by rw [hd]; rfl, ?_⟩, Fm.refl⟩
      rw [hd]
      exact ⟨Rd.mk0, Nat.le_refl _, fun d hd => by cases hd⟩
    | succ c =>
      rw [hd] at hs app ⊢
      simp +contextual only [↓AM, ↓AV, AP, isNilV, hs, List.length_nil] at hs ⊢
      refine app _ _ _ rfl fun oa' cap' h' o' w' f' => ?_
      simp +contextual only [↓AM, ↓AV, AP]
      rw [← hd] at o' ⊢
      exact ⟨⟨_, _, rfl, o'.rd, o'.le, dg_dl _⟩, f'⟩
  · simp +contextual only [↓AM, ↓AV, AP, isNilV, hs]
    refine app _ _ _ rfl fun oa' cap' h' o' w' f' => ?_
    simp +contextual only [↓AM, ↓AV, AP]
    exact ⟨⟨_, _, rfl, o'.rd, o'.le, dg_dl _⟩, f'⟩
theorem mul_step {x y c o : Nat} (hx : x < 4294967296) (hy : y < 4294967296) (hc : c < 4294967296) (ho : o < 4294967296) : c + (x * y + o) < 18446744073709551616 ∧ x * y + o < 18446744073709551616 ∧ x * y < 18446744073709551616 := by
  have : x * y ≤ 4294967295 * 4294967295 := Nat.mul_le_mul (by omega) (by omega)
  omega
theorem c_mul {h : Hp} {a b : Option Addr} {c d x y : Nat} (la : Lm h a (dg x).length c (dg x)) (lb : Lm h b (dg y).length d (dg y)) (hx : (dg x).length ≤ 400000) (hy : (dg y).length ≤ 400000) :
    ACalls Try.prog 127 [.slice a (dg x).length c, .slice b (dg y).length d] h fun v h' => LmV h' v (x * y) ∧ Fm No h h' := by
  refine num_mulMag_ok.snd hm rfl fun w => ?_
  rw [WF_eq, num_mulMag]
  simp +contextual (disch := omega) only [↓AM, ↓AV, AP, CQ, i64, rep_u3]
  refine ⟨by omega, ?_⟩
  have hval : vL B32 (dg x) * y = x * y := by rw [dg_val]
  generalize hX : dg x = X at *
  have yval : vL B32 (dg y) = y := dg_val y
  generalize hY : dg y = Y at *
  have zl : vL B32 (List.replicate (X.length + Y.length) 0) = 0 := vL_zeros _ _
  refine WL.mk (fun k t h' => ∃ O : List Nat, h' = h.new ⟨u3 O, .own⟩ ∧ O.length = X.length + Y.length ∧ Dl B32 O ∧ ∃ i : Nat, i ≤ X.length ∧ k = X.length - i ∧ vL B32 O = vL B32 (X.take i) * y ∧ (∀ j, i + Y.length ≤ j → j < O.length → O[j]? = some 0) ∧
      t = [(1, some (.slice b Y.length d)), (5, some (.slice (some ⟨h.size, 0, none⟩) (X.length + Y.length) (X.length + Y.length))), (17, some (.slice a X.length c)), (18, some (.int .i64 (X.length : Int))), (19, some (.int .i64 i))])
    ⟨X.length, _, rfl, by simp, Dl.zeros _, 0, by omega, rfl, by rw [zl]; simp [vL], fun j h1 h2 => by rw [List.getElem?_replicate, if_pos (by simpa using h2)], rfl⟩ ?_
  rintro k t _ ⟨O, rfl, hOl, hOd, i, hi, rfl, hv, hz, rfl⟩
  by_cases hin : i < X.length
  · obtain ⟨b1, o1, s1, p, rfl, f1, hp, r1⟩ := (la.rd.keepW w (Fm.new (o := ⟨u3 O, .own⟩) (Fm.refl (F := No))) nNo).nat hin
    have hpl : p < 4294967296 := la.dl.at hp
    simp +contextual (disch := omega) only [↓AM, ↓AV, AP, CQ, i64, hin, f1, r1]
    refine WL.mk (fun k t h' => ∃ O' : List Nat, h' = h.new ⟨u3 O', .own⟩ ∧ O'.length = X.length + Y.length ∧ Dl B32 O' ∧ ∃ j cy : Nat, j ≤ Y.length ∧ k = Y.length - j ∧ cy < 4294967296 ∧ vL B32 O' + B32 ^ (i + j) * cy = vL B32 (X.take i) * y + B32 ^ i * (p * vL B32 (Y.take j)) ∧ (∀ q, i + Y.length ≤ q → q < O'.length → O'[q]? = some 0) ∧
        t = [(1, some (.slice b Y.length d)), (5, some (.slice (some ⟨h.size, 0, none⟩) (X.length + Y.length) (X.length + Y.length))), (6, some (.int .i64 (i : Int))), (7, some (.int .u32 (p : Int))), (8, some (.int .u64 (cy : Int))), (17, some (.slice (some ⟨b1, o1, s1⟩) X.length c)), (18, some (.int .i64 (X.length : Int))), (19, some (.int .i64 i)), (24, some (.slice b Y.length d)), (25, some (.int .i64 (Y.length : Int))), (26, some (.int .i64 j))])
      ⟨Y.length, O, rfl, hOl, hOd, 0, 0, by omega, rfl, by decide, by rw [hv]; simp [vL], hz, rfl⟩ ?_
    clear r1 hv hz hOd hOl O
    rintro k t _ ⟨O, rfl, hOl, hOd, j, cy, hj, rfl, hcy, hv, hz, rfl⟩
    by_cases hjn : j < Y.length
    · obtain ⟨b2, o2, s2, q, rfl, f2, hq, r2⟩ := (lb.rd.keepW w (Fm.new (o := ⟨u3 O, .own⟩) (Fm.refl (F := No))) nNo).nat hjn
      have hql : q < 4294967296 := lb.dl.at hq
      have hij : i + j < O.length := by omega
      obtain ⟨e, he⟩ : ∃ e, O[i + j]? = some e := ⟨_, List.getElem?_eq_getElem hij⟩
      have hel : e < 4294967296 := hOd.at he
      obtain ⟨m1, m2, m3⟩ := mul_step hpl hql hcy hel
      have ue := u3_at he
      have hij2 : i + j < X.length + Y.length := by omega
      have ul : leIs (i + j + 1) (u3 O) = true := by rw [← leIs_p, u3_len]; omega
      have us : spl (u3 O) (i + j) [.int .u32 (((cy + (p * q + e)) % 4294967296 : Nat) : Int)] = u3 (O.set (i + j) ((cy + (p * q + e)) % 4294967296)) := spl_u3 hij
      simp +contextual (disch := omega) only [↓AM, ↓AV, AP, CQ, CN, i64, u64, hjn, f2, r2, ue, hij2, ul, us]
      generalize hs : cy + (p * q + e) = s at *
      refine ⟨_, ?_, _, rfl, ?_, ?_, j + 1, s / 4294967296, by omega, rfl, by omega, ?_, ?_, rfl⟩
      · omega
      · simp [hOl]
      · exact hOd.set (Nat.mod_lt _ (by decide))
      · have h0 := vL_set (B := B32) (d := s % 4294967296) he
        have h1 : B32 ^ (i + j) * (s % 4294967296) + B32 ^ (i + j) * (B32 * (s / 4294967296)) = B32 ^ (i + j) * s := by rw [← Nat.mul_add]; congr 1; exact Nat.mod_add_div s 4294967296
        have h2 : B32 ^ (i + j) * s = B32 ^ (i + j) * cy + (B32 ^ (i + j) * (p * q) + B32 ^ (i + j) * e) := by rw [← hs, Nat.mul_add, Nat.mul_add]
        have h3 : B32 ^ i * (p * (B32 ^ j * q)) = B32 ^ (i + j) * (p * q) := by rw [Nat.pow_add]; ac_rfl
        have h4 : vL B32 (Y.take (j + 1)) = vL B32 (Y.take j) + B32 ^ j * q := by
          rw [List.take_add_one, hq]
          show vL B32 (Y.take j ++ [q]) = _
          rw [vL_snoc, List.length_take, Nat.min_eq_left (by omega)]
        rw [h4, Nat.mul_add p, Nat.mul_add (B32 ^ i), h3, show i + (j + 1) = (i + j) + 1 by omega, Nat.pow_succ, Nat.mul_assoc]
        omega
      · intro k h1 h2
        rw [List.getElem?_set_ne (by omega)]
        exact hz k h1 (by simpa using h2)
    · have hjY : j = Y.length := by omega
      subst hjY
      have hiY : i + Y.length < O.length := by omega
      have hiY2 : i + Y.length < X.length + Y.length := by omega
      have ul : leIs (i + Y.length + 1) (u3 O) = true := by rw [← leIs_p, u3_len]; omega
      have us : spl (u3 O) (i + Y.length) [.int .u32 ((cy % 4294967296 : Nat) : Int)] = u3 (O.set (i + Y.length) (cy % 4294967296)) := spl_u3 hiY
      simp +contextual (disch := omega) only [↓AM, ↓AV, AP, CQ, CN, i64, u64, hjn, hiY2, ul, us]
      refine ⟨_, ?_, _, rfl, ?_, ?_, i + 1, by omega, rfl, ?_, ?_, rfl⟩
      · omega
      · simp [hOl]
      · exact hOd.set (Nat.mod_lt _ (by decide))
      · have h0 := vL_set (B := B32) (d := cy % 4294967296) (hz _ (Nat.le_refl _) hiY)
        rw [Nat.mod_eq_of_lt hcy] at h0 ⊢
        rw [List.take_of_length_le (Nat.le_refl Y.length), yval] at hv
        have h4 : vL B32 (X.take (i + 1)) = vL B32 (X.take i) + B32 ^ i * p := by
          rw [List.take_add_one, hp]
          show vL B32 (X.take i ++ [p]) = _
          rw [vL_snoc, List.length_take, Nat.min_eq_left (by omega)]
        rw [h4, Nat.add_mul, Nat.mul_assoc]
        omega
      · intro k h1 h2
        rw [List.getElem?_set_ne (by omega)]
        exact hz k (by omega) (by simpa using h2)
  · have hiX : i = X.length := by omega
    subst hiX
    simp +contextual (disch := omega) only [↓AM, ↓AV, AP, CQ, i64, hin]
    have lm := lm_new (h := h) hOd
    rw [hOl] at lm
    refine (c_trim lm (by omega)).use ?_
    rintro _ _ w1 ⟨l, rfl⟩
    rw [hv, List.take_of_length_le (Nat.le_refl _), hval] at l
    obtain ⟨oa, cc, rfl, l⟩ := l
    simp +contextual (disch := omega) only [↓AM, ↓AV, AP, CQ]
    exact ⟨⟨_, _, rfl, l⟩, Fm.new Fm.refl⟩
end Go.Proofs.Ytnibipabfdalcaa.Nu
