/- The document's quotient. Plain theorems over the abstract machine.
   Conditions: none. -/
import Derived.Test.YtnibipabfdalcaaNuT
namespace Go.Proofs.Ytnibipabfdalcaa.Nu
open Go Go.RowKit Go.Proofs.Ytnibipabfdalcaa.Am Go.Proofs.Ytnibipabfdalcaa.Af Go.Proofs.Ytnibipabfdalcaa.Md
set_option linter.unusedVariables false
set_option linter.unusedSimpArgs false
set_option linter.defProp false
set_option maxRecDepth 20000
set_option maxHeartbeats 2000000

theorem DmW.keep {S : Nat → Prop} {h h' : Hp} {v : Value} {x : Nat} (l : DmW S h v x) (w : Wf h) (fm : Fm No h h') : DmW S h' v x := by
  obtain ⟨oa, c, e, l, hS⟩ := l
  exact ⟨oa, c, e, ⟨l.rd.keepW w fm nNo, l.le, l.dl⟩, hS⟩
theorem dc_app {x d y : Nat} (hy : y < x) (hd : d < 1000000000) (hx : x < B9 ^ 100) : (dc y).length ≤ 100 := dc_len (Nat.lt_trans hy hx)
theorem cmp_le {u s : Nat} : ((if u < s then (-1 : Int) else if u = s then 0 else 1) ≤ 0) = (u ≤ s) := by
  by_cases h1 : u < s
  · rw [if_pos h1]; simp; omega
  · rw [if_neg h1]
    by_cases h2 : u = s
    · rw [if_pos h2]; simp; omega
    · rw [if_neg h2]; simp; omega
theorem search_end {lo y s : Nat} (hy : 0 < y) (h1 : y * lo ≤ s) (h2 : s < y * (lo + 1)) : lo = s / y ∧ s - y * lo = s % y := by
  have e : s / y = lo := by
    rw [Nat.mul_comm] at h1 h2
    exact Nat.div_eq_of_lt_le h1 h2
  refine ⟨e.symm, ?_⟩
  have := Nat.mod_add_div s y
  rw [e] at this
  omega
theorem c_Over {h : Hp} {a b : Option Addr} {c d x y : Nat} (la : Dm h a (dc x).length c (dc x)) (lb : Dm h b (dc y).length d (dc y)) (hx : (dc x).length ≤ 100) (hy : y < B9 ^ 100) (hy0 : 0 < y) :
    ACalls Try.prog 73 [.slice a (dc x).length c, .slice b (dc y).length d] h fun r h' => ∃ u v, r = .tuple #[u, v] ∧ DmV h' u (x / y) ∧ DmV h' v (x % y) ∧ Fm No h h' := by
  refine dioramaref02_Over_ok.snd hm rfl fun w => ?_
  rw [WF_eq, dioramaref02_Over]
  simp +contextual (disch := omega) only [↓AM, ↓AV, AP, CQ, i64, rep_i3]
  refine ⟨by omega, ?_⟩
  have xval : vL B9 (dc x) = x := dc_val x
  generalize hX : dc x = X at *
  have hyl : (dc y).length ≤ 100 := dc_len hy
  have zl : ∀ k, vL B9 ((List.replicate X.length 0).drop k) = 0 := fun k => by rw [List.drop_replicate]; exact vL_zeros _ _
  refine WL.mk (fun k t h' => Wf h' ∧ Fm No h h' ∧ k ≤ X.length ∧ ∃ Q r v, h'.get h.size = some ⟨i3 Q, .own⟩ ∧ Q.length = X.length ∧ Dl B9 Q ∧ r < y ∧ vL B9 (X.drop k) = vL B9 (Q.drop k) * y + r ∧ DmW (fun z => h.size < z) h' v r ∧
      t = [(0, some (.slice a X.length c)), (1, some (.slice b (dc y).length d)), (6, some (.slice (some ⟨h.size, 0, none⟩) X.length X.length)), (7, some v), (8, some (.int .i64 ((k : Int) - 1)))])
    ⟨X.length, w.new, Fm.new Fm.refl, Nat.le_refl _, _, 0, _, gnew, by simp, Dl.zeros9 _, hy0, by rw [zl, List.drop_eq_nil_of_le (Nat.le_refl _)]; simp [vL], ⟨none, 0, by rw [dc_0]; rfl, by rw [dc_0]; exact ⟨Rd.mk0, Nat.le_refl _, fun d hd => by cases hd⟩, fun z hz => absurd hz At.none⟩, rfl⟩ ?_
  rintro k t h1 ⟨w1, fm, hk, Q, r, _, gQ, hQl, hQd, hr, hv, ⟨ra, rc, rfl, lr, rS⟩, rfl⟩
  have hlt := w1.lt gQ
  cases k with
  | zero =>
    have e2 : ((0 : Int) ≤ ((0 : Nat) : Int) - 1) = False := by simp
    have hv : x = vL B9 Q * y + r := by rw [← xval]; exact hv
    have v1 : vL B9 Q = x / y := by rw [hv, Nat.mul_comm, Nat.mul_add_div hy0, Nat.div_eq_of_lt hr]; rfl
    have v2 : r = x % y := by rw [hv, Nat.mul_comm, Nat.mul_add_mod, Nat.mod_eq_of_lt hr]
    have dm : Dm h1 (some ⟨h.size, 0, none⟩) X.length X.length Q := ⟨Rd.of rfl (by
      have := rdN_mk gQ (off := 0) (m := X.length * 1) (by show 0 + X.length * 1 ≤ (i3 Q).length; rw [i3_len]; omega)
      rw [this]
      show some (((i3 Q).drop 0).take (X.length * 1)) = _
      rw [List.drop_zero, List.take_of_length_le (by rw [i3_len]; omega)]), Nat.le_refl _, hQd⟩
    simp +contextual (disch := omega) only [↓AM, ↓AV, AP, CQ, i64, e2]
    refine (c_trimmed dm (by omega) (by rintro _ ⟨rfl⟩; rfl) (by simp)).use ?_
    rintro _ _ w2 ⟨l, rfl⟩
    rw [v1] at l
    simp +contextual (disch := omega) only [↓AM, ↓AV, AP, CQ, i64]
    rw [v2] at lr ⊢
    exact ⟨_, _, rfl, l.v, ⟨_, _, rfl, lr⟩, fm⟩
  | succ k =>
    obtain ⟨b1, o1, s1, p, rfl, f1, hp, r1⟩ := (la.rd.keepW w fm nNo).dec (i := k) (by omega)
    have hpl : p < 1000000000 := la.dl.at hp
    have hk1 : k < X.length := by omega
    have fmA : Fm No h1 (h1.new ⟨[.int .i64 (p : Int)], .own⟩) := Fm.new Fm.refl
    have lrA := lr.rd.keepW w1 fmA nNo
    have hsrc := lrA.src (c := rc)
    have hrl : (dc r).length ≤ 100 := dc_len (Nat.lt_trans hr hy)
    simp +contextual (disch := omega) only [↓AM, ↓AV, AP, CQ, i64, f1, r1, hk1, hsrc]
    have owA : Ow (h1.new ⟨[.int .i64 (p : Int)], .own⟩) 1 (some ⟨h1.size, 0, none⟩) 1 1 [.int .i64 (p : Int)] := Ow.new (n := 1) (m := 1) rfl (Nat.le_refl _)
    refine Ow.add (m := (dc r).length) w1.new owA (by rw [i3_len]; omega) (by omega) fun oa' cap' h2 o2 w2 f2 n2 => ?_
    have nwA : Nw h1 (some ⟨h1.size, 0, none⟩) := Nw.new Fm.refl
    obtain ⟨g1, g2⟩ := grown fmA nwA f2 n2
    have dmS : Dm h2 oa' (1 + (dc r).length) cap' (p :: dc r) := ⟨o2.rd, o2.le, fun z hz => by
      rcases List.mem_cons.1 hz with rfl | hz
      · exact hpl
      · exact lr.dl z hz⟩
    simp +contextual (disch := omega) only [↓AM, ↓AV, AP, CQ, i64]
    refine (c_trimmed dmS (by omega) ?_ o2.nil).use ?_
    · rintro ad rfl
      obtain ⟨_, _, _, _, _, _, hs⟩ := o2.at_ _ rfl
      rcases hs with hs | ⟨hs, _⟩ <;> rw [hs] <;> rfl
    have hsv : vL B9 (p :: dc r) = p + B9 * r := by show p + B9 * vL B9 (dc r) = _; rw [dc_val]
    rw [hsv]
    have hsb : p + B9 * r < y * 1000000000 := by
      have : B9 * (r + 1) ≤ B9 * y := Nat.mul_le_mul_left _ hr
      rw [Nat.mul_add] at this
      show p + 1000000000 * r < _
      have e : B9 * y = 1000000000 * y := rfl
      have e' : B9 * r = 1000000000 * r := rfl
      omega
    generalize hs : p + B9 * r = s at *
    rintro _ h3 w3 ⟨⟨sa, scap, rfl, ls, sS⟩, rfl⟩
    have fm13 : Fm No h h3 := fm.trans g1 fun _ _ f => f
    have gQ3 := g1.keep w1 gQ (fun f => f)
    have e999 : (999999999 : Int) = ((999999999 : Nat) : Int) := rfl
    have hB : y * 1000000000 < B9 ^ 101 := by
      have : y * 1000000000 < B9 ^ 100 * 1000000000 := Nat.mul_lt_mul_of_pos_right hy (by decide)
      rw [Nat.pow_succ]; exact this
    have hsl : (dc s).length ≤ 101 := dc_len (Nat.lt_trans hsb hB)
    simp +contextual (disch := omega) only [↓AM, ↓AV, AP, CQ, i64]
    refine WL.mk (fun m t h' => Wf h' ∧ Fm No h3 h' ∧ ∃ lo hi : Nat, lo ≤ hi ∧ hi < 1000000000 ∧ m = hi - lo ∧ y * lo ≤ s ∧ s < y * (hi + 1) ∧
        t = [(0, some (.slice (some ⟨b1, o1, s1⟩) X.length c)), (1, some (.slice b (dc y).length d)), (6, some (.slice (some ⟨h.size, 0, none⟩) X.length X.length)), (7, some (.slice sa (dc s).length scap)), (8, some (.int .i64 (k : Int))), (10, some (.int .i64 (lo : Int))), (11, some (.int .i64 (hi : Int)))])
      ⟨999999999, w3, Fm.refl, 0, 999999999, by omega, by omega, rfl, by simp, hsb, rfl⟩ ?_
    rintro m t h4 ⟨w4, fm4, lo, hi, hlh, hhi, rfl, hlo, hhs, rfl⟩
    have fm04 : Fm No h h4 := fm13.trans fm4 fun _ _ f => f
    by_cases hlt2 : lo < hi
    · have t2 : ∀ z : Nat, (z : Int).tdiv 2 = ((z / 2 : Nat) : Int) := fun z => ntdiv z 2
      have n2 : ((2 : Int) = 0) = False := by simp
      simp +contextual (disch := omega) only [↓AM, ↓AV, AP, CQ, CN, i64, hlt2, t2, n2]
      generalize hmid : (lo + hi + 1) / 2 = mid at *
      have hm1 : lo < mid := by omega
      have hm2 : mid ≤ hi := by omega
      refine (c_Of (x := mid) (by omega)).use ?_
      rintro _ h5 w5 ⟨⟨ma, mc, rfl, lm, -⟩, fm5⟩
      simp +contextual (disch := omega) only [↓AM, ↓AV, AP, CQ, CN, i64]
      have fm05 := fm04.trans fm5 fun _ _ f => f
      have hml : (dc mid).length ≤ 2 := dc_len (Nat.lt_trans (show mid < 1000000000 by omega) (by decide))
      refine (c_Times ⟨lb.rd.keepW w fm05 nNo, lb.le, lb.dl⟩ lm (by omega) (by omega)).use ?_
      rintro _ h6 w6 ⟨⟨pa, pc, rfl, lp, -⟩, fm6⟩
      simp +contextual (disch := omega) only [↓AM, ↓AV, AP, CQ, CN, i64]
      have hpl2 : (dc (y * mid)).length ≤ 101 := dc_len (Nat.lt_of_le_of_lt (Nat.mul_le_mul_left y (show mid ≤ 1000000000 by omega)) hB)
      have fm36 := (fm4.trans fm5 fun _ _ f => f).trans fm6 fun _ _ f => f
      refine (c_Compare lp ⟨ls.rd.keepW w3 fm36 nNo, ls.le, ls.dl⟩ (by omega) (by omega)).use ?_
      rintro _ _ w7 ⟨rfl, rfl⟩
      by_cases hle : y * mid ≤ s
      · have ec : ((if y * mid < s then (-1 : Int) else if y * mid = s then 0 else 1) ≤ 0) = True := by rw [cmp_le]; exact eq_true hle
        simp +contextual (disch := omega) only [↓AM, ↓AV, AP, CQ, CN, i64, ec]
        exact ⟨_, by omega, w7, fm36, mid, hi, hm2, hhi, rfl, hle, hhs, rfl⟩
      · have ec : ((if y * mid < s then (-1 : Int) else if y * mid = s then 0 else 1) ≤ 0) = False := by rw [cmp_le]; exact eq_false hle
        simp +contextual (disch := omega) only [↓AM, ↓AV, AP, CQ, CN, i64, ec]
        have e1 : (mid : Int) - 1 = ((mid - 1 : Nat) : Int) := by omega
        have e2 : mid - 1 + 1 = mid := by omega
        rw [e1]
        exact ⟨_, by omega, w7, fm36, lo, mid - 1, by omega, by omega, rfl, hlo, by rw [e2]; omega, rfl⟩
    · have : lo = hi := by omega
      subst this
      obtain ⟨sq, sr⟩ := search_end hy0 hlo hhs
      have gQ4 := fm4.keep w3 gQ3 (fun f => f)
      have ul : leIs (k + 1) (i3 Q) = true := by rw [← leIs_p, i3_len]; omega
      have us : spl (i3 Q) k [.int .i64 (lo : Int)] = i3 (Q.set k lo) := spl_i3 (by omega)
      simp +contextual (disch := omega) only [↓AM, ↓AV, AP, CQ, CN, i64, hlt2, hk1, gQ4, ul, us]
      have w5 : Wf (h4.put h.size ⟨i3 (Q.set k lo), .own⟩) := w4.put (w4.lt gQ4)
      have fm05 : Fm No h (h4.put h.size ⟨i3 (Q.set k lo), .own⟩) := fm04.put fun hlt => absurd hlt (by omega)
      have sS2 : ∀ z, At sa z → z ≠ h.size := fun z hz => by have := g2 z (sS z hz); omega
      have ls5 : Rd (h4.put h.size ⟨i3 (Q.set k lo), .own⟩) 1 sa (dc s).length (i3 (dc s)) := (ls.rd.keepW w3 fm4 nNo).keep (F := fun z => z = h.size) w4 (Fm.put Fm.refl fun _ => rfl) fun z hz => sS2 z hz
      have gQ5 : (h4.put h.size ⟨i3 (Q.set k lo), .own⟩).get h.size = some ⟨i3 (Q.set k lo), .own⟩ := gput
      generalize h4.put h.size ⟨i3 (Q.set k lo), .own⟩ = h5 at *
      refine (c_Of (x := lo) (by omega)).use ?_
      rintro _ h6 w6 ⟨⟨ma, mc, rfl, lm, -⟩, fm6⟩
      simp +contextual (disch := omega) only [↓AM, ↓AV, AP, CQ, CN, i64]
      have fm06 := fm05.trans fm6 fun _ _ f => f
      have hml : (dc lo).length ≤ 2 := dc_len (Nat.lt_trans (show lo < 1000000000 by omega) (by decide))
      refine (c_Times ⟨lb.rd.keepW w fm06 nNo, lb.le, lb.dl⟩ lm (by omega) (by omega)).use ?_
      rintro _ h7 w7 ⟨⟨pa, pc, rfl, lp, -⟩, fm7⟩
      simp +contextual (disch := omega) only [↓AM, ↓AV, AP, CQ, CN, i64]
      have fm57 := fm6.trans fm7 fun _ _ f => f
      have hpl2 : (dc (y * lo)).length ≤ 101 := dc_len (Nat.lt_of_le_of_lt (Nat.mul_le_mul_left y (show lo ≤ 1000000000 by omega)) hB)
      refine (c_Minus ⟨ls5.keepW w5 fm57 nNo, ls.le, ls.dl⟩ lp (by omega) (by omega) hlo).use ?_
      rintro _ h8 w8 ⟨⟨na, nc, rfl, ln, nS⟩, fm8⟩
      simp +contextual (disch := omega) only [↓AM, ↓AV, AP, CQ, CN, i64]
      have fm58 := fm57.trans fm8 fun _ _ f => f
      have fm08 := fm05.trans fm58 fun _ _ f => f
      rw [sr] at ln ⊢
      have l5 := w5.lt gQ5
      have s7 := fm57.size
      refine ⟨k, by omega, w8, fm08, by omega, Q.set k lo, s % y, _, fm58.keep w5 gQ5 (fun f => f), by simp [hQl], hQd.set (show lo < 1000000000 by omega), Nat.mod_lt _ hy0, ?_, ⟨_, _, rfl, ln, fun z hz => by have := nS z hz; omega⟩, rfl⟩
      have e1 : vL B9 (X.drop k) = p + B9 * vL B9 (X.drop (k + 1)) := by
        rw [List.drop_eq_getElem_cons hk1]
        rw [List.getElem?_eq_getElem hk1] at hp
        rw [Option.some.inj hp]; rfl
      have e2 : vL B9 ((Q.set k lo).drop k) = lo + B9 * vL B9 (Q.drop (k + 1)) := by
        rw [List.drop_eq_getElem_cons (by simp; omega), List.getElem_set_self]
        show _ + B9 * vL B9 ((Q.set k _).drop (k + 1)) = _
        rw [List.drop_set_of_lt (by omega)]
      rw [e1, e2, hv, Nat.mul_add, Nat.add_mul, ← sr]
      have e4 : B9 * (vL B9 (Q.drop (k + 1)) * y) = B9 * vL B9 (Q.drop (k + 1)) * y := (Nat.mul_assoc _ _ _).symm
      have e5 : lo * y = y * lo := Nat.mul_comm _ _
      rw [e4, e5]
      omega
end Go.Proofs.Ytnibipabfdalcaa.Nu
