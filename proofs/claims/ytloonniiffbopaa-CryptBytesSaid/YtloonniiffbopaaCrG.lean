/- The program's stretches. Plain theorems over the abstract machine.
   Conditions: none. -/
import Derived.Test.YtloonniiffbopaaCrF
namespace Go.Proofs.Ytloonniiffbopaa.Cr
open Go Go.RowKit Go.Proofs.Ytloonniiffbopaa.Am Go.Proofs.Ytloonniiffbopaa.Af
set_option linter.unusedVariables false
set_option linter.unusedSimpArgs false
set_option maxRecDepth 20000

theorem prts_within {ps : List (Nat × Nat)} {n M : Nat} (h1 : ps.length ≤ 40) (h2 : ∀ p ∈ ps, p.1 ≤ M ∧ p.2 ≤ M) (hn : n ≤ M) : Within (prts ps n) M := by
  unfold prts
  split
  · exact ⟨by simp, fun p hp => by obtain rfl := List.mem_singleton.1 hp; exact ⟨by simp, hn⟩⟩
  · exact ⟨h1, h2⟩
/-- What a lock's stretches are. -/
def strs (c t : Nat) (ps : List (Nat × Nat)) (n : Nat) : List Str := keepS (sparts c t (prts ps n)).1
theorem nadd (a b : Nat) : (a : Int) + (b : Int) = ((a + b : Nat) : Int) := rfl
theorem ndiv (a b : Nat) : (a : Int) / (b : Int) = ((a / b : Nat) : Int) := rfl
theorem nmod (a b : Nat) : (a : Int) % (b : Int) = ((a % b : Nat) : Int) := rfl
theorem ndiv16 (a : Nat) : (a : Int) / 16 = ((a / 16 : Nat) : Int) := rfl
theorem nmod16 (a : Nat) : (a : Int) % 16 = ((a % 16 : Nat) : Int) := rfl
theorem nadd16 (a : Nat) : (a : Int) + 16 = ((a + 16 : Nat) : Int) := rfl
theorem nadd1 (a : Nat) : (a : Int) + 1 = ((a + 1 : Nat) : Int) := rfl
theorem n16_0 : ((16 : Int) = 0) = False := by simp
theorem e16_0 : EqI 16 0 = False := eq_false (by unfold EqI; omega)
theorem i64_rem {x y : Int} (h : 0 ≤ x) : x.tmod y = x % y := Int.tmod_eq_emod_of_nonneg h
theorem i64_div {x y : Int} (h : 0 ≤ x) : x.tdiv y = x / y := Int.tdiv_eq_ediv_of_nonneg h
theorem c_stretches {h : Hp} {l : Lk} {oa : Option Addr} {cc c t n : Nat} {ps : List (Nat × Nat)} (r : Rd h 2 oa l.parts.length (l.parts.flatMap partC)) (g : Gk l c t ps) (hn : n ≤ 1000000) :
    ACalls Try.prog 31 [lockV l oa cc, .int .i64 n] h fun v h' => ∃ a cap, v = .tuple #[.slice a (strs c t ps n).length cap, .bool (decide (sumP (prts ps n) = n))] ∧
      Ow h' 4 a (strs c t ps n).length cap ((strs c t ps n).flatMap strC) ∧ Nw h a ∧ Fm No h h' := by
  refine crypt_stretches_ok.snd hm rfl fun w => ?_
  rw [WF_eq, crypt_stretches, lockV]
  have hlen := g.len
  have hpl : l.parts.length = ps.length := by rw [g.parts]; simp
  have hpc : l.parts.flatMap partC = ps.flatMap natC := by rw [g.parts, part_nat]
  rw [hpl, hpc] at r
  have hc10 := g.c10
  have ht10 := g.t10
  simp +contextual only [↓AM, ↓AV, AP, hpl, g.crypt, g.skip]
  have wi : Within (prts ps n) 1000000 := prts_within g.len (fun p hp => by have := g.bd p hp; omega) hn
  refine WC.mk (fun t' h' => Wf h' ∧ Fm No h h' ∧ h'.get h.size = some ⟨[.int .i64 l.key, .int .i64 l.nonce, .int .i64 c, .int .i64 t, .slice oa ps.length cc], .own⟩ ∧ ∃ pa pc, Rd h' 2 pa (prts ps n).length ((prts ps n).flatMap natC) ∧ t' = [(1, some (.int .i64 n)), (2, some (.pointer (some ⟨h.size, 0, none⟩))), (6, some (.slice pa (prts ps n).length pc))]) ?_ ?_
  · simp +contextual only [↓AM, ↓AV, AP]
    refine ⟨fun h0 => ?_, fun h0 => ?_⟩
    · have : ps = [] := List.length_eq_zero_iff.1 (by unfold EqI at h0; omega)
      subst this
      have w1 : Wf (h.new ⟨[.int .i64 l.key, .int .i64 l.nonce, .int .i64 c, .int .i64 t, .slice oa ([] : List (Nat × Nat)).length cc], .own⟩) := w.new
      refine ⟨w1.new, Fm.new (Fm.new Fm.refl), ?_, some ⟨h.size + 1, 0, none⟩, 1, ?_, rfl⟩
      · exact (get_new (Nat.lt_succ_self _)).trans gnew
      · have := (Ow.new (h := h.new ⟨[.int .i64 l.key, .int .i64 l.nonce, .int .i64 c, .int .i64 t, .slice oa ([] : List (Nat × Nat)).length cc], .own⟩) (z := 2) (n := 1) (m := 1) (cs := [.int .i64 0, .int .i64 n]) rfl (Nat.le_refl _)).rd
        exact this
    · have : ps ≠ [] := fun e => h0 (by subst e; rfl)
      have fm0 : Fm No h (h.new ⟨[.int .i64 l.key, .int .i64 l.nonce, .int .i64 c, .int .i64 t, .slice oa ps.length cc], .own⟩) := Fm.new Fm.refl
      refine ⟨w.new, fm0, oa, cc, ?_, ?_⟩
      · rw [prts, if_neg this]; exact r.keep w fm0 (fun _ _ => id)
      · rw [prts, if_neg this]
  rintro t0 h1 ⟨w1, fm1, hg1, pa, pc, rp, rfl⟩
  simp +contextual only [↓AM, ↓AV, AP]
  generalize hps : prts ps n = P at rp wi
  have hstrs : strs c t ps n = keepS (sparts c t P).1 := by rw [strs, hps]
  rw [hstrs]
  have hP40 := wi.len
  -- the parts, one after another
  refine WL.mk (fun k t' h' => Wf h' ∧ Fm No h1 h' ∧ ∃ i : Nat, i ≤ P.length ∧ k = P.length - i ∧ ∃ a cap, Nw h1 a ∧ Ow h' 4 a (sparts c t (P.take i)).1.length cap ((sparts c t (P.take i)).1.flatMap strC) ∧
      t' = [(1, some (.int .i64 n)), (2, some (.pointer (some ⟨h.size, 0, none⟩))), (7, some (.slice a (sparts c t (P.take i)).1.length cap)), (8, some (.int .i64 (sparts c t (P.take i)).2.1)), (9, some (.int .i64 (sparts c t (P.take i)).2.2)),
        (22, some (.slice pa P.length pc)), (23, some (.int .i64 P.length)), (24, some (.int .i64 i))])
    ⟨_, w1, Fm.refl, 0, by omega, rfl, none, 0, Nw.none, Ow.mk0, rfl⟩ ?_
  rintro k t0 h2 ⟨w2, fm2, i, hi, rfl, a, cap, nw, ow, rfl⟩
  by_cases hin : i < P.length
  case neg =>
    have : i = P.length := by omega
    subst this
    have e1 : P.take P.length = P := List.take_length
    rw [e1] at ow ⊢
    simp +contextual only [↓AM, ↓AV, AP, hin]
    have hle := sparts_le (c := c) (t := t) wi P.length (Nat.le_refl _)
    rw [e1] at hle
    refine (c_DeleteStr ow (by omega)).use ?_
    rintro _ h3 w3 ⟨rfl, ow3, fm3⟩
    simp +contextual only [↓AM, ↓AV, AP]
    obtain ⟨g1, g2⟩ := grown fm2 nw fm3 (fun x hx => .inl hx)
    refine ⟨_, _, ?_, ow3, fun x hx => Nat.le_trans fm1.size (nw x hx), fm1.trans g1 fun _ _ x => x⟩
    rw [sparts_at]
    simp [EqI, Int.ofNat_inj]
  have hx : P[i]? = some P[i] := List.getElem?_eq_getElem hin
  obtain ⟨b1, o1, s1, u, rfl, f1, hu, r1, -⟩ := (rp.keep w1 fm2 (fun _ _ => id)).elem natC_len rfl hin
  have hub := wi.bd u (List.mem_of_getElem? hu)
  simp only [natC] at r1
  have hg2 := fm2.keep w1 hg1 id
  have hsz2 : h.size ≠ h2.size := by have := w1.lt hg1; have := fm2.size; omega
  have hgn : ∀ o, (h2.new o).get h.size = _ := fun o => (get_new (h := h2) (o := o) (Nat.lt_of_lt_of_le (w1.lt hg1) fm2.size)).trans hg2
  have hrd : ∀ o j, (h2.new o).rd h.size j = _ := fun o j => rd_mk (hgn o)
  have htk : sparts c t (P.take (i + 1)) = spart c t (sparts c t (P.take i)) u := by
    rw [List.take_add_one, hu]; simp only [Option.toList_some]; rw [sparts_snoc]
  have hle := sparts_le (c := c) (t := t) wi i (by omega)
  have hat := sparts_at c t (P.take i)
  have hsum := sum_take_le wi i
  generalize hst : sparts c t (P.take i) = st at *
  obtain ⟨S, at0, dn⟩ := st
  simp only at hle hat ow htk ⊢
  have hb1 : at0 ≤ 80000000 := by omega
  have hb2 : dn ≤ 80000000 := by have : i * 1000000 ≤ 40 * 1000000 := Nat.mul_le_mul_right _ (by omega); omega
  have hb3 : S.length ≤ 80000000 := by have : i * (1000000 + 1) ≤ 40 * (1000000 + 1) := Nat.mul_le_mul_right _ (by omega); omega
  simp +contextual (disch := omega) only [↓AM, ↓AV, AP, hin, f1, r1, rnew, nadd, i64]
  have fm02 : Fm No h2 (h2.new ⟨[.int .i64 u.1, .int .i64 u.2], .own⟩) := Fm.new Fm.refl
  have w2n : Wf (h2.new ⟨[.int .i64 u.1, .int .i64 u.2], .own⟩) := w2.new
  have own := ow.keep w2 fm02 (fun _ _ => id)
  have fm12 := fm2.trans fm02 (fun _ _ x => x)
  have hga := hgn ⟨[.int .i64 u.1, .int .i64 u.2], .own⟩
  have hgu : (h2.new ⟨[.int .i64 u.1, .int .i64 u.2], .own⟩).get h2.size = some ⟨[.int .i64 u.1, .int .i64 u.2], .own⟩ := gnew
  have hsza : h2.size < (h2.new ⟨[.int .i64 u.1, .int .i64 u.2], .own⟩).size := Nat.lt_succ_self _
  generalize h2.new ⟨[.int .i64 u.1, .int .i64 u.2], .own⟩ = h3 at *
  have nau : ¬ At a h2.size := fun hx => Nat.lt_irrefl _ (ow.lt w2 _ hx)
  refine WC.mk (fun t' h' => Wf h' ∧ Fm No h1 h' ∧ ∃ a cap, Nw h1 a ∧ Ow h' 4 a (spart c t (S, at0, dn) u).1.length cap ((spart c t (S, at0, dn) u).1.flatMap strC) ∧
      t' = [(1, some (.int .i64 n)), (2, some (.pointer (some ⟨h.size, 0, none⟩))), (7, some (.slice a (spart c t (S, at0, dn) u).1.length cap)), (9, some (.int .i64 (spart c t (S, at0, dn) u).2.2)), (12, some (.int .i64 ((at0 + u.1 + u.2 : Nat) : Int))),
        (22, some (.slice (some ⟨b1, o1, s1⟩) P.length pc)), (23, some (.int .i64 P.length)), (24, some (.int .i64 i))]) ?_ ?_
  case refine_2 =>
    rintro t0 h4 ⟨w4, fm4, a4, cap4, nw4, ow4, rfl⟩
    simp +contextual (disch := omega) only [↓AM, ↓AV, AP, nadd1, i64]
    refine ⟨_, ?_, w4, fm4, i + 1, hin, rfl, a4, cap4, nw4, ?_, ?_⟩
    · omega
    · rw [htk]; exact ow4
    · rw [htk]
      have : (spart c t (S, at0, dn) u).2.1 = at0 + u.1 + u.2 := by unfold spart; split <;> rfl
      rw [this]
  by_cases hc : c = 0
  · have e0 : EqI (c : Int) 0 = True := eq_true (by unfold EqI; omega)
    have hsp : spart c t (S, at0, dn) u = (S ++ [(at0 + u.1, at0 + u.1 + u.2, dn / 16, dn % 16)], at0 + u.1 + u.2, dn + u.2) := by rw [spart, if_pos hc]
    rw [hsp]
    simp +contextual (disch := omega) only [↓AM, ↓AV, AP, rd_mk hga, e0, e16_0, n16_0, i64_div, i64_rem, ndiv16, nmod16, i64, src_n4]
    refine own.push (m := 1) w2n (by rfl) (by omega) fun a' cap' h4 o4 w4 f4 n4 => ?_
    obtain ⟨g1, g2⟩ := grown fm12 nw f4 n4
    have hgu4 := f4.keep w2n hgu nau
    simp +contextual (disch := omega) only [↓AM, ↓AV, AP, rd_mk hgu4, nadd, i64]
    refine ⟨w4, g1, a', cap', g2, ?_, ?_⟩
    · simp only [List.length_append, List.length_singleton, List.flatMap_append, List.flatMap_cons, List.flatMap_nil, List.append_nil]
      exact o4
    · simp
  · have e0 : EqI (c : Int) 0 = False := eq_false (by unfold EqI; omega)
    have hsp : spart c t (S, at0, dn) u = ((sblks c t (at0 + u.1) (S, dn) (u.2 / 16)).1, at0 + u.1 + u.2, (sblks c t (at0 + u.1) (S, dn) (u.2 / 16)).2) := by rw [spart, if_neg hc]
    rw [hsp]
    simp +contextual (disch := omega) only [↓AM, ↓AV, AP, rd_mk hga, e0]
    refine WL.mk (fun q t' h' => Wf h' ∧ Fm No h1 h' ∧ ∃ k : Nat, k ≤ u.2 / 16 ∧ q = u.2 / 16 - k ∧ ∃ a cap, Nw h1 a ∧ Ow h' 4 a (sblks c t (at0 + u.1) (S, dn) k).1.length cap ((sblks c t (at0 + u.1) (S, dn) k).1.flatMap strC) ∧
      t' = [(1, some (.int .i64 n)), (2, some (.pointer (some ⟨h.size, 0, none⟩))), (7, some (.slice a (sblks c t (at0 + u.1) (S, dn) k).1.length cap)), (8, some (.int .i64 ((at0 + u.1 + 16 * k : Nat) : Int))), (9, some (.int .i64 (sblks c t (at0 + u.1) (S, dn) k).2)), (12, some (.int .i64 ((at0 + u.1 + u.2 : Nat) : Int))), (13, some (.int .i64 k)),
        (22, some (.slice (some ⟨b1, o1, s1⟩) P.length pc)), (23, some (.int .i64 P.length)), (24, some (.int .i64 i))]) ⟨_, w2n, fm12, 0, by omega, rfl, a, cap, nw, own, rfl⟩ ?_
    rintro q t0 h4 ⟨w4, fm4, k, hk, rfl, a4, cap4, nw4, ow4, rfl⟩
    have hbl := sblks_le c t (at0 + u.1) (S, dn) k
    by_cases hkn : k < u.2 / 16
    case neg =>
      have : k = u.2 / 16 := by omega
      subst this
      have hcnd : ((at0 + u.1 + 16 * (u.2 / 16) + 16 : Nat) ≤ at0 + u.1 + u.2) = False := eq_false (by omega)
      simp +contextual (disch := omega) only [↓AM, ↓AV, AP, nadd16, i64, hcnd]
      exact ⟨w4, fm4, a4, cap4, nw4, ow4, rfl⟩
    have hcnd : ((at0 + u.1 + 16 * k + 16 : Nat) ≤ at0 + u.1 + u.2) = True := eq_true (by omega)
    have hS := sblks_S c t (at0 + u.1) (S, dn) k
    generalize hst2 : sblks c t (at0 + u.1) (S, dn) k = st at *
    obtain ⟨S4, d4⟩ := st
    simp only at hbl ow4 ⊢
    have hg4 := fm4.keep w1 hg1 id
    have ect : EqI ((c + t : Nat) : Int) 0 = False := eq_false (by unfold EqI; omega)
    have hlt : ((k % (c + t) : Nat) < c) = (k % (c + t) < c) := rfl
    simp +contextual (disch := omega) only [↓AM, ↓AV, AP, nadd16, nadd, i64, hcnd, rd_mk hg4, ldOk, ect, i64_rem, nmod]
    refine ⟨by omega, fun hb => ?_, fun hb => ?_⟩
    · rw [sblk, if_pos hb] at hS
      simp only [src_n4, ifS_some]
      refine ow4.push (m := 1) w4 (by rfl) (by omega) fun a' cap' h5 o5 w5 f5 n5 => ?_
      obtain ⟨g1, g2⟩ := grown fm4 nw4 f5 n5
      simp +contextual (disch := omega) only [↓AM, ↓AV, AP, nadd16, nadd1, i64]
      refine ⟨_, ?_, w5, g1, k + 1, hkn, rfl, a', cap', g2, ?_, ?_⟩
      · omega
      · rw [hS]
        simp only [List.length_append, List.length_singleton, List.flatMap_append, List.flatMap_cons, List.flatMap_nil, List.append_nil]
        exact o5
      · rw [hS]
        simp only [List.length_append, List.length_singleton]
        rw [show at0 + u.1 + 16 * k + 16 = at0 + u.1 + 16 * (k + 1) by omega]
    · rw [sblk, if_neg hb] at hS
      simp +contextual (disch := omega) only [↓AM, ↓AV, AP, nadd16, nadd1, i64]
      refine ⟨_, ?_, w4, fm4, k + 1, hkn, rfl, a4, cap4, nw4, ?_, ?_⟩
      · omega
      · rw [hS]; exact ow4
      · rw [hS]
        rw [show at0 + u.1 + 16 * k + 16 = at0 + u.1 + 16 * (k + 1) by omega]
end Go.Proofs.Ytloonniiffbopaa.Cr
