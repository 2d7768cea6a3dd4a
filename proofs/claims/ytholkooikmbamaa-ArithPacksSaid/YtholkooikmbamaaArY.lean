/- Packing. Plain theorems over the abstract machine.
   Conditions: none. -/
import Derived.Test.YtholkooikmbamaaArX
namespace Go.Proofs.Ytholkooikmbamaa.Ar
open Go Go.RowKit Go.Proofs.Ytholkooikmbamaa.Am Go.Proofs.Ytholkooikmbamaa.Af
set_option linter.unusedVariables false
set_option linter.unusedSimpArgs false
set_option maxRecDepth 20000

theorem drop_at {l : List Int} {i : Nat} (h : i < l.length) : l.drop i = l.getD i 0 :: l.drop (i + 1) := by
  rw [List.getD_eq_getElem?_getD, List.getElem?_eq_getElem h]
  exact List.drop_eq_getElem_cons h
theorem bitI_ok {e : En} {p b : Int} (hp : St p) (hb : b = 0 ∨ b = 1) (hn : e.n ≤ 1048576) : bitI e p b = (stepI p b, 0) ∧ bitE e p b = Ar.put e p b := by
  have hn' : ¬ 1048576 < e.n := by omega
  have hc : St p ∧ (b = 0 ∨ b = 1) ∧ ¬ 1048576 < e.n := ⟨hp, hb, hn'⟩
  exact ⟨by rw [bitI, if_pos hp, if_pos hb, if_neg hn'], by rw [bitE, if_pos hc]⟩
theorem c_Pack {h : Hp} {a1 a2 : Option Addr} {n1 n2 c1 c2 : Nat} {bits cs : List Int} (r1 : Rd h 1 a1 n1 (bits.map (Value.int .i64))) (r2 : Rd h 1 a2 n2 (cs.map (Value.int .i64))) (hn1 : n1 ≤ 4000) (hn2 : n2 ≤ 4000) :
    ACalls Try.prog 34 [.slice a1 n1 c1, .slice a2 n2 c2] h (KPost h bits cs) := by
  refine arith_Pack_ok.snd hm rfl fun w => ?_
  rw [WF_eq, arith_Pack]
  have l1 := r1.ilen
  have l2 := r2.ilen
  have bad : ∀ k, Fm No h k → packB bits cs = false → KPost h bits cs (.tuple #[.slice none 0 0, .int .i64 1]) k := fun k fm hp => ⟨fun h => (by rw [hp] at h; cases h), fun _ => rfl, fm⟩
  by_cases hne : n1 = n2
  case neg =>
    have e1 : EqI (n1 : Int) (n2 : Int) = False := by simp [EqI]; omega
    simp +contextual only [↓AM, ↓AV, AP, e1]
    exact bad _ Fm.refl (by simp [packB, l1, l2, hne])
  subst hne
  have e1 : EqI (n1 : Int) (n1 : Int) = True := eqI_self
  have hpk : packB bits cs = (bitsB bits && ctxB cs) := by simp [packB, l1, l2]
  simp +contextual only [↓AM, ↓AV, AP, e1]
  refine WL.mk (fun m t h' => h' = h ∧ ∃ i : Nat, i ≤ n1 ∧ m = n1 - i ∧ packB bits cs = (bitsB (bits.drop i) && ctxB (cs.drop i)) ∧ t = [(0, some (.slice a1 n1 c1)), (1, some (.slice a2 n1 c2)), (19, some (.slice a1 n1 c1)), (20, some (.int .i64 n1)), (21, some (.int .i64 i))])
    ⟨_, rfl, 0, Nat.zero_le _, rfl, hpk, rfl⟩ ?_
  rintro m t h ⟨rfl, i, hi, rfl, he, rfl⟩
  by_cases hlt : i < n1
  · obtain ⟨b1, o1, s1, rfl, f1, q1⟩ := r1.at hlt
    obtain ⟨b2, o2, s2, rfl, f2, q2⟩ := r2.at hlt
    rw [drop_at (l := bits) (by omega), drop_at (l := cs) (by omega)] at he
    generalize bits.getD i 0 = x at he q1
    generalize cs.getD i 0 = y at he q2
    have ei : IntKind.i64.wrap ((i : Int) + 1) = ((i + 1 : Nat) : Int) := by rw [i64 (by omega)]; rfl
    by_cases hx : x = 0 ∨ x = 1
    case neg =>
      have x0 : EqI x 0 = False := eq_false fun h => hx (.inl h)
      have x1 : EqI x 1 = False := eq_false fun h => hx (.inr h)
      simp +contextual only [↓AM, ↓AV, AP, hlt, f1, q1, x0, x1]
      exact bad _ Fm.refl (by rw [he]; simp [bitsB, hx])
    have hc0 : ∀ P : Prop, P → P := fun _ => id
    rcases hx with hx | hx <;> subst hx
    all_goals
      have x1 : EqI 1 0 = False := e1_0
      have x2 : EqI 0 0 = True := eqI_self
      have x3 : EqI 1 1 = True := eqI_self
      simp +contextual only [↓AM, ↓AV, AP, hlt, f1, q1, x1, x2, x3, f2, q2]
      refine c_isContext.use ?_
      rintro _ h w1 ⟨rfl, rfl⟩
      by_cases hy : Cx y
      · simp +contextual only [↓AM, ↓AV, AP, hy, ei]
        exact ⟨_, by omega, i + 1, hlt, rfl, by rw [he]; simp [bitsB, ctxB, hy], rfl⟩
      · simp +contextual only [↓AM, ↓AV, AP, hy]
        exact bad _ Fm.refl (by rw [he]; simp [bitsB, ctxB, hy])
  have hi' : i = n1 := by omega
  subst hi'
  rw [List.drop_of_length_le (by omega), List.drop_of_length_le (by omega)] at he
  have hok : packB bits cs = true := he
  have hbc : bitsB bits = true ∧ ctxB cs = true := by rw [hok] at hpk; simpa using hpk.symm
  have hbig : ¬ (1048577 : Int) < (i : Nat) := by omega
  simp +contextual only [↓AM, ↓AV, AP, hlt, hbig]
  refine (c_States (n := 100)).use ?_
  rintro _ k1 w1 ⟨_, q, fm1⟩
  obtain ⟨ba, rfl, ow1, hba⟩ := q (by omega)
  have n100 : Int.toNat 100 = 100 := rfl
  rw [n100] at ow1
  simp +contextual only [↓AM, ↓AV, AP, n100]
  refine c_NewEncoder.use ?_
  rintro _ k2 w2 ⟨rfl, e2, fm2, lt2⟩
  have hbl := ow1.lt w1 ba (At.some.2 rfl)
  have K0 : KAt .u64 h k2 k1.size none (some ⟨ba, 0, none⟩) 100 (pkS bits cs 0) := by
    refine ⟨w2, fm1.trans fm2 fun _ _ => id, e2, ow1.keep w1 fm2 (fun _ _ => id), fun x hx hF => ?_, fun x hx => ?_, fun x hx => ?_⟩
    · rw [At.some] at hx
      subst hx
      rcases hF with h | h
      · have h : ba = k1.size := h
        omega
      · exact At.none h
    · rcases hx with h | h
      · subst h; exact fm1.size
      · exact absurd h At.none
    · rw [At.some] at hx; subst hx; exact hba
  generalize k1.size = b at K0
  simp +contextual only [↓AM, ↓AV, AP]
  refine WL.mk (fun m t h' => ∃ j : Nat, j ≤ i ∧ m = i - j ∧ ∃ oa, KAt .u64 h h' b oa (some ⟨ba, 0, none⟩) 100 (pkS bits cs j) ∧ t = [(1, some (.slice a2 i c2)), (8, some (.slice (some ⟨ba, 0, none⟩) 100 100)), (10, some (.pointer (some ⟨b, 0, none⟩))), (49, some (.slice a1 i c1)), (50, some (.int .i64 i)), (51, some (.int .i64 j))])
    ⟨_, 0, Nat.zero_le _, rfl, none, K0, rfl⟩ ?_
  clear K0 e2 ow1
  rintro m t k ⟨j, hj, rfl, oa, K, rfl⟩
  obtain ⟨g, o, hn, wd⟩ := pkS_ok (bits := bits) hbc.2 j (by omega)
  have gf : Fit (pkS bits cs j).1 := ⟨g, by rw [hn]; omega⟩
  by_cases hjl : j < i
  case neg =>
    have : j = i := by omega
    subst this
    simp +contextual only [↓AM, ↓AV, AP, hjl]
    refine (c_Close K.enc gf).use ?_
    rintro _ k3 w3 ⟨oc, nc, cc, rfl, p3, nw3, fm3⟩
    simp +contextual only [↓AM, ↓AV, AP]
    exact ⟨fun _ => ⟨oc, nc, cc, rfl, by rw [l1]; exact p3, fun x hx => Nat.le_trans K.fm.size (nw3 x hx)⟩, fun h => (by rw [hok] at h; cases h), K.fm.trans fm3 fun _ _ => id⟩
  obtain ⟨b1, o1, s1, rfl, f1, q1⟩ := (r1.keep w K.fm (fun _ _ => id)).at hjl
  obtain ⟨b2, o2, s2, rfl, f2, q2⟩ := (r2.keep w K.fm (fun _ _ => id)).at hjl
  have hb01 := bits_at hbc.1 (i := j) (by omega)
  obtain ⟨y1, y2⟩ := ctx_at hbc.2 (i := j) (by omega)
  have hpk2 : pkS bits cs (j + 1) = bitS (pkS bits cs j) (cs.getD j 0).toNat (bits.getD j 0) := rfl
  obtain ⟨y, hy⟩ : ∃ y : Nat, cs.getD j 0 = y := ⟨(cs.getD j 0).toNat, by omega⟩
  rw [hy] at q2 hpk2 y2
  rw [Int.toNat_natCast] at hpk2
  have hy100 : y < 100 := by omega
  have hst := o.at hy100
  obtain ⟨bi, be⟩ := bitI_ok (e := (pkS bits cs j).1) hst hb01 (by rw [hn]; omega)
  obtain ⟨bb, sp, ob, e3, f3, hgo, hmd, hle, rk, _⟩ := K.cell o hy100
  cases e3
  simp +contextual only [↓AM, ↓AV, AP, hjl, f1, q1, f2, q2, hy100, rk]
  refine (c_Bit K.enc gf).use ?_
  rintro _ k3 w3 ⟨rfl, oa', he3, fm3, nx3⟩
  rw [be] at he3
  rw [bi]
  have K3 := K.put w3 he3 fm3 nx3
  obtain ⟨bb2, sp2, ob2, e4, f4, hgo2, hmd2, hle2, rk2, hp2⟩ := K3.cell o hy100
  cases e4
  have K4 := hp2 (stepI ((pkS bits cs j).2.getD y 0) (bits.getD j 0))
  simp +contextual only [↓AM, ↓AV, AP, pairV, hy100, hgo2, hmd2, hle2]
  refine ⟨_, by omega, j + 1, hjl, rfl, oa', by rw [hpk2]; exact K4, ?_⟩
  rw [i64 (by omega)]; rfl
end Go.Proofs.Ytholkooikmbamaa.Ar
