/- Unpacking. Plain theorems over the abstract machine.
   Conditions: none. -/
import Derived.Test.YtholkooikmbamaaArYa
namespace Go.Proofs.Ytholkooikmbamaa.Ar
open Go Go.RowKit Go.Proofs.Ytholkooikmbamaa.Am Go.Proofs.Ytholkooikmbamaa.Af
set_option linter.unusedVariables false
set_option linter.unusedSimpArgs false
set_option maxRecDepth 20000

theorem any_ctx (l : List Int) : (l.any fun p => !decide (Cx p)) = !ctxB l := by
  induction l with
  | nil => rfl
  | cons x r ih => simp only [List.any_cons, ih, ctxB, List.all_cons, Bool.not_and]
theorem dbit_ok {bs : List Int} {s : De} {p : Int} (hp : St p) : (gok bs s p = true → dbitB bs s p = gbit s p ∧ dbitN bs s p = stepI p (gbit s p) ∧ dbitI bs s p = 0 ∧ dbitS bs s p = gst bs s p) ∧ (¬ gok bs s p = true → dbitI bs s p = 3) := by
  refine ⟨fun ok => ?_, fun ok => ?_⟩
  · have hc : St p ∧ gok bs s p = true := ⟨hp, ok⟩
    exact ⟨if_pos hc, if_pos hc, by rw [dbitI, if_pos hp, if_pos ok], if_pos hc⟩
  · rw [dbitI, if_pos hp, if_neg ok]
theorem c_Unpack {h : Hp} {a1 a2 : Option Addr} {n1 n2 c1 c2 : Nat} {bs cs : List Int} (r1 : Rd h 1 a1 n1 (bs.map (Value.int .u8))) (hb : Bytes bs) (hc1 : n1 ≤ c1) (r2 : Rd h 1 a2 n2 (cs.map (Value.int .i64))) (hn1 : n1 ≤ 100000000) (hn2 : n2 ≤ 4000) :
    ACalls Try.prog 36 [.slice a1 n1 c1, .slice a2 n2 c2] h (UPost h bs cs) := by
  refine arith_Unpack_ok.snd hm rfl fun w => ?_
  rw [WF_eq, arith_Unpack]
  have l1 := r1.ilen
  have l2 := r2.ilen
  simp +contextual only [↓AM, ↓AV, AP]
  refine (c_ContainsFunc r2 (by omega) (by kernel_rfl) (p := fun p => !decide (Cx p)) (fun x _ => c_Unpack1)).use ?_
  rintro _ h w0 ⟨rfl, rfl⟩
  rw [any_ctx]
  by_cases hcx : ctxB cs = true
  case neg =>
    have hcx' : ctxB cs = false := by simpa using hcx
    simp +contextual only [↓AM, ↓AV, AP, hcx']
    exact UPost.err (if_neg hcx) Fm.refl
  have hR0 : unpR bs cs = if bs.length < 4 then .error 3 else unp bs cs (newD bs, List.replicate 100 2048) [] := if_pos hcx
  simp +contextual only [↓AM, ↓AV, AP, hcx]
  refine (c_NewDecoder r1 hb (by omega) hc1).use ?_
  rintro v1 k1 w1 ⟨p1, p2, fm1⟩
  by_cases hlen : n1 < 4
  · obtain rfl := p1 hlen
    simp +contextual only [↓AM, ↓AV, AP, e3_0]
    exact UPost.err (by rw [hR0, if_pos (by omega)]) fm1
  obtain ⟨rfl, hd1⟩ := p2 (by omega)
  rw [if_neg (by omega)] at hR0
  have g0 := newD_gd hb (by omega)
  have hal : ¬ At a1 h.size := fun hx => Nat.lt_irrefl _ (Rd.lt r1 w (by omega) hx)
  have ld1 := w1.lt hd1
  simp +contextual only [↓AM, ↓AV, AP, eqI_self]
  refine (c_States (n := 100)).use ?_
  rintro _ k2 w2 ⟨_, q, fm2⟩
  obtain ⟨ba, rfl, ow2, hba⟩ := q (by omega)
  have nw2 : Nw k1 (some ⟨ba, 0, none⟩) := fun x hx => (by rw [At.some] at hx; subst hx; exact hba)
  have n100 : Int.toNat 100 = 100 := rfl
  rw [n100] at ow2
  have U0 : UAt (pO a1 n1 c1) h k2 h.size (some ⟨ba, 0, none⟩) none 100 0 (newD bs, List.replicate 100 2048) [] :=
    ⟨w2, fm1.trans fm2 fun _ _ => id, fm2.keep w1 hd1 id, ow2, Ow.mk0, fun hx => (by have := nw2 _ hx; omega), At.none, fun x hx => At.none, Nat.le_refl _, fun x hx => Nat.le_trans fm1.size (nw2 x hx), Nw.none⟩
  generalize h.size = d at U0 hal
  generalize newD bs = s0 at U0 g0 hR0
  clear p1 p2 hd1 fm2 w2
  simp +contextual only [↓AM, ↓AV, AP, n100]
  refine WL.mk (fun m t h' => ∃ j : Nat, j ≤ n2 ∧ m = n2 - j ∧ ∃ ob cb z acc, UAt (pO a1 n1 c1) h h' d (some ⟨ba, 0, none⟩) ob 100 cb z acc ∧ DGd z.1 bs.length ∧ S100 z.2 ∧ unpR bs cs = unp bs (cs.drop j) z acc ∧ acc.length = j ∧
    t = [(6, some (.pointer (some ⟨d, 0, none⟩))), (8, some (.slice (some ⟨ba, 0, none⟩) 100 100)), (10, some (.slice ob j cb)), (30, some (.slice a2 n2 c2)), (31, some (.int .i64 n2)), (32, some (.int .i64 j))])
    ⟨_, 0, Nat.zero_le _, rfl, none, 0, _, [], U0, g0, s100_0, hR0, rfl, rfl⟩ ?_
  clear U0 g0 hR0
  rintro m t k ⟨j, hj, rfl, ob, cb, z, acc, U, g, o, hR, hac, rfl⟩
  by_cases hjl : j < n2
  case neg =>
    rw [List.drop_of_length_le (by omega), unp] at hR
    simp +contextual only [↓AM, ↓AV, AP, hjl]
    exact ⟨fun e q => (by rw [hR] at q; cases q), fun l q => (by rw [hR] at q; cases q; exact ⟨ob, cb, by rw [hac], U.ac, U.nb⟩), U.fm⟩
  obtain ⟨b2, o2, s2, rfl, f2, q2⟩ := (r2.keep w U.fm (fun _ _ => id)).at hjl
  obtain ⟨y1, y2⟩ := ctx_at hcx (i := j) (by omega)
  rw [drop_at (l := cs) (by omega), unp] at hR
  obtain ⟨y, hy⟩ : ∃ y : Nat, cs.getD j 0 = y := ⟨(cs.getD j 0).toNat, by omega⟩
  rw [hy] at q2 y2
  rw [hy, Int.toNat_natCast] at hR
  have hy100 : y < 100 := by omega
  have hst := o.at hy100
  obtain ⟨bb, sp, oo, e3, f3, hgo, hmd, hle, rk, _⟩ := U.cell o hy100
  cases e3
  simp +contextual only [↓AM, ↓AV, AP, hjl, f2, q2, f3, hy100, rk]
  refine (c_DBit U.dec (r1.keep w U.fm (fun _ _ => id)) hb (by omega) hal g).use ?_
  rintro _ k3 w3 ⟨rfl, hd3, fm3⟩
  obtain ⟨dok, dno⟩ := dbit_ok (bs := bs) (s := z.1) hst
  by_cases ok : gok bs z.1 (z.2.getD y 0) = true
  case neg =>
    have e3 : dbitI bs z.1 (z.2.getD y 0) = 3 := dno ok
    rw [if_neg ok] at hR
    simp +contextual only [↓AM, ↓AV, AP, tri, e3, e3_0]
    exact UPost.err hR (U.fm.trans fm3 fun x hx e => by have := U.nd; omega)
  obtain ⟨e1, e2, e3, e4⟩ := dok ok
  rw [if_pos ok] at hR
  rw [e4] at hd3
  have U3 := U.stepD w3 hd3 fm3
  have q2' : k3.rd b2 (o2 + j) = some (.int .i64 y) := by
    obtain ⟨b', o', s', e1, _, e2⟩ := (r2.keep w U3.fm (fun _ _ => id)).at hjl
    cases e1
    rw [e2, hy]
  obtain ⟨bb2, sp2, oo2, e5, f4, hgo2, hmd2, hle2, rk2, hp2⟩ := U3.cell o hy100
  cases e5
  have U4 := hp2 (stepI (z.2.getD y 0) (gbit z.1 (z.2.getD y 0)))
  have g4 := gst_gd g hb hst ok
  have o4 := o.set (k := y) (step_st (b := gbit z.1 (z.2.getD y 0)) hst)
  have ej : IntKind.i64.wrap ((j : Int) + 1) = ((j + 1 : Nat) : Int) := by rw [i64 (by omega)]; rfl
  simp +contextual only [↓AM, ↓AV, AP, tri, hjl, hy100, f2, f3, q2', hgo2, hmd2, hle2, e1, e2, e3, eqI_self, src_new]
  have ac4 := U4.ac
  rw [hac] at ac4
  refine ac4.push (m := 1) U4.wf rfl (by omega) fun ob' cb' k5 o5 w5 fm5 nx5 => ?_
  rw [← hac] at o5
  have U5 := U4.push w5 o5 fm5 nx5
  try simp +contextual only [↓AM, ↓AV, AP, ej]
  exact ⟨_, by omega, j + 1, hjl, rfl, ob', cb', _, _, U5, g4, o4, hR, by simp [hac], rfl⟩
theorem c_rUnpack {h : Hp} {a1 a2 : Option Addr} {n1 n2 c1 c2 : Nat} {bs cs : List Int} (r1 : Rd h 1 a1 n1 (bs.map (Value.int .u8))) (hb : Bytes bs) (hc1 : n1 ≤ c1) (r2 : Rd h 1 a2 n2 (cs.map (Value.int .i64))) (hn1 : n1 ≤ 100000000) (hn2 : n2 ≤ 4000) :
    ACalls Try.prog 37 [.slice a1 n1 c1, .slice a2 n2 c2] h (UPost h bs cs) := by
  refine dioramaref13_Unpack_ok.snd hm rfl fun w => ?_
  rw [WF_eq, dioramaref13_Unpack]
  have l1 := r1.ilen
  have l2 := r2.ilen
  simp +contextual only [↓AM, ↓AV, AP]
  refine (c_contexts r2 (by omega)).use ?_
  rintro _ h w0 ⟨rfl, rfl⟩
  by_cases hcx : ctxB cs = true
  case neg =>
    have hcx' : ctxB cs = false := by simpa using hcx
    simp +contextual only [↓AM, ↓AV, AP, hcx']
    exact UPost.err (if_neg hcx) Fm.refl
  have hR0 : unpR bs cs = if bs.length < 4 then .error 3 else unp bs cs (newD bs, List.replicate 100 2048) [] := if_pos hcx
  simp +contextual only [↓AM, ↓AV, AP, hcx]
  refine (c_rNewDecoder r1 hb (by omega)).use ?_
  rintro v1 k1 w1 ⟨p1, p2, fm1⟩
  by_cases hlen : n1 < 4
  · obtain rfl := p1 hlen
    simp +contextual only [↓AM, ↓AV, AP, e3_0]
    exact UPost.err (by rw [hR0, if_pos (by omega)]) fm1
  obtain ⟨rfl, hd1⟩ := p2 (by omega)
  rw [if_neg (by omega)] at hR0
  have g0 := newD_gd hb (by omega)
  have hal : ¬ At a1 h.size := fun hx => Nat.lt_irrefl _ (Rd.lt r1 w (by omega) hx)
  have ld1 := w1.lt hd1
  simp +contextual only [↓AM, ↓AV, AP, eqI_self]
  refine (c_rStates (n := 100)).use ?_
  rintro _ k2 w2 ⟨_, q, fm2⟩
  obtain ⟨os, cap, rfl, ow2, nw2⟩ := q (by omega)
  have n100 : Int.toNat 100 = 100 := rfl
  rw [n100] at ow2
  have U0 : UAt (rO a1 n1 c1) h k2 h.size os none cap 0 (newD bs, List.replicate 100 2048) [] :=
    ⟨w2, fm1.trans fm2 fun _ _ => id, fm2.keep w1 hd1 id, ow2, Ow.mk0, fun hx => (by have := nw2 _ hx; omega), At.none, fun x hx => At.none, Nat.le_refl _, fun x hx => Nat.le_trans fm1.size (nw2 x hx), Nw.none⟩
  generalize h.size = d at U0 hal
  generalize newD bs = s0 at U0 g0 hR0
  clear p1 p2 hd1 fm2 w2
  simp +contextual only [↓AM, ↓AV, AP, n100]
  refine WL.mk (fun m t h' => ∃ j : Nat, j ≤ n2 ∧ m = n2 - j ∧ ∃ ob cb z acc, UAt (rO a1 n1 c1) h h' d os ob cap cb z acc ∧ DGd z.1 bs.length ∧ S100 z.2 ∧ unpR bs cs = unp bs (cs.drop j) z acc ∧ acc.length = j ∧
    t = [(1, some (.slice a2 n2 c2)), (6, some (.pointer (some ⟨d, 0, none⟩))), (8, some (.slice os 100 cap)), (10, some (.slice ob j cb)), (11, some (.int .i64 j))])
    ⟨_, 0, Nat.zero_le _, rfl, none, 0, _, [], U0, g0, s100_0, hR0, rfl, rfl⟩ ?_
  clear U0 g0 hR0
  rintro m t k ⟨j, hj, rfl, ob, cb, z, acc, U, g, o, hR, hac, rfl⟩
  by_cases hjl : j < n2
  case neg =>
    rw [List.drop_of_length_le (by omega), unp] at hR
    simp +contextual only [↓AM, ↓AV, AP, hjl]
    exact ⟨fun e q => (by rw [hR] at q; cases q), fun l q => (by rw [hR] at q; cases q; exact ⟨ob, cb, by rw [hac], U.ac, U.nb⟩), U.fm⟩
  obtain ⟨b2, o2, s2, rfl, f2, q2⟩ := (r2.keep w U.fm (fun _ _ => id)).at hjl
  obtain ⟨y1, y2⟩ := ctx_at hcx (i := j) (by omega)
  rw [drop_at (l := cs) (by omega), unp] at hR
  obtain ⟨y, hy⟩ : ∃ y : Nat, cs.getD j 0 = y := ⟨(cs.getD j 0).toNat, by omega⟩
  rw [hy] at q2 y2
  rw [hy, Int.toNat_natCast] at hR
  have hy100 : y < 100 := by omega
  have hst := o.at hy100
  obtain ⟨bb, sp, oo, rfl, f3, hgo, hmd, hle, rk, _⟩ := U.cell o hy100
  skip
  simp +contextual only [↓AM, ↓AV, AP, hjl, f2, q2, f3, hy100, rk]
  refine (c_rDBit U.dec (r1.keep w U.fm (fun _ _ => id)) hb (by omega) (by omega) hal g).use ?_
  rintro _ k3 w3 ⟨rfl, hd3, fm3⟩
  obtain ⟨dok, dno⟩ := dbit_ok (bs := bs) (s := z.1) hst
  by_cases ok : gok bs z.1 (z.2.getD y 0) = true
  case neg =>
    have e3 : dbitI bs z.1 (z.2.getD y 0) = 3 := dno ok
    rw [if_neg ok] at hR
    simp +contextual only [↓AM, ↓AV, AP, tri, e3, e3_0]
    exact UPost.err hR (U.fm.trans fm3 fun x hx e => by have := U.nd; omega)
  obtain ⟨e1, e2, e3, e4⟩ := dok ok
  rw [if_pos ok] at hR
  rw [e4] at hd3
  have U3 := U.stepD w3 hd3 fm3
  have q2' : k3.rd b2 (o2 + j) = some (.int .i64 y) := by
    obtain ⟨b', o', s', e1, _, e2⟩ := (r2.keep w U3.fm (fun _ _ => id)).at hjl
    cases e1
    rw [e2, hy]
  obtain ⟨bb2, sp2, oo2, e5, f4, hgo2, hmd2, hle2, rk2, hp2⟩ := U3.cell o hy100
  cases e5
  have U4 := hp2 (stepI (z.2.getD y 0) (gbit z.1 (z.2.getD y 0)))
  have g4 := gst_gd g hb hst ok
  have o4 := o.set (k := y) (step_st (b := gbit z.1 (z.2.getD y 0)) hst)
  have ej : IntKind.i64.wrap ((j : Int) + 1) = ((j + 1 : Nat) : Int) := by rw [i64 (by omega)]; rfl
  simp +contextual only [↓AM, ↓AV, AP, tri, hjl, hy100, f2, f3, q2', hgo2, hmd2, hle2, e1, e2, e3, eqI_self, src_new]
  have ac4 := U4.ac
  rw [hac] at ac4
  refine ac4.push (m := 1) U4.wf rfl (by omega) fun ob' cb' k5 o5 w5 fm5 nx5 => ?_
  rw [← hac] at o5
  have U5 := U4.push w5 o5 fm5 nx5
  try simp +contextual only [↓AM, ↓AV, AP, ej]
  exact ⟨_, by omega, j + 1, hjl, rfl, ob', cb', _, _, U5, g4, o4, hR, by simp [hac], rfl⟩
end Go.Proofs.Ytholkooikmbamaa.Ar
