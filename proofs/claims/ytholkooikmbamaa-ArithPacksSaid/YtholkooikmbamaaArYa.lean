/- Packing, the reference's. Plain theorems over the abstract machine.
   Conditions: none. -/
import Derived.Test.YtholkooikmbamaaArY
namespace Go.Proofs.Ytholkooikmbamaa.Ar
open Go Go.RowKit Go.Proofs.Ytholkooikmbamaa.Am Go.Proofs.Ytholkooikmbamaa.Af
set_option linter.unusedVariables false
set_option linter.unusedSimpArgs false
set_option maxRecDepth 20000

theorem c_rPack {h : Hp} {a1 a2 : Option Addr} {n1 n2 c1 c2 : Nat} {bits cs : List Int} (r1 : Rd h 1 a1 n1 (bits.map (Value.int .i64))) (r2 : Rd h 1 a2 n2 (cs.map (Value.int .i64))) (hn1 : n1 ≤ 4000) (hn2 : n2 ≤ 4000) :
    ACalls Try.prog 35 [.slice a1 n1 c1, .slice a2 n2 c2] h (KPost h bits cs) := by
  refine dioramaref13_Pack_ok.snd hm rfl fun w => ?_
  rw [WF_eq, dioramaref13_Pack]
  have l1 := r1.ilen
  have l2 := r2.ilen
  have bad : ∀ k, Fm No h k → packB bits cs = false → KPost h bits cs (.tuple #[.slice none 0 0, .int .i64 1]) k := fun k fm hp => ⟨fun h => (by rw [hp] at h; cases h), fun _ => rfl, fm⟩
  by_cases hne : n1 = n2
  case neg =>
    have e1 : EqI (n1 : Int) (n2 : Int) = False := by simp [EqI]; omega
    simp +contextual only [↓AM, ↓AV, AP, e1]
    exact bad _ Fm.refl (by simp [packB, l1, l2, hne])
  subst hne
  have e1 : EqI (n1 : Int) (n1 : Int) = True := eqI_self
  have hpk : packB bits cs = (bitsB bits && ctxB cs) := by simp [packB, l1, l2]
  simp +contextual only [↓AM, ↓AV, AP, e1]
  refine (c_contexts r2 (by omega)).use ?_
  rintro _ h w1 ⟨rfl, rfl⟩
  by_cases hcx : ctxB cs = true
  case neg =>
    have hcx' : ctxB cs = false := by simpa using hcx
    simp +contextual only [↓AM, ↓AV, AP, hcx']
    exact bad _ Fm.refl (by rw [hpk, hcx', Bool.and_false])
  rw [hcx, Bool.and_true] at hpk
  simp +contextual only [↓AM, ↓AV, AP, hcx]
  refine WL.mk (fun m t h' => h' = h ∧ ∃ i : Nat, i ≤ n1 ∧ m = n1 - i ∧ packB bits cs = bitsB (bits.drop i) ∧ t = [(0, some (.slice a1 n1 c1)), (1, some (.slice a2 n1 c2)), (6, some (.int .i64 i))])
    ⟨_, rfl, 0, Nat.zero_le _, rfl, hpk, rfl⟩ ?_
  rintro m t h ⟨rfl, i, hi, rfl, he, rfl⟩
  by_cases hlt : i < n1
  · obtain ⟨b1, o1, s1, rfl, f1, q1⟩ := r1.at hlt
    rw [drop_at (l := bits) (by omega)] at he
    generalize bits.getD i 0 = x at he q1
    have ei : IntKind.i64.wrap ((i : Int) + 1) = ((i + 1 : Nat) : Int) := by rw [i64 (by omega)]; rfl
    by_cases hx : x = 0 ∨ x = 1
    case neg =>
      have x0 : EqI x 0 = False := eq_false fun h => hx (.inl h)
      have x1 : EqI x 1 = False := eq_false fun h => hx (.inr h)
      simp +contextual only [↓AM, ↓AV, AP, hlt, f1, q1, x0, x1]
      exact bad _ Fm.refl (by rw [he]; simp [bitsB, hx])
    rcases hx with hx | hx <;> subst hx
    all_goals
      have x1 : EqI 1 0 = False := e1_0
      have x2 : EqI 0 0 = True := eqI_self
      have x3 : EqI 1 1 = True := eqI_self
      simp +contextual only [↓AM, ↓AV, AP, hlt, f1, q1, x1, x2, x3, ei]
      exact ⟨_, by omega, i + 1, hlt, rfl, by rw [he]; simp [bitsB], rfl⟩
  have hi' : i = n1 := by omega
  subst hi'
  rw [List.drop_of_length_le (by omega)] at he
  have hok : packB bits cs = true := he
  have hbc : bitsB bits = true ∧ ctxB cs = true := ⟨by rw [hok] at hpk; exact hpk.symm, hcx⟩
  simp +contextual only [↓AM, ↓AV, AP, hlt]
  refine (c_rStates (n := 100)).use ?_
  rintro _ k1 w1 ⟨_, q, fm1⟩
  obtain ⟨os, cap, rfl, ow1, nw1⟩ := q (by omega)
  have n100 : Int.toNat 100 = 100 := rfl
  rw [n100] at ow1
  simp +contextual only [↓AM, ↓AV, AP, n100]
  refine c_rNewEncoder.use ?_
  rintro _ k2 w2 ⟨rfl, e2, fm2, lt2⟩
  have hbl := ow1.lt w1
  have K0 : KAt .i64 h k2 k1.size none os cap (pkS bits cs 0) := by
    refine ⟨w2, fm1.trans fm2 fun _ _ => id, e2, ow1.keep w1 fm2 (fun _ _ => id), fun x hx hF => ?_, fun x hx => ?_, nw1⟩
    · have := hbl x hx
      rcases hF with h | h
      · omega
      · exact At.none h
    · rcases hx with h | h
      · subst h; exact fm1.size
      · exact absurd h At.none
  generalize k1.size = b at K0
  simp +contextual only [↓AM, ↓AV, AP]
  refine WL.mk (fun m t h' => ∃ j : Nat, j ≤ i ∧ m = i - j ∧ ∃ oa, KAt .i64 h h' b oa os cap (pkS bits cs j) ∧ t = [(0, some (.slice a1 i c1)), (1, some (.slice a2 i c2)), (7, some (.slice os 100 cap)), (9, some (.pointer (some ⟨b, 0, none⟩))), (10, some (.int .i64 j))])
    ⟨_, 0, Nat.zero_le _, rfl, none, K0, rfl⟩ ?_
  clear K0 e2 ow1
  rintro m t k ⟨j, hj, rfl, oa, K, rfl⟩
  obtain ⟨g, o, hn, wd⟩ := pkS_ok (bits := bits) hbc.2 j (by omega)
  have gf : Fit (pkS bits cs j).1 := ⟨g, by rw [hn]; omega⟩
  by_cases hjl : j < i
  case neg =>
    have : j = i := by omega
    subst this
    simp +contextual only [↓AM, ↓AV, AP, hjl]
    refine (c_rClose K.enc gf).use ?_
    rintro _ k3 w3 ⟨oc, nc, cc, rfl, p3, nw3, fm3⟩
    simp +contextual only [↓AM, ↓AV, AP]
    exact ⟨fun _ => ⟨oc, nc, cc, rfl, by rw [l1]; exact p3, fun x hx => Nat.le_trans K.fm.size (nw3 x hx)⟩, fun h => (by rw [hok] at h; cases h), K.fm.trans fm3 fun _ _ => id⟩
  have r1k := r1.keep w K.fm (fun _ _ => id)
  have r2k := r2.keep w K.fm (fun _ _ => id)
  obtain ⟨b1, o1, s1, rfl, f1, q1⟩ := r1k.at hjl
  obtain ⟨b2, o2, s2, rfl, f2, q2⟩ := r2k.at hjl
  have hb01 := bits_at hbc.1 (i := j) (by omega)
  obtain ⟨y1, y2⟩ := ctx_at hbc.2 (i := j) (by omega)
  have hpk2 : pkS bits cs (j + 1) = bitS (pkS bits cs j) (cs.getD j 0).toNat (bits.getD j 0) := rfl
  obtain ⟨y, hy⟩ : ∃ y : Nat, cs.getD j 0 = y := ⟨(cs.getD j 0).toNat, by omega⟩
  rw [hy] at q2 hpk2 y2
  rw [Int.toNat_natCast] at hpk2
  have hy100 : y < 100 := by omega
  have hst := o.at hy100
  obtain ⟨bi, be⟩ := bitI_ok (e := (pkS bits cs j).1) hst hb01 (by rw [hn]; omega)
  obtain ⟨bb, sp, ob, rfl, f3, hgo, hmd, hle, rk, _⟩ := K.cell o hy100
  simp +contextual only [↓AM, ↓AV, AP, hjl, f1, q1, f2, q2, f3, hy100, rk]
  refine (c_rBit K.enc gf).use ?_
  rintro _ k3 w3 ⟨rfl, oa', he3, fm3, nx3⟩
  rw [be] at he3
  rw [bi]
  have K3 := K.put w3 he3 fm3 nx3
  have q2' : k3.rd b2 (o2 + j) = some (.int .i64 y) := by
    obtain ⟨b', o', s', e1, _, e2⟩ := (r2.keep w K3.fm (fun _ _ => id)).at hjl
    cases e1
    rw [e2, hy]
  obtain ⟨bb2, sp2, ob2, e4, f4, hgo2, hmd2, hle2, rk2, hp2⟩ := K3.cell o hy100
  cases e4
  have K4 := hp2 (stepI ((pkS bits cs j).2.getD y 0) (bits.getD j 0))
  have ej : IntKind.i64.wrap ((j : Int) + 1) = ((j + 1 : Nat) : Int) := by rw [i64 (by omega)]; rfl
  simp +contextual only [↓AM, ↓AV, AP, pairV, hjl, hy100, f2, f3, q2', hgo2, hmd2, hle2, eqI_self, ej]
  exact ⟨_, by omega, j + 1, hjl, rfl, oa', by rw [hpk2]; exact K4, rfl⟩
/-! ### unpacking -/
def unp (bs : List Int) : List Int → De × List Int → List Int → Except Int (List Int)
  | [], x, acc => .ok acc
  | c :: r, x, acc => if gok bs x.1 (x.2.getD c.toNat 0) = true then unp bs r (rbit bs x c.toNat) (acc ++ [gbit x.1 (x.2.getD c.toNat 0)]) else .error 3
def unpR (bs cs : List Int) : Except Int (List Int) := if ctxB cs = true then if bs.length < 4 then .error 3 else unp bs cs (newD bs, List.replicate 100 2048) [] else .error 1
theorem pk_cov {bits cs B : List Int} (hB : Bytes B) (hl : bits.length = cs.length) (hc : ctxB cs = true) (cov : Cov (pkS bits cs bits.length).1 B) : ∀ k, k ≤ bits.length → Cov (pkS bits cs (bits.length - k)).1 B
  | 0, _ => cov
  | k + 1, hk => by
    have c' := pk_cov hB hl hc cov k (by omega)
    obtain ⟨g, s, _, wd⟩ := pkS_ok (bits := bits) hc (bits.length - (k + 1)) (by omega)
    obtain ⟨y1, y2⟩ := ctx_at hc (i := bits.length - (k + 1)) (by omega)
    rw [show bits.length - k = (bits.length - (k + 1)) + 1 by omega] at c'
    exact cov_back g (s.at (k := (cs.getD (bits.length - (k + 1)) 0).toNat) (by omega)) wd hB c'
theorem unp_fwd {bits cs B : List Int} (hB : Bytes B) (hl : bits.length = cs.length) (hb : bitsB bits = true) (hc : ctxB cs = true) (cov : Cov (pkS bits cs bits.length).1 B) :
    ∀ k, k ≤ bits.length → ∀ z : De × List Int, Dec (pkS bits cs (bits.length - k)).1 z.1 B → z.2 = (pkS bits cs (bits.length - k)).2 → unp B (cs.drop (bits.length - k)) z (bits.take (bits.length - k)) = .ok bits
  | 0, _, z, hd, he => by
    rw [Nat.sub_zero, List.drop_of_length_le (by omega), List.take_of_length_le (Nat.le_refl _)]
    rfl
  | k + 1, hk, z, hd, he => by
    have cv := pk_cov hB hl hc cov k (by omega)
    have ih := unp_fwd hB hl hb hc cov k (by omega)
    rw [show bits.length - k = (bits.length - (k + 1)) + 1 by omega] at cv ih
    have hj : bits.length - (k + 1) < bits.length := by omega
    generalize bits.length - (k + 1) = j at cv ih hd he hj
    obtain ⟨g, s, _, wd⟩ := pkS_ok (bits := bits) hc j (by omega)
    obtain ⟨y1, y2⟩ := ctx_at hc (i := j) (by omega)
    have hst := s.at (k := (cs.getD j 0).toNat) (by omega)
    obtain ⟨k1, k2, k3⟩ := dec_step g hst wd (bits_at hb hj) hB cv hd
    rw [drop_at (by omega), unp]
    rw [he, if_pos k1, k2]
    have htk : bits.take j ++ [bits.getD j 0] = bits.take (j + 1) := by
      rw [List.take_add_one, List.getD_eq_getElem?_getD, List.getElem?_eq_getElem hj]; rfl
    rw [htk]
    refine ih _ ?_ ?_
    · show Dec (put (pkS bits cs j).1 ((pkS bits cs j).2.getD (cs.getD j 0).toNat 0) (bits.getD j 0)) (gst B z.1 (z.2.getD (cs.getD j 0).toNat 0)) B
      rw [he]; exact k3
    · show z.2.set _ _ = (pkS bits cs j).2.set _ _
      rw [he, k2]
theorem unp_back {bits cs : List Int} (hl : bits.length = cs.length) (hb : bitsB bits = true) (hc : ctxB cs = true) : unpR (closed (pkS bits cs bits.length).1) cs = .ok bits := by
  obtain ⟨g, s, _, wd⟩ := pkS_ok (bits := bits) hc bits.length (by omega)
  have hB : Bytes (closed (pkS bits cs bits.length).1) := by
    have hl := g.low
    intro x hx
    unfold closed at hx
    rcases List.mem_append.1 hx with hx | hx
    · exact g.out x hx
    · simp only [List.mem_cons, List.not_mem_nil, or_false] at hx
      rcases hx with rfl | rfl | rfl | rfl <;> omega
  have h4 : 4 ≤ (closed (pkS bits cs bits.length).1).length := by simp [closed]
  have cov := cov_end g []
  rw [List.append_nil] at cov
  unfold unpR
  rw [if_pos hc, if_neg (by omega)]
  have := unp_fwd hB hl hb hc cov bits.length (Nat.le_refl _) (newD (closed (pkS bits cs bits.length).1), List.replicate 100 2048) (by rw [Nat.sub_self]; exact dec_start h4) (by rw [Nat.sub_self]; rfl)
  rw [Nat.sub_self, List.drop_zero, List.take_zero] at this
  exact this
/-- What unpacking leaves. -/
def UPost (h : Hp) (bs cs : List Int) (v : Value) (h' : Hp) : Prop :=
  (∀ e, unpR bs cs = .error e → v = .tuple #[.slice none 0 0, .int .i64 e]) ∧ (∀ l, unpR bs cs = .ok l → ∃ os cap, v = .tuple #[.slice os l.length cap, .int .i64 0] ∧ Ow h' 1 os l.length cap (l.map (Value.int .i64)) ∧ Nw h os) ∧ Fm No h h'
theorem UPost.err {h h' : Hp} {bs cs : List Int} {e : Int} (he : unpR bs cs = .error e) (fm : Fm No h h') : UPost h bs cs (.tuple #[.slice none 0 0, .int .i64 e]) h' :=
  ⟨fun e' q => (by rw [he] at q; cases q; rfl), fun l q => (by rw [he] at q; cases q), fm⟩
/-- The decoder, its states and the bits so far. -/
structure UAt (O : De → Ob) (h0 h : Hp) (d : Nat) (os ob : Option Addr) (cap cb : Nat) (z : De × List Int) (acc : List Int) : Prop where
  wf : Wf h
  fm : Fm No h0 h
  dec : h.get d = some (O z.1)
  st : Ow h 1 os 100 cap (z.2.map (Value.int .i64))
  ac : Ow h 1 ob acc.length cb (acc.map (Value.int .i64))
  d1 : ¬ At os d
  d2 : ¬ At ob d
  d3 : ∀ x, At os x → ¬ At ob x
  nd : h0.size ≤ d
  ns : Nw h0 os
  nb : Nw h0 ob
theorem UAt.stepD {O : De → Ob} {h0 h h' : Hp} {d cap cb : Nat} {os ob : Option Addr} {z : De × List Int} {acc : List Int} {s : De} (X : UAt O h0 h d os ob cap cb z acc) (w : Wf h') (hd : h'.get d = some (O s)) (fm : Fm (fun x => x = d) h h') : UAt O h0 h' d os ob cap cb (s, z.2) acc :=
  ⟨w, X.fm.trans fm fun y hy e => by have := X.nd; omega, hd, X.st.keep X.wf fm (fun y hy e => X.d1 (e ▸ hy)), X.ac.keep X.wf fm (fun y hy e => X.d2 (e ▸ hy)), X.d1, X.d2, X.d3, X.nd, X.ns, X.nb⟩
theorem UAt.cell {O : De → Ob} {h0 h : Hp} {d cap cb k : Nat} {os ob : Option Addr} {z : De × List Int} {acc : List Int} (X : UAt O h0 h d os ob cap cb z acc) (o : S100 z.2) (hk : k < 100) :
    ∃ bb sp oo, os = some ⟨bb, 0, sp⟩ ∧ flagOk sp = true ∧ h.get bb = some oo ∧ (oo.md = .ro) = False ∧ leIs (k + 1) oo.cs = true ∧ h.rd bb k = some (.int .i64 (z.2.getD k 0)) ∧
      ∀ u, UAt O h0 (h.put bb ⟨spl oo.cs k [.int .i64 u], oo.md⟩) d os ob cap cb (z.1, z.2.set k u) acc := by
  obtain ⟨bb, sp, oo, v, rfl, f1, hg, hmd, hle, hv, r1, hput⟩ := X.st.cell X.wf hk
  have hl := o.len
  have : v = .int .i64 (z.2.getD k 0) := by
    rw [List.getElem?_map, List.getElem?_eq_getElem (by omega)] at hv
    rw [List.getD_eq_getElem?_getD, List.getElem?_eq_getElem (by omega)]
    simpa using hv.symm
  subst this
  refine ⟨bb, sp, oo, rfl, f1, hg, hmd, hle, r1, fun u => ?_⟩
  obtain ⟨_, p2, p3, p4⟩ := hput (.int .i64 u)
  exact ⟨p3, X.fm.trans p4 fun y hy h => by have := X.ns y h; omega, p4.keep X.wf X.dec X.d1, by rw [List.map_set]; exact p2, X.ac.keep X.wf p4 (fun y hy h => X.d3 y h hy), X.d1, X.d2, X.d3, X.nd, X.ns, X.nb⟩
theorem UAt.push {O : De → Ob} {h0 h h' : Hp} {d cap cb cb' : Nat} {os ob ob' : Option Addr} {z : De × List Int} {acc : List Int} {x : Int} (X : UAt O h0 h d os ob cap cb z acc) (w : Wf h') (o : Ow h' 1 ob' (acc.length + 1) cb' (acc.map (Value.int .i64) ++ [.int .i64 x])) (fm : Fm (At ob) h h') (nx : ∀ y, At ob' y → At ob y ∨ h.size ≤ y) : UAt O h0 h' d os ob' cap cb' z (acc ++ [x]) := by
  have hs := X.fm.size
  have ls := X.st.lt X.wf
  have ld := X.wf.lt X.dec
  refine ⟨w, X.fm.trans fm fun y hy h => by have := X.nb y h; omega, fm.keep X.wf X.dec X.d2, X.st.keep X.wf fm X.d3, by rw [List.length_append, List.map_append]; exact o, X.d1, fun h => ?_, fun y hy h => ?_, X.nd, X.ns, fun y hy => ?_⟩
  · rcases nx _ h with h | h
    · exact X.d2 h
    · omega
  · rcases nx _ h with h | h
    · exact X.d3 y hy h
    · have := ls y hy; omega
  · rcases nx _ hy with h | h
    · exact X.nb y h
    · omega
end Go.Proofs.Ytholkooikmbamaa.Ar
