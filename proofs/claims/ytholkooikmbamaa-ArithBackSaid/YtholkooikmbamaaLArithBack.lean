/- The law ArithBack: what calls write is read back. The walk over the abstract machine.
   Conditions: none. -/
import Derived.Test.YtholkooikmbamaaArW
import Derived.Test.YtholkooikmbamaaArD
namespace Go.Proofs.Ytholkooikmbamaa.LArithBack
open Go Go.RowKit Go.Proofs.Ytholkooikmbamaa.Am Go.Proofs.Ytholkooikmbamaa.Af Go.Proofs.Ytholkooikmbamaa.Ar
set_option linter.unusedVariables false
set_option linter.unusedSimpArgs false
set_option maxRecDepth 20000

theorem numL_len {e : En} (g : Gd e) (l : List Int) (v : Int) : (numL e l v).length = if numI e l v = 0 then 32 else 0 := by
  unfold numL
  split
  · rename_i h
    obtain ⟨h1, h2, h3, h4⟩ := numI_0 h
    exact (numS_ok (s := (e, l)) g h1 (w := (v + 1).toNat) (by omega) (by omega)).2.1.len
  · rfl
theorem opL_le {e : En} (g : Gd e) (d : Int) (l : List Int) (v : Int) : (opL e d l v).length ≤ 32 := by
  unfold opL
  split
  · simp
  · split
    · rw [numL_len g]; split <;> omega
    · rw [numL_len g]; split <;> omega
theorem opL_ok {e : En} (g : Gd e) {d : Int} {l : List Int} {v : Int} (h : opI e d l v = 0) : 0 < (opL e d l v).length ∧ (d ≠ 0 → (opL e d l v).length = 32) := by
  unfold opI at h
  unfold opL
  split
  · exact ⟨Nat.one_pos, fun hd => absurd (by assumption) hd⟩
  · rename_i hd
    rw [if_neg hd] at h
    split
    · rename_i h1
      rw [if_pos h1] at h
      rw [numL_len g, if_pos h]
      exact ⟨by omega, fun _ => rfl⟩
    · rename_i h1
      rw [if_neg h1] at h
      rw [numL_len g, if_pos h]
      exact ⟨by omega, fun _ => rfl⟩
theorem opE_err {e : En} {d : Int} {l : List Int} {v : Int} (h : ¬ opI e d l v = 0) : opE e d l v = e := by
  unfold opI at h
  unfold opE
  split
  · rename_i hd
    rw [if_pos hd] at h
    unfold bitE
    unfold bitI at h
    split
    · rename_i hc
      rw [if_pos hc.1, if_pos hc.2.1, if_neg hc.2.2] at h
      exact absurd rfl h
    · rfl
  · rename_i hd
    rw [if_neg hd] at h
    split
    · rename_i h1
      rw [if_pos h1] at h
      exact if_neg h
    · rename_i h1
      rw [if_neg h1] at h
      exact if_neg h
theorem closed_by {e : En} (g : Gd e) : Bytes (closed e) := by
  have hl := g.low
  intro x hx
  unfold closed at hx
  rcases List.mem_append.1 hx with hx | hx
  · exact g.out x hx
  · simp only [List.mem_cons, List.not_mem_nil, or_false] at hx
    rcases hx with rfl | rfl | rfl | rfl <;> omega
/-- One decoder and the pool. -/
structure One (h0 h : Hp) (d p : Nat) (a ob on : Option Addr) (n c : Nat) (s : De) (bs : List Int) (ns : List (List Int)) : Prop where
  wf : Wf h
  fm : Fm No h0 h
  ha : h.get d = some (pO a n c s)
  hp : PoolAt h p ob on bs ns (fun y => y = d) 4
  nd : h0.size ≤ d
  np : ∀ y, PlF ob on y → h0.size ≤ y
theorem One.new {h0 h h' : Hp} {d p n c : Nat} {a ob on : Option Addr} {s : De} {bs : List Int} {ns : List (List Int)} (T : One h0 h d p a ob on n c s bs ns) (w : Wf h') (fm : Fm No h h') : One h0 h' d p a ob on n c s bs ns :=
  ⟨w, T.fm.trans fm fun _ _ => id, fm.keep T.wf T.ha id, T.hp.keep T.wf fm (fun _ _ h => h.elim) (fun _ => .inl), T.nd, T.np⟩
theorem One.stepA {h0 h h' : Hp} {d p n c : Nat} {a ob on : Option Addr} {s s' : De} {bs : List Int} {ns : List (List Int)} (T : One h0 h d p a ob on n c s bs ns) (w : Wf h') (hd : h'.get d = some (pO a n c s')) (fm : Fm (fun y => y = d) h h') : One h0 h' d p a ob on n c s' bs ns :=
  ⟨w, T.fm.trans fm fun y hy hF => by have := T.nd; omega, hd, T.hp.keep T.wf fm (fun _ _ h => h) (fun _ => .inl), T.nd, T.np⟩
theorem One.stepP {h0 h h' : Hp} {d p n c : Nat} {a ob on : Option Addr} {s : De} {bs bs' : List Int} {ns ns' : List (List Int)} (T : One h0 h d p a ob on n c s bs ns) (w : Wf h') (P : PoolAt h' p ob on bs' ns' (fun y => y = d) 4) (fm : Fm (PlF ob on) h h') : One h0 h' d p a ob on n c s bs' ns' := by
  have hd : ∀ y, PlF ob on y → ¬ y = d := fun y hy => hy.elim (T.hp.bF y) (T.hp.nF y)
  exact ⟨w, T.fm.trans fm fun y hy hF => by have := T.np y hF; omega, fm.keep T.wf T.ha (fun h => hd _ h rfl), P, T.nd, T.np⟩
theorem S_len {h : Hp} {p : Nat} {ob on : Option Addr} {bs : List Int} {ns : List (List Int)} {F : Nat → Prop} (P : PoolAt h p ob on bs ns F 4) (d ctx : Int) {l : List Int} (hs : 8 * l.length ≤ 140737488351232) : 8 * (poolL bs ns d ctx l).length ≤ 140737488351232 := by
  unfold poolL
  split
  · split
    · simp
    · rw [P.len (wit_lt ctx)]; omega
  · exact hs
theorem walk {h : Hp} (x0 : (List (Int × Int × Int × (List Int)))) (u0 : Value) (x1 : (List Int)) (u1 : Value) (A0 : (AKd.slice (AKd.pair (AKd.int .i64) (AKd.pair (AKd.int .i64) (AKd.pair (AKd.int .i64) (AKd.slice (AKd.int .i64)))))).A h x0 [u0]) (w0 : x0.length * Try.prog.bytesOf 41 ≤ 140737488351232 ∧ ∀ x ∈ x0, ((Lit.int .i64 x.1).wf = true) ∧ ((Lit.int .i64 x.2.1).wf = true) ∧ ((Lit.int .i64 x.2.2.1).wf = true) ∧ (x.2.2.2.length * Try.prog.bytesOf 3 ≤ 140737488351232 ∧ ∀ y ∈ x.2.2.2, (Lit.int .i64 y).wf = true)) (A1 : (AKd.slice (AKd.int .u8)).A h x1 [u1]) (w1 : x1.length * Try.prog.bytesOf 5 ≤ 140737488351232 ∧ ∀ x ∈ x1, (Lit.int .u8 x).wf = true) : ACalls Try.prog 9 [u0, u1] h fun v h' => v = .bool true := by
  obtain ⟨oq, cq, rfl, O⟩ := ops_open A0 w0.2
  obtain ⟨am, cm, rfl, rm⟩ := AKd.ints A1
  have hbm : Bytes x1 := fun x hx => (Lit.wf_int_iff .u8 x).1 (w1.2 x hx)
  refine dioramalaw13_ArithBack_ok.snd hm rfl fun w => ?_
  rw [WF_eq, dioramalaw13_ArithBack]
  by_cases h300 : 300 < x0.length
  · have : (300 : Int) < (x0.length : Nat) := by omega
    simp +contextual only [↓AM, ↓AV, AP, this]
  have h3 : ¬ (300 : Int) < (x0.length : Nat) := by omega
  by_cases h400 : 400 < x1.length
  · have : (400 : Int) < (x1.length : Nat) := by omega
    simp +contextual only [↓AM, ↓AV, AP, this, h3]
  have h4 : ¬ (400 : Int) < (x1.length : Nat) := by omega
  simp +contextual only [↓AM, ↓AV, AP, h3, h4]
  refine c_NewEncoder.use ?_
  rintro _ h1 w1' ⟨rfl, e1, fm1, lt1⟩
  simp +contextual only [↓AM, ↓AV, AP, isNilV, Option.isNone]
  refine c_newPool.use ?_
  rintro _ h3' w3 ⟨p, ob, on, rfl, P, fm3, np⟩
  have e1' := e1.keep w1' fm3 (fun _ _ => id)
  have F1 : ∀ y, Ft h.size none y → y = h.size := fun y hy => hy.elim id fun h => absurd h At.none
  have s1 := fm1.size
  have s3 := fm3.size
  have T0 : Bk h h3' p ob on none none 0 0 (Ft h.size none) (run []).bs (run []).ns [] [] := by
    refine ⟨w3, fm1.trans fm3 fun _ _ => id, ?_, ⟨[], Ow.mk0, rfl, fun j x hx => by simp at hx⟩, ⟨[], Ow.mk0, rfl, fun k v l hv => by simp at hv⟩, fun y hy => absurd hy At.none, fun y hy => absurd hy At.none, fun y hy => absurd hy At.none, fun y hy => ?_, fun y hy => ?_, fun y hy => absurd hy At.none, fun y hy => absurd hy At.none, fun y hy => ?_⟩
    · refine P.keep w3 (Fm.refl : Fm No h3' h3') (fun _ _ h => h.elim) fun y hy => ?_
      rcases hy with hy | hy | hy
      · have := F1 y hy; exact .inl (by show y < h1.size; omega)
      · exact absurd hy At.none
      · exact absurd hy At.none
    · have := F1 y hy; omega
    · have := F1 y hy; omega
    · have := np y hy; omega
  generalize hbb : h.size = b at T0 e1'
  clear e1 F1 fm1 fm3 lt1 np P w1' w3 s1 s3
  simp +contextual only [↓AM, ↓AV, AP]
  refine WL.mk (fun m t h' => ∃ i : Nat, i ≤ x0.length ∧ m = x0.length - i ∧ ∃ ops behs oa od oh cd ch, Bk h h' p ob on od oh cd ch (Ft b oa) (run ops).bs (run ops).ns ops behs ∧ EncAt .u64 h' b oa (run ops).e ∧ GoodH ops ∧ BehOk ops behs ∧ (run ops).e.n ≤ 42 * i ∧ ops.length ≤ i ∧
    t = [(0, some (.slice oq x0.length cq)), (1, some (.slice am x1.length cm)), (5, some (.pointer (some ⟨b, 0, none⟩))), (6, some (.slice od ops.length cd)), (7, some (.slice oh behs.length ch)), (8, some (.pointer (some ⟨p, 0, none⟩))), (9, some (.int .i64 i))])
    ⟨_, 0, Nat.zero_le _, rfl, [], [], _, _, _, _, _, T0, e1', good_nil, ⟨rfl, fun j x hx => by simp at hx⟩, by decide, Nat.le_refl _, rfl⟩ ?_
  clear T0 e1'
  rintro m t k1 ⟨i, hi, rfl, ops, behs, oa, od, oh, cd, ch, T, he, gh, bo, hn, hol, rfl⟩
  obtain ⟨g, wd⟩ := run_gd ops ops.length
  rw [List.take_of_length_le (Nat.le_refl _)] at g wd
  have gf : Fit (run ops).e := ⟨g, by omega⟩
  by_cases hlt : i < x0.length
  case neg =>
    simp +contextual only [↓AM, ↓AV, AP, hlt]
    refine (c_Close he gf).use ?_
    rintro _ h1 w1 ⟨o1, n1, q1, rfl, p1, nw1, z1⟩
    have T1 := T.new w1 z1
    simp +contextual only [↓AM, ↓AV, AP]
    have hcl := p1.rd.ilen
    have hcl2 : (closed (run ops).e).length ≤ 100000004 := by
      have := gf.short
      unfold closed
      simp
      omega
    refine (c_CopyBytes p1.rd (by omega)).use ?_
    rintro _ h2 w2 ⟨o2, q2, rfl, p2, nw2, z2⟩
    have T2 := T1.new w2 z2
    have rm2 := (rm.keep w T2.fm (fun _ _ => id)).src (c := cm)
    simp +contextual only [↓AM, ↓AV, AP, rm2]
    refine p2.add w2 (by simp) (by omega) fun oB cB h3 o3 w3 f3 n3 => ?_
    obtain ⟨fm13, nwB⟩ := grown z2 nw2 f3 n3
    have T3 := T1.new w3 fm13
    have hB : Bytes (closed (run ops).e ++ x1) := fun y hy => (List.mem_append.1 hy).elim (closed_by g y) (hbm y)
    have hBl : (closed (run ops).e ++ x1).length = n1 + x1.length := by rw [List.length_append, hcl]
    have cov := cov_end g x1
    have hcl4 : (run ops).e.out.length + 4 = n1 := by rw [← hcl]; simp [closed]
    have hpe : Dec (run ops).e (newD []) (closed (run ops).e ++ x1) → True := fun _ => trivial
    rw [← List.map_append] at o3
    generalize closed (run ops).e ++ x1 = B at o3 hB hBl cov
    have rB := o3.rd
    have hle3 := o3.le
    have h4 : 4 ≤ n1 := by omega
    simp +contextual only [↓AM, ↓AV, AP]
    refine (c_NewDecoder rB hB (by omega) hle3).use ?_
    rintro v4 h4' w4 ⟨_, q4, fm4⟩
    obtain ⟨rfl, hd4⟩ := q4 (by omega)
    simp +contextual only [↓AM, ↓AV, AP, isNilV, Option.isNone]
    refine c_newPool.use ?_
    rintro _ h5 w5 ⟨p2', ob2, on2, rfl, P, fm5, np2⟩
    have s4 := fm4.size
    have l4 := w4.lt hd4
    have T5 : One h3 h5 h3.size p2' oB ob2 on2 (n1 + x1.length) cB (newD B) (run (ops.take 0)).bs (run (ops.take 0)).ns :=
      ⟨w5, fm4.trans fm5 fun _ _ => id, fm5.keep w4 hd4 id, P.keep w5 (Fm.refl : Fm No h5 h5) (fun _ _ h => h.elim) (fun y (hy : y = h3.size) => .inl (by show y < h4'.size; omega)), Nat.le_refl _, fun y hy => Nat.le_trans s4 (np2 y hy)⟩
    have D5 : Dec (run (ops.take 0)).e (newD B) B := dec_start (by omega)
    have G5 : DGd (newD B) B.length := newD_gd hB (by omega)
    obtain ⟨cells, c1, c2⟩ := T3.dn
    obtain ⟨vs, c3, c4⟩ := T3.bh
    have OD := c2.ops c1.rd (Fm.ex T3.fm w)
    have RH := c3.rd
    have hdB : ¬ At oB h3.size := fun hx => Nat.lt_irrefl _ (o3.lt w3 _ hx)
    generalize hde : h3.size = d at T5 hdB
    clear fm4 fm5 P np2 s4 l4 hd4 w4 w5 q4 f3 n3 T1 T2 rm2
    simp +contextual only [↓AM, ↓AV, AP]
    generalize newD B = s at T5 D5 G5
    refine WL.mk (fun m t h' => ∃ j : Nat, j ≤ ops.length ∧ m = ops.length - j ∧ ∃ s, One h3 h' d p2' oB ob2 on2 (n1 + x1.length) cB s (run (ops.take j)).bs (run (ops.take j)).ns ∧ Dec (run (ops.take j)).e s B ∧ DGd s B.length ∧
      t = [(6, some (.slice od ops.length cd)), (7, some (.slice oh behs.length ch)), (8, some (.pointer (some ⟨p2', 0, none⟩))), (16, some (.int .i64 n1)), (17, some (.pointer (some ⟨d, 0, none⟩))), (19, some (.int .i64 j))])
      ⟨_, 0, Nat.zero_le _, rfl, s, T5, D5, G5, rfl⟩ ?_
    clear T5 D5 G5
    rintro m t k ⟨j, hj, rfl, s, V, D, G, rfl⟩
    by_cases hjl : j < ops.length
    case neg =>
      have : j = ops.length := by omega
      subst this
      simp +contextual only [↓AM, ↓AV, AP, hjl]
      refine (c_Read V.ha).use ?_
      rintro _ k wk ⟨rfl, rfl⟩
      have hpos := D.pos
      rw [List.take_of_length_le (Nat.le_refl _), hcl4] at hpos
      rw [hpos]
      simp +contextual only [↓AM, ↓AV, AP, eqI_self]
      refine c_awake.use ?_
      rintro _ h5 w5 ⟨rfl, rfl⟩
      simp +contextual only [↓AM, ↓AV, AP]
    obtain ⟨x, hx⟩ : ∃ x, ops[j]? = some x := ⟨_, List.getElem?_eq_getElem hjl⟩
    obtain ⟨bq, off, sp, sa, sc, rfl, f1, r0, rs0, hs, hv⟩ := OD j x hx
    obtain ⟨s', hF, D'⟩ := run_dec hB gh cov hx D
    have hbe := bo.2 j x hx
    obtain ⟨dd, ctx, v, l⟩ := x
    simp only at r0 rs0 hs hv hF
    have r1 := (Fm.ex V.fm w3).rdN r0
    have rs := rs0.ex (Fm.ex V.fm w3)
    simp +contextual only [↓AM, ↓AV, AP, hjl, f1, r1]
    refine (c_states V.hp rs hs).use ?_
    rintro _ k2 w2' ⟨a, c, rfl, owa, nwa, fm2⟩
    have V2 := V.new w2' fm2
    have r2 := (Fm.ex V2.fm w3).rdN r0
    have hpos := V.hp.pos dd ctx l
    have hlen := S_len V.hp dd ctx hs
    have hS : poolL (run (ops.take j)).bs (run (ops.take j)).ns dd ctx l = (run (ops.take j)).S (dd, ctx, v, l) := rfl
    rw [hS] at owa hpos hlen ⊢
    simp +contextual only [↓AM, ↓AV, AP, hjl, f1, r2]
    have cr := c_read (ctx := ctx) (v := v) (sa := sa) (sn := l.length) (sc := sc) (lc := c) (dd := dd) V2.ha (rB.keep w3 V2.fm (fun _ _ => id)) hB (by omega) (by omega) hdB G owa.rd hlen hpos
    have G' := (readF_gd (l := (run (ops.take j)).S (dd, ctx, v, l)) (dd := dd) hB G)
    rw [hF] at cr G'
    obtain ⟨G1, G2, G3⟩ := G'
    obtain ⟨l1, l2⟩ := G3 rfl
    refine cr.use ?_
    rintro _ k3 w3' ⟨os, cs, rfl, hd3, ow3, nw3, fm3⟩
    have V3 := V2.stepA w3' hd3 fm3
    have r3 := (Fm.ex V3.fm w3).rdN r0
    have r3v : k3.rd bq (off + j * 4 + 2) = some (.int .i64 v) := rdN_get r3 (i := 2) rfl
    have hjb : j < behs.length := by rw [bo.1]; exact hjl
    obtain ⟨bh, offh, sph, vh, rfl, fh, hvh, rvh⟩ := RH.one hjb
    obtain ⟨ah, chh, rfl, rah, _, _⟩ := c4.2 j vh _ hvh hbe
    have rvh3 : k3.rd bh (offh + j) = some (.slice ah ((run (ops.take j)).L (dd, ctx, v, l)).length chh) := by
      have q := RH.keep w3 V3.fm (fun _ _ => id)
      obtain ⟨b', o', s'', v', e1, _, e2, e3⟩ := q.one hjb
      cases e1
      rw [hvh] at e2
      cases e2
      exact e3
    have rah3 := rah.keep w3 V3.fm (fun _ _ => id)
    simp +contextual only [↓AM, ↓AV, AP, eqI_self, hjl, hjb, f1, fh, r3v, rvh3]
    refine (c_EqInts ow3.rd rah3 (by omega)).use ?_
    rintro _ k3 w3'' ⟨rfl, rfl⟩
    simp +contextual only [↓AM, ↓AV, AP, hjl, f1, r3]
    refine (c_CopyInts ow3.rd (by omega)).use ?_
    rintro _ k5 w5 ⟨a5, c5, rfl, ow5, nw5, fm5⟩
    have V5 := V3.new w5 fm5
    have r5 := (Fm.ex V5.fm w3).rdN r0
    simp +contextual only [↓AM, ↓AV, AP, r5]
    refine ⟨⟨_, rfl, rfl⟩, (c_keep V5.hp (wit_lt ctx) ow5.rd l1 l2 ?_).use ?_⟩
    · intro y hy
      have h1 := ow5.lt w5 y hy
      have h2 := nw5 y hy
      obtain ⟨h3, h4⟩ := PoolAt.lt V3.hp w3'
      have := w3'.lt hd3
      exact ⟨h1, fun hF => by omega, by omega, fun hP => by have := h4 y hP; omega⟩
    rintro r k6 w6 ⟨P6, fm6⟩
    have V6 : One h3 k6 d p2' oB ob2 on2 (n1 + x1.length) cB s' (run (ops.take (j + 1))).bs (run (ops.take (j + 1))).ns := by
      have q := V5.stepP w6 P6 fm6
      rw [run_take hx]
      exact q
    simp +contextual only [↓AM, ↓AV, AP]
    refine ⟨_, by omega, j + 1, hjl, rfl, s', V6, D', G1, ?_⟩
    rw [i64 (by omega)]; rfl
  obtain ⟨x, hx⟩ : ∃ x, x0[i]? = some x := ⟨_, List.getElem?_eq_getElem hlt⟩
  obtain ⟨bq, off, sp, sa, sc, rfl, f1, r0, rs0, hs, hv⟩ := O i x hx
  obtain ⟨d, ctx, v, l⟩ := x
  simp only at r0 rs0 hs hv
  have r1 := (Fm.ex T.fm w).rdN r0
  have rs := rs0.ex (Fm.ex T.fm w)
  simp +contextual only [↓AM, ↓AV, AP, hlt, f1, r1]
  refine (c_states T.hp rs hs).use ?_
  rintro _ k2 w2 ⟨a, c, rfl, owa, nwa, fm2⟩
  have T2 := T.new w2 fm2
  have r2 := (Fm.ex T2.fm w).rdN r0
  have he2 := he.keep T.wf fm2 (fun _ _ => id)
  have hpos := T.hp.pos d ctx l
  have hlen := S_len T.hp d ctx hs
  have hS : poolL (run ops).bs (run ops).ns d ctx l = (run ops).S (d, ctx, v, l) := rfl
  rw [hS] at owa hpos hlen ⊢
  simp +contextual only [↓AM, ↓AV, AP, hlt, f1, r2]
  refine (c_write he2 gf owa.rd (fun y hy hF => by have := nwa y hy; have := he.lt T.wf y hF; omega) hlen hpos hv).use ?_
  rintro _ k4 w4 ⟨oa', os, cs, rfl, ea, ows, nws, ds, fm4, nx4⟩
  have T4 := T2.stepA w4 fm4 (fun y (hy : Ft b oa' y) => ⟨hy.elim (fun h => .inl (.inl h)) (fun h => (nx4 y h).imp .inr id), ea.lt w4 y hy⟩)
  have r4 := (Fm.ex T4.fm w).rdN r0
  have hI : opI (run ops).e d ((run ops).S (d, ctx, v, l)) v = (run ops).I (d, ctx, v, l) := rfl
  have hL : opL (run ops).e d ((run ops).S (d, ctx, v, l)) v = (run ops).L (d, ctx, v, l) := rfl
  have hE : opE (run ops).e d ((run ops).S (d, ctx, v, l)) v = ((run ops).stp (d, ctx, v, l)).e := rfl
  have hn2 := (opE_gd g d ((run ops).S (d, ctx, v, l)) v).2
  have hle := opL_le g d ((run ops).S (d, ctx, v, l)) v
  have hLok := opL_ok g (d := d) (l := (run ops).S (d, ctx, v, l)) (v := v)
  rw [hI] at hLok ⊢
  rw [hL] at ows hle hLok ⊢
  rw [hE] at ea hn2
  have ei : IntKind.i64.wrap ((i : Int) + 1) = ((i + 1 : Nat) : Int) := by rw [i64 (by omega)]; rfl
  by_cases h0 : (run ops).I (d, ctx, v, l) = 0
  case neg =>
    have e0 : EqI ((run ops).I (d, ctx, v, l)) 0 = False := eq_false h0
    have hEe : ((run ops).stp (d, ctx, v, l)).e = (run ops).e := opE_err h0
    rw [hEe] at ea
    simp +contextual only [↓AM, ↓AV, AP, e0, ei]
    exact ⟨_, by omega, i + 1, hlt, rfl, ops, behs, oa', od, oh, cd, ch, T4, ea, gh, bo, by omega, by omega, rfl⟩
  have e0 : EqI ((run ops).I (d, ctx, v, l)) 0 = True := eq_true h0
  obtain ⟨l1, l2⟩ := hLok h0
  have r4' : k4.rd bq (off + i * 4) = some (.int .i64 d) := rdN_get r4 (i := 0) rfl
  have main : ∀ b' : Bool, b' = false → True := fun _ _ => trivial
  have ht : (run ops).stp (d, ctx, v, l) = run (ops ++ [(d, ctx, v, l)]) := (run_snoc _ _).symm
  have hbo := bo.snoc (d, ctx, v, l)
  have hgh := good_snoc gh h0
  have hn3 : (run (ops ++ [(d, ctx, v, l)])).e.n ≤ 42 * ((i + 1 : Nat) : Int) := by rw [← ht]; omega
  have hPs : ∀ (X : List Int × List (List Int)), X = X := fun _ => rfl
  have hbs : (if decide (l = []) = true ∧ d = 0 then (run ops).bs.set (wit ctx) (((run ops).L (d, ctx, v, l)).getD 0 0) else (run ops).bs) = (run (ops ++ [(d, ctx, v, l)])).bs := by rw [← ht]; rfl
  have hns : (if decide (l = []) = true ∧ ¬ d = 0 then (run ops).ns.set (wit ctx) ((run ops).L (d, ctx, v, l)) else (run ops).ns) = (run (ops ++ [(d, ctx, v, l)])).ns := by rw [← ht]; rfl
  rw [ht] at ea
  generalize (run ops).L (d, ctx, v, l) = L at ows hle l1 l2 hbo hbs hns
  have r4n := r4
  by_cases hd0 : d = 0
  case' pos =>
    have ed : EqI d 0 = True := eq_true hd0
    simp +contextual only [↓AM, ↓AV, AP, e0, hlt, f1, r4, r4', ed]
  case' neg =>
    have ed : EqI d 0 = False := eq_false hd0
    have e32 : EqI (L.length : Int) 32 = True := by have := l2 hd0; simp [EqI]; omega
    simp +contextual only [↓AM, ↓AV, AP, e0, hlt, f1, r4, r4', ed, e32]
  all_goals
    refine (c_CopyInts ows.rd (by omega)).use ?_
    rintro _ k5 w5 ⟨a5, c5, rfl, ow5, nw5, fm5⟩
    have T5 := T4.new w5 fm5
    have ea5 := ea.keep w4 fm5 (fun _ _ => id)
    have ows5 := ows.keep w4 fm5 (fun _ _ => id)
    have r5 := (Fm.ex T5.fm w).rdN r0
    simp +contextual only [↓AM, ↓AV, AP, r5]
    refine ⟨⟨_, rfl, rfl⟩, (c_keep T5.hp (wit_lt ctx) ow5.rd l1 l2 ?_).use ?_⟩
    · intro y hy
      have h1 := ow5.lt w5 y hy
      have h2 := nw5 y hy
      obtain ⟨h3, h4⟩ := PoolAt.lt T4.hp w4
      obtain ⟨cells, q1, q2⟩ := T4.dn
      obtain ⟨vs, q3, q4⟩ := T4.bh
      refine ⟨h1, fun hF => ?_, by omega, fun hP => by have := h4 y hP; omega⟩
      rcases hF with hF | hF | hF
      · have := T4.lA y hF; omega
      · have := q1.lt w4 y hF; omega
      · have := q3.lt w4 y hF; omega
    rintro r k6 w6 ⟨P6, fm6⟩
    rw [hbs, hns] at P6
    have T6 := T5.stepP w6 P6 fm6
    have hPd : ∀ y, PlF ob on y → ¬ (Ft b oa' y ∨ At od y ∨ At oh y) := fun y hy => hy.elim (T5.hp.bF y) (T5.hp.nF y)
    have ea6 := ea5.keep w5 fm6 (fun y hy h => hPd y h (.inl hy))
    have hos : ∀ y, At os y → y < k4.size ∧ k2.size ≤ y := fun y hy => ⟨ows.lt w4 y hy, nws y hy⟩
    have ows6 := ows5.keep w5 fm6 (fun y hy h => by have := (PoolAt.lt T2.hp w2).2 y h; have := nws y hy; omega)
    have r6 := (Fm.ex T6.fm w).rdN r0
    obtain ⟨cells, q1, q2⟩ := T6.dn
    have od2 : ∀ y, At od y → y < k2.size := by
      obtain ⟨cells', z1, z2⟩ := T2.dn
      exact z1.lt w2
    have oh2 : ∀ y, At oh y → y < k2.size := by
      obtain ⟨vs', z1, z2⟩ := T2.bh
      exact z1.lt w2
    have pl2 := (PoolAt.lt T2.hp w2).2
    have s46 : k4.size ≤ k6.size := Nat.le_trans fm5.size fm6.size
    simp +contextual only [↓AM, ↓AV, AP, hlt, f1, r6, src_new]
    refine q1.push (m := 1) w6 rfl (by omega) fun od' cd' k7 o7 w7 fm7 nx7 => ?_
    have T7 := T6.stepD (x := (d, ctx, v, l)) q2 ⟨sa, sc, rfl, rs0, hs, hv⟩ w7 o7 fm7 nx7
    have ea7 := ea6.keep w6 fm7 (fun y hy h => T6.d1 y h hy)
    have ows7 := ows6.keep w6 fm7 (fun y hy h => by have := od2 y h; have := (hos y hy).2; omega)
    obtain ⟨vs, q3, q4⟩ := T7.bh
    have hos7 : ∀ y, At os y → y < k7.size ∧ ¬ (Ft b oa' y ∨ At od' y ∨ At oh y ∨ PlF ob on y) := by
      intro y hy
      obtain ⟨z1, z2⟩ := hos y hy
      have s67 := fm7.size
      refine ⟨by omega, ?_⟩
      rintro (hq | hq | hq | hq)
      · exact ds y hy hq
      · rcases nx7 y hq with hq | hq
        · have := od2 y hq; omega
        · omega
      · have := oh2 y hq; omega
      · have := pl2 y hq; omega
    have hbl := bo.1
    simp +contextual only [↓AM, ↓AV, AP, src_new]
    refine q3.push (m := 1) w7 rfl (by omega) fun oh' ch' k8 o8 w8 fm8 nx8 => ?_
    have T8 := T7.stepH q4 ows7.rd hos7 hle w8 o8 fm8 nx8
    have ea8 := ea7.keep w7 fm8 (fun y hy h => T7.d2 y h hy)
    try simp +contextual only [↓AM, ↓AV, AP, ei]
    refine ⟨_, by omega, i + 1, hlt, rfl, _, _, oa', od', oh', cd', ch', T8, ea8, hgh, hbo, hn3, by simp; omega, ?_⟩
    simp only [List.length_append, List.length_singleton]
end Go.Proofs.Ytholkooikmbamaa.LArithBack
