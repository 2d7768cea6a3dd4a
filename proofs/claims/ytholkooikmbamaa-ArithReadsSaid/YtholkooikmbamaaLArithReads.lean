/- The law ArithReads: any calls of a decoder of any bytes. The walk over the abstract machine.
   Conditions: none. -/
import Derived.Test.YtholkooikmbamaaArT
import Derived.Test.YtholkooikmbamaaArM
namespace Go.Proofs.Ytholkooikmbamaa.LArithReads
open Go Go.RowKit Go.Proofs.Ytholkooikmbamaa.Am Go.Proofs.Ytholkooikmbamaa.Af Go.Proofs.Ytholkooikmbamaa.Ar
set_option linter.unusedVariables false
set_option linter.unusedSimpArgs false
set_option maxRecDepth 20000

theorem b_tt : (true != true) = false := rfl
theorem b_ff : (false != false) = false := rfl
/-- The two decoders and the pool. -/
structure Two (h0 h : Hp) (d x p : Nat) (a ob on : Option Addr) (n c : Nat) (s sx : De) (bs : List Int) (ns : List (List Int)) : Prop where
  wf : Wf h
  fm : Fm No h0 h
  ha : h.get d = some (pO a n c s)
  hx : h.get x = some (rO a n c sx)
  hp : PoolAt h p ob on bs ns (fun y => y = d ∨ y = x) 4
  hd : d ≠ x
  nd : h0.size ≤ d
  nx : h0.size ≤ x
  np : ∀ y, PlF ob on y → h0.size ≤ y
theorem Two.new {h0 h h' : Hp} {d x p n c : Nat} {a ob on : Option Addr} {s sx : De} {bs : List Int} {ns : List (List Int)} (T : Two h0 h d x p a ob on n c s sx bs ns) (w : Wf h') (fm : Fm No h h') : Two h0 h' d x p a ob on n c s sx bs ns :=
  ⟨w, T.fm.trans fm fun _ _ => id, fm.keep T.wf T.ha id, fm.keep T.wf T.hx id, T.hp.keep T.wf fm (fun _ _ h => h.elim) (fun _ => .inl), T.hd, T.nd, T.nx, T.np⟩
theorem Two.stepA {h0 h h' : Hp} {d x p n c : Nat} {a ob on : Option Addr} {s sx s' : De} {bs : List Int} {ns : List (List Int)} (T : Two h0 h d x p a ob on n c s sx bs ns) (w : Wf h') (hd : h'.get d = some (pO a n c s')) (fm : Fm (fun y => y = d) h h') : Two h0 h' d x p a ob on n c s' sx bs ns :=
  ⟨w, T.fm.trans fm fun y hy hF => by have := T.nd; omega, hd, fm.keep T.wf T.hx (fun e => T.hd e.symm), T.hp.keep T.wf fm (fun _ _ h => .inl h) (fun _ => .inl), T.hd, T.nd, T.nx, T.np⟩
theorem Two.stepX {h0 h h' : Hp} {d x p n c : Nat} {a ob on : Option Addr} {s sx s' : De} {bs : List Int} {ns : List (List Int)} (T : Two h0 h d x p a ob on n c s sx bs ns) (w : Wf h') (hd : h'.get x = some (rO a n c s')) (fm : Fm (fun y => y = x) h h') : Two h0 h' d x p a ob on n c s s' bs ns :=
  ⟨w, T.fm.trans fm fun y hy hF => by have := T.nx; omega, fm.keep T.wf T.ha T.hd, hd, T.hp.keep T.wf fm (fun _ _ h => .inr h) (fun _ => .inl), T.hd, T.nd, T.nx, T.np⟩
theorem Two.stepP {h0 h h' : Hp} {d x p n c : Nat} {a ob on : Option Addr} {s sx : De} {bs bs' : List Int} {ns ns' : List (List Int)} (T : Two h0 h d x p a ob on n c s sx bs ns) (w : Wf h') (P : PoolAt h' p ob on bs' ns' (fun y => y = d ∨ y = x) 4) (fm : Fm (PlF ob on) h h') : Two h0 h' d x p a ob on n c s sx bs' ns' := by
  have hs := T.fm.size
  have hd : ∀ y, PlF ob on y → ¬ (y = d ∨ y = x) := fun y hy => hy.elim (T.hp.bF y) (T.hp.nF y)
  exact ⟨w, T.fm.trans fm fun y hy hF => by have := T.np y hF; omega, fm.keep T.wf T.ha (fun h => hd _ h (.inl rfl)), fm.keep T.wf T.hx (fun h => hd _ h (.inr rfl)), P, T.hd, T.nd, T.nx, T.np⟩
theorem walk {h : Hp} (x0 : (List Int)) (u0 : Value) (x1 : (List (Int × Int × Int × (List Int)))) (u1 : Value) (A0 : (AKd.slice (AKd.int .u8)).A h x0 [u0]) (w0 : x0.length * Try.prog.bytesOf 5 ≤ 140737488351232 ∧ ∀ x ∈ x0, (Lit.int .u8 x).wf = true) (A1 : (AKd.slice (AKd.pair (AKd.int .i64) (AKd.pair (AKd.int .i64) (AKd.pair (AKd.int .i64) (AKd.slice (AKd.int .i64)))))).A h x1 [u1]) (w1 : x1.length * Try.prog.bytesOf 41 ≤ 140737488351232 ∧ ∀ x ∈ x1, ((Lit.int .i64 x.1).wf = true) ∧ ((Lit.int .i64 x.2.1).wf = true) ∧ ((Lit.int .i64 x.2.2.1).wf = true) ∧ (x.2.2.2.length * Try.prog.bytesOf 3 ≤ 140737488351232 ∧ ∀ y ∈ x.2.2.2, (Lit.int .i64 y).wf = true)) : ACalls Try.prog 6 [u0, u1] h fun v h' => v = .bool true := by
  obtain ⟨oq, cq, rfl, O⟩ := ops_open A1 w1.2
  obtain ⟨ab, cb, rfl, rb, hcb⟩ := AKd.intsC A0
  have hb : Bytes x0 := fun x hx => (Lit.wf_int_iff .u8 x).1 (w0.2 x hx)
  refine dioramalaw13_ArithReads_ok.snd hm rfl fun w => ?_
  rw [WF_eq, dioramalaw13_ArithReads]
  by_cases h4000 : 4000 < x0.length
  · have : (4000 : Int) < (x0.length : Nat) := by omega
    simp +contextual only [↓AM, ↓AV, AP, this]
  have h4 : ¬ (4000 : Int) < (x0.length : Nat) := by omega
  by_cases h300 : 300 < x1.length
  · have : (300 : Int) < (x1.length : Nat) := by omega
    simp +contextual only [↓AM, ↓AV, AP, this, h4]
  have h3 : ¬ (300 : Int) < (x1.length : Nat) := by omega
  simp +contextual only [↓AM, ↓AV, AP, h3, h4]
  refine (c_NewDecoder rb hb (by omega) hcb).use ?_
  rintro v1 h1 w1' ⟨p1, p2, fm1⟩
  have rb1 := rb.keep w fm1 (fun _ _ => id)
  by_cases hlen : x0.length < 4
  · obtain rfl := p1 hlen
    simp +contextual only [↓AM, ↓AV, AP]
    refine (c_rNewDecoder rb1 hb (by omega)).use ?_
    rintro v2 h2 w2 ⟨q1, q2, fm2⟩
    obtain rfl := q1 hlen
    simp +contextual only [↓AM, ↓AV, AP, isNilV, Option.isNone, eqI_self, e3_0, b_tt]
    refine c_awake.use ?_
    rintro _ h5 w5 ⟨rfl, rfl⟩
    simp +contextual only [↓AM, ↓AV, AP]
  obtain ⟨rfl, hd1⟩ := p2 (by omega)
  simp +contextual only [↓AM, ↓AV, AP]
  refine (c_rNewDecoder rb1 hb (by omega)).use ?_
  rintro v2 h2 w2 ⟨q1, q2, fm2⟩
  obtain ⟨rfl, hd2⟩ := q2 (by omega)
  simp +contextual only [↓AM, ↓AV, AP, isNilV, Option.isNone, eqI_self, b_ff]
  refine c_newPool.use ?_
  rintro _ h3 w3 ⟨p, ob, on, rfl, P, fm3, np⟩
  have s1 := fm1.size
  have s2 := fm2.size
  have l1 := w1'.lt hd1
  have l2 := w2.lt hd2
  have T0 : Two h h3 h.size h1.size p ab ob on x0.length cb (newD x0) (newD x0) (List.replicate 4 2048) (List.replicate 4 (List.replicate 32 2048)) := by
    refine ⟨w3, (fm1.trans fm2 fun _ _ => id).trans fm3 fun _ _ => id, fm3.keep w2 (fm2.keep w1' hd1 id) id, fm3.keep w2 hd2 id, ?_, by omega, Nat.le_refl _, s1, fun y hy => by have := np y hy; omega⟩
    refine P.keep w3 (Fm.refl : Fm No h3 h3) (fun _ _ h => h.elim) fun y hy => ?_
    rcases hy with rfl | rfl
    · exact .inl (by show h.size < h2.size; omega)
    · exact .inl (by show h1.size < h2.size; omega)
  have rb3 : ∀ k, Fm No h k → Rd k 1 ab x0.length (x0.map (Value.int .u8)) := fun k fm => rb.keep w fm (fun _ _ => id)
  have hal : ∀ y, At ab y → y < h.size := fun y hy => Rd.lt rb w (by omega) hy
  have g0 := newD_gd hb (by omega)
  generalize newD x0 = s0 at T0 g0
  have hdx : h.size ≤ h.size ∧ h.size ≤ h1.size := ⟨Nat.le_refl _, s1⟩
  generalize hde : h.size = d at T0 hdx
  generalize h1.size = dx at T0 hdx
  rw [hde] at hal
  clear hd1 hd2 fm1 fm2 fm3 l1 l2 np P w1' w2 w3 s1 s2 rb1 p1 p2 q1 q2
  simp +contextual only [↓AM, ↓AV, AP]
  refine WL.mk (fun m t h' => ∃ i : Nat, i ≤ x1.length ∧ m = x1.length - i ∧ ∃ s bs ns, Two h h' d dx p ab ob on x0.length cb s s bs ns ∧ DGd s x0.length ∧
    t = [(1, some (.slice oq x1.length cq)), (5, some (.pointer (some ⟨d, 0, none⟩))), (7, some (.pointer (some ⟨dx, 0, none⟩))), (9, some (.pointer (some ⟨p, 0, none⟩))), (10, some (.int .i64 i))])
    ⟨_, 0, Nat.zero_le _, rfl, _, _, _, T0, g0, rfl⟩ ?_
  clear T0 g0
  rintro m t k1 ⟨i, hi, rfl, s, bs, ns, T, g, rfl⟩
  by_cases hlt : i < x1.length
  case neg =>
    have hx1 := T.hx
    simp only [rO] at hx1
    simp +contextual only [↓AM, ↓AV, AP, hlt, rd_mk hx1]
    refine (c_Read T.ha).use ?_
    rintro _ k1 w1 ⟨rfl, rfl⟩
    simp +contextual only [↓AM, ↓AV, AP, rd_mk hx1, eqI_self]
    refine c_awake.use ?_
    rintro _ h5 w5 ⟨rfl, rfl⟩
    simp +contextual only [↓AM, ↓AV, AP]
  obtain ⟨x, hx⟩ : ∃ x, x1[i]? = some x := ⟨_, List.getElem?_eq_getElem hlt⟩
  obtain ⟨bq, off, sp, sa, sc, rfl, f1, r0, rs0, hs, hv⟩ := O i x hx
  obtain ⟨dd, ctx, v, l⟩ := x
  simp only at r0 rs0 hs hv
  have r1 := (Fm.ex T.fm w).rdN r0
  have rs := rs0.ex (Fm.ex T.fm w)
  have hda : ¬ At ab d := fun hx => Nat.lt_irrefl _ (hal _ hx)
  have hdxa : ¬ At ab dx := fun hx => by have := hal _ hx; omega
  simp +contextual only [↓AM, ↓AV, AP, hlt, f1, r1]
  refine (c_states T.hp rs hs).use ?_
  rintro _ k2 w2 ⟨a, c, rfl, owa, nwa, fm2⟩
  have T2 := T.new w2 fm2
  have r2 := (Fm.ex T2.fm w).rdN r0
  have hpos := T.hp.pos dd ctx l
  have hlen : 8 * (poolL bs ns dd ctx l).length ≤ 140737488351232 := by
    unfold poolL
    split
    · split
      · simp
      · rw [T.hp.len (wit_lt ctx)]; omega
    · rw [rs.ilen]; exact hs
  generalize poolL bs ns dd ctx l = S at owa hpos hlen
  have ld := T.wf.lt T.ha
  have lx := T.wf.lt T.hx
  simp +contextual only [↓AM, ↓AV, AP, hlt, f1, r2]
  refine (c_CopyInts owa.rd hlen).use ?_
  rintro _ k3 w3 ⟨a3, c3, rfl, ow3, nw3, fm3⟩
  have T3 := T2.new w3 fm3
  have r3 := (Fm.ex T3.fm w).rdN r0
  have owa := owa.keep w2 fm3 (fun _ _ => id)
  simp +contextual only [↓AM, ↓AV, AP, r3]
  refine ⟨⟨_, rfl, rfl⟩, (c_read T3.ha (rb3 _ T3.fm) hb (by omega) (by omega) hda g ow3.rd hlen hpos).use ?_⟩
  rintro _ k4 w4 ⟨os, cs, rfl, hd4, ow4, nw4, fm4⟩
  obtain ⟨g', l32, lok⟩ := readF_gd (l := S) (dd := dd) hb g
  have T4 := T3.stepA w4 hd4 fm4
  have r4 := (Fm.ex T4.fm w).rdN r0
  have nad : ∀ y, At a y → y ≠ d ∧ y ≠ dx := fun y hy => ⟨fun e => by have := nwa y hy; omega, fun e => by have := nwa y hy; omega⟩
  have owa := owa.keep w3 fm4 (fun y hy h => (nad y hy).1 h)
  simp +contextual only [↓AM, ↓AV, AP, hlt, f1, r4]
  refine (c_isRead T4.hx (rb3 _ T4.fm) hb (by omega) (by omega) hdxa g owa.rd hlen hpos).use ?_
  rintro _ k5 w5 ⟨os5, cs5, rfl, hd5, ow5, nw5, fm5⟩
  have T5 := T4.stepX w5 hd5 fm5
  have r5 := (Fm.ex T5.fm w).rdN r0
  have ow4 := ow4.keep w4 fm5 (fun y hy e => by have := nw4 y hy; have := T3.wf.lt T3.hx; omega)
  generalize readF x0 s dd S = f at T5 hd5 ow4 ow5 g' l32 lok
  simp +contextual only [↓AM, ↓AV, AP, eqI_self]
  refine (c_EqInts ow4.rd ow5.rd (by omega)).use ?_
  rintro _ k5 w5 ⟨rfl, rfl⟩
  have hx5 := T5.hx
  simp only [rO] at hx5
  simp +contextual only [↓AM, ↓AV, AP, eqI_self, rd_mk hx5]
  refine (c_Read T5.ha).use ?_
  rintro _ k5 w5 ⟨rfl, rfl⟩
  have e1 : IntKind.i64.wrap ((i : Int) + 1) = ((i + 1 : Nat) : Int) := by rw [i64 (by omega)]; rfl
  by_cases h0 : f.2.1 = 0
  · have e0 : EqI f.2.1 0 = True := eq_true h0
    obtain ⟨l1, l2⟩ := lok h0
    simp +contextual only [↓AM, ↓AV, AP, eqI_self, rd_mk hx5, e0, hlt, f1, r5]
    refine (c_keep T5.hp (wit_lt ctx) ow5.rd l1 l2 ?_).use ?_
    · intro y hy
      have h1 := ow5.lt w5 y hy
      have h2 := nw5 y hy
      obtain ⟨h3, h4⟩ := PoolAt.lt T4.hp w4
      have := T4.wf.lt T4.ha
      have := T4.wf.lt T4.hx
      exact ⟨h1, fun hF => by omega, by omega, fun hP => by have := h4 y hP; omega⟩
    · rintro r k6 w6 ⟨P6, fm6⟩
      simp +contextual only [↓AM, ↓AV, AP, e1]
      exact ⟨_, by omega, i + 1, hlt, rfl, _, _, _, T5.stepP w6 P6 fm6, g', rfl⟩
  · have e0 : EqI f.2.1 0 = False := eq_false h0
    simp +contextual only [↓AM, ↓AV, AP, eqI_self, rd_mk hx5, e0, e1]
    exact ⟨_, by omega, i + 1, hlt, rfl, _, _, _, T5, g', rfl⟩
end Go.Proofs.Ytholkooikmbamaa.LArithReads
