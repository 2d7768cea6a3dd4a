/- The law ArithWrites: any calls of an encoder. The walk over the abstract machine.
   Conditions: none. -/
import Derived.Test.YtholkooikmbamaaArK
import Derived.Test.YtholkooikmbamaaArM
namespace Go.Proofs.Ytholkooikmbamaa.LArithWrites
open Go Go.RowKit Go.Proofs.Ytholkooikmbamaa.Am Go.Proofs.Ytholkooikmbamaa.Af Go.Proofs.Ytholkooikmbamaa.Ar
set_option linter.unusedVariables false
set_option linter.unusedSimpArgs false
set_option maxRecDepth 20000

theorem opE_gd {e : En} (g : Gd e) (d : Int) (l : List Int) (v : Int) : Gd (opE e d l v) ∧ (opE e d l v).n ≤ e.n + 42 := by
  unfold opE
  split
  · exact ⟨bitE_gd g _ _, by have := (bitE_n e (l.getD 0 0) v).1; omega⟩
  · split
    · exact numE_gd g _ _
    · exact numE_gd g _ _
theorem numL_len {e : En} (g : Gd e) (l : List Int) (v : Int) : (numL e l v).length = if numI e l v = 0 then 32 else 0 := by
  unfold numL
  split
  · rename_i h
    obtain ⟨h1, h2, h3, h4⟩ := numI_0 h
    exact (numS_ok (s := (e, l)) g h1 (w := (v + 1).toNat) (by omega) (by omega)).2.1.len
  · rfl
theorem opL_le {e : En} (g : Gd e) (d : Int) (l : List Int) (v : Int) : (opL e d l v).length ≤ 32 := by
  unfold opL
  split
  · simp
  · split
    · rw [numL_len g]; split <;> omega
    · rw [numL_len g]; split <;> omega
theorem opL_ok {e : En} (g : Gd e) {d : Int} {l : List Int} {v : Int} (h : opI e d l v = 0) : 0 < (opL e d l v).length ∧ (d ≠ 0 → (opL e d l v).length = 32) := by
  unfold opI at h
  unfold opL
  split
  · exact ⟨Nat.one_pos, fun hd => absurd (by assumption) hd⟩
  · rename_i hd
    rw [if_neg hd] at h
    split
    · rename_i h1
      rw [if_pos h1] at h
      rw [numL_len g, if_pos h]
      exact ⟨by omega, fun _ => rfl⟩
    · rename_i h1
      rw [if_neg h1] at h
      rw [numL_len g, if_pos h]
      exact ⟨by omega, fun _ => rfl⟩
/-- The two encoders and the pool. -/
structure Two (h0 h : Hp) (b bx p : Nat) (oa ox ob on : Option Addr) (e ex : En) (bs : List Int) (ns : List (List Int)) : Prop where
  wf : Wf h
  fm : Fm No h0 h
  a : EncAt .u64 h b oa e
  x : EncAt .i64 h bx ox ex
  p : PoolAt h p ob on bs ns (fun y => Ft b oa y ∨ Ft bx ox y) 4
  d : ∀ y, Ft b oa y → ¬ Ft bx ox y
  na : ∀ y, Ft b oa y → h0.size ≤ y
  nx : ∀ y, Ft bx ox y → h0.size ≤ y
  np : ∀ y, PlF ob on y → h0.size ≤ y
theorem Two.new {h0 h h' : Hp} {b bx p : Nat} {oa ox ob on : Option Addr} {e ex : En} {bs : List Int} {ns : List (List Int)} (T : Two h0 h b bx p oa ox ob on e ex bs ns) (w : Wf h') (fm : Fm No h h') : Two h0 h' b bx p oa ox ob on e ex bs ns :=
  ⟨w, T.fm.trans fm fun _ _ => id, T.a.keep T.wf fm (fun _ _ => id), T.x.keep T.wf fm (fun _ _ => id), T.p.keep T.wf fm (fun _ _ h => h.elim) (fun _ => .inl), T.d, T.na, T.nx, T.np⟩
theorem Two.stepA {h0 h h' : Hp} {b bx p : Nat} {oa ox ob on oa' : Option Addr} {e ex e' : En} {bs : List Int} {ns : List (List Int)} (T : Two h0 h b bx p oa ox ob on e ex bs ns) (w : Wf h') (he : EncAt .u64 h' b oa' e') (fm : Fm (Ft b oa) h h') (nx : ∀ x, At oa' x → At oa x ∨ h.size ≤ x) : Two h0 h' b bx p oa' ox ob on e' ex bs ns := by
  have hf : ∀ y, Ft b oa' y → Ft b oa y ∨ h.size ≤ y := fun y hy => hy.elim (fun h => .inl (.inl h)) (fun h => (nx y h).imp .inr id)
  have hs := T.fm.size
  refine ⟨w, T.fm.trans fm fun y hy hF => by have := T.na y hF; omega, he, T.x.keep T.wf fm (fun y hy h => T.d y h hy), T.p.keep T.wf fm (fun y _ h => .inl h) (fun y hy => ?_), fun y hy hx => ?_, fun y hy => ?_, T.nx, T.np⟩
  · rcases hy with hy | hy
    · exact (hf y hy).imp .inl id
    · exact .inl (.inr hy)
  · rcases hf y hy with h | h
    · exact T.d y h hx
    · have := T.x.lt T.wf y hx; omega
  · rcases hf y hy with h | h
    · exact T.na y h
    · omega
theorem Two.stepX {h0 h h' : Hp} {b bx p : Nat} {oa ox ob on ox' : Option Addr} {e ex e' : En} {bs : List Int} {ns : List (List Int)} (T : Two h0 h b bx p oa ox ob on e ex bs ns) (w : Wf h') (he : EncAt .i64 h' bx ox' e') (fm : Fm (Ft bx ox) h h') (nx : ∀ x, At ox' x → At ox x ∨ h.size ≤ x) : Two h0 h' b bx p oa ox' ob on e e' bs ns := by
  have hf : ∀ y, Ft bx ox' y → Ft bx ox y ∨ h.size ≤ y := fun y hy => hy.elim (fun h => .inl (.inl h)) (fun h => (nx y h).imp .inr id)
  have hs := T.fm.size
  refine ⟨w, T.fm.trans fm fun y hy hF => by have := T.nx y hF; omega, T.a.keep T.wf fm (fun y hy h => T.d y hy h), he, T.p.keep T.wf fm (fun y _ h => .inr h) (fun y hy => ?_), fun y hy hx => ?_, T.na, fun y hy => ?_, T.np⟩
  · rcases hy with hy | hy
    · exact .inl (.inl hy)
    · exact (hf y hy).imp .inr id
  · rcases hf y hx with h | h
    · exact T.d y hy h
    · have := T.a.lt T.wf y hy; omega
  · rcases hf y hy with h | h
    · exact T.nx y h
    · omega
theorem Two.stepP {h0 h h' : Hp} {b bx p : Nat} {oa ox ob on : Option Addr} {e ex : En} {bs bs' : List Int} {ns ns' : List (List Int)} (T : Two h0 h b bx p oa ox ob on e ex bs ns) (w : Wf h') (P : PoolAt h' p ob on bs' ns' (fun y => Ft b oa y ∨ Ft bx ox y) 4) (fm : Fm (PlF ob on) h h') : Two h0 h' b bx p oa ox ob on e ex bs' ns' := by
  have hs := T.fm.size
  have hd : ∀ y, PlF ob on y → ¬ (Ft b oa y ∨ Ft bx ox y) := fun y hy => hy.elim (T.p.bF y) (T.p.nF y)
  exact ⟨w, T.fm.trans fm fun y hy hF => by have := T.np y hF; omega, T.a.keep T.wf fm (fun y hy h => hd y h (.inl hy)), T.x.keep T.wf fm (fun y hy h => hd y h (.inr hy)), P, T.d, T.na, T.nx, T.np⟩
theorem closed_len {e : En} (g : Fit e) : (closed e).length ≤ 100000004 := by
  have := g.short
  unfold closed
  simp
  omega
theorem walk {h : Hp} (x0 : (List (Int × Int × Int × (List Int)))) (u0 : Value) (A0 : (AKd.slice (AKd.pair (AKd.int .i64) (AKd.pair (AKd.int .i64) (AKd.pair (AKd.int .i64) (AKd.slice (AKd.int .i64)))))).A h x0 [u0]) (w0 : x0.length * Try.prog.bytesOf 41 ≤ 140737488351232 ∧ ∀ x ∈ x0, ((Lit.int .i64 x.1).wf = true) ∧ ((Lit.int .i64 x.2.1).wf = true) ∧ ((Lit.int .i64 x.2.2.1).wf = true) ∧ (x.2.2.2.length * Try.prog.bytesOf 3 ≤ 140737488351232 ∧ ∀ y ∈ x.2.2.2, (Lit.int .i64 y).wf = true)) : ACalls Try.prog 4 [u0] h fun v h' => v = .bool true := by
  obtain ⟨oq, cq, rfl, O⟩ := ops_open A0 w0.2
  refine dioramalaw13_ArithWrites_ok.snd hm rfl fun w => ?_
  rw [WF_eq, dioramalaw13_ArithWrites]
  by_cases h300 : 300 < x0.length
  · have : (300 : Int) < (x0.length : Nat) := by omega
    simp +contextual only [↓AM, ↓AV, AP, this]
  have : ¬ (300 : Int) < (x0.length : Nat) := by omega
  simp +contextual only [↓AM, ↓AV, AP, this]
  refine c_NewEncoder.use ?_
  rintro _ h1 w1 ⟨rfl, e1, fm1, lt1⟩
  simp +contextual only [↓AM, ↓AV, AP, isNilV, Option.isNone]
  refine c_rNewEncoder.use ?_
  rintro _ h2 w2 ⟨rfl, e2, fm2, lt2⟩
  simp +contextual only [↓AM, ↓AV, AP]
  refine c_newPool.use ?_
  rintro _ h3 w3 ⟨p, ob, on, rfl, P, fm3, np⟩
  have e1' := (e1.keep w1 fm2 (fun _ _ => id)).keep w2 fm3 (fun _ _ => id)
  have e2' := e2.keep w2 fm3 (fun _ _ => id)
  have F1 : ∀ y, Ft h.size none y → y = h.size := fun y hy => hy.elim id fun h => absurd h At.none
  have F2 : ∀ y, Ft h1.size none y → y = h1.size := fun y hy => hy.elim id fun h => absurd h At.none
  have s1 := fm1.size
  have s2 := fm2.size
  have T0 : Two h h3 h.size h1.size p none none ob on new new (List.replicate 4 2048) (List.replicate 4 (List.replicate 32 2048)) := by
    refine ⟨w3, (fm1.trans fm2 fun _ _ => id).trans fm3 fun _ _ => id, e1', e2', ?_, ?_, ?_, ?_, ?_⟩
    · refine P.keep w3 (Fm.refl : Fm No h3 h3) (fun _ _ h => h.elim) fun y hy => ?_
      rcases hy with hy | hy
      · have := F1 y hy; exact .inl (by show y < h2.size; omega)
      · have := F2 y hy; exact .inl (by show y < h2.size; omega)
    · intro y h1 h2
      have := F1 y h1
      have := F2 y h2
      omega
    · intro y hy; have := F1 y hy; omega
    · intro y hy; have := F2 y hy; omega
    · intro y hy; have := np y hy; omega
  generalize hbb : h.size = b at T0
  generalize h1.size = bx at T0
  clear e1 e2 e1' e2' F1 F2 fm1 fm2 fm3 lt1 lt2 np P w1 w2 w3 s1 s2
  simp +contextual only [↓AM, ↓AV, AP]
  refine WL.mk (fun m t h' => ∃ i : Nat, i ≤ x0.length ∧ m = x0.length - i ∧ ∃ e bs ns oa ox, Two h h' b bx p oa ox ob on e e bs ns ∧ Gd e ∧ e.n ≤ 42 * i ∧
    t = [(0, some (.slice oq x0.length cq)), (3, some (.pointer (some ⟨b, 0, none⟩))), (4, some (.pointer (some ⟨bx, 0, none⟩))), (5, some (.pointer (some ⟨p, 0, none⟩))), (6, some (.int .i64 i))])
    ⟨_, 0, Nat.zero_le _, rfl, _, _, _, _, _, T0, new_gd, by decide, rfl⟩ ?_
  clear T0
  rintro m t k1 ⟨i, hi, rfl, e, bs, ns, oa, ox, T, g, hn, rfl⟩
  have gf : Fit e := ⟨g, by omega⟩
  by_cases hlt : i < x0.length
  case neg =>
    have : i = x0.length := by omega
    subst this
    simp +contextual only [↓AM, ↓AV, AP, hlt]
    refine (c_Close T.a gf).use ?_
    rintro _ h1 w1 ⟨o1, n1, q1, rfl, p1, nw1, f1⟩
    have T1 := T.new w1 f1
    simp +contextual only [↓AM, ↓AV, AP]
    refine (c_rClose T1.x gf).use ?_
    rintro _ h2 w2 ⟨o2, n2, q2, rfl, p2, nw2, f2⟩
    have T2 := T1.new w2 f2
    have hl1 := p1.rd.ilen
    simp +contextual only [↓AM, ↓AV, AP]
    refine (c_EqBytes (p1.keep w1 f2 (fun _ _ => id)).rd p2.rd (by have := closed_len gf; omega)).use ?_
    rintro _ h2 w2 ⟨rfl, rfl⟩
    simp +contextual only [↓AM, ↓AV, AP]
    refine (c_Close T2.a gf).use ?_
    rintro _ h3 w3 ⟨o3, n3, q3, rfl, p3, nw3, f3⟩
    have T3 := T2.new w3 f3
    simp +contextual only [↓AM, ↓AV, AP]
    refine (c_rClose T3.x gf).use ?_
    rintro _ h4 w4 ⟨o4, n4, q4, rfl, p4, nw4, f4⟩
    simp +contextual only [↓AM, ↓AV, AP]
    refine (c_EqBytes (p3.keep w3 f4 (fun _ _ => id)).rd p4.rd (by have := p3.rd.ilen; have := closed_len gf; omega)).use ?_
    rintro _ h4 w4 ⟨rfl, rfl⟩
    simp +contextual only [↓AM, ↓AV, AP]
    refine c_awake.use ?_
    rintro _ h5 w5 ⟨rfl, rfl⟩
    simp +contextual only [↓AM, ↓AV, AP]
  obtain ⟨x, hx⟩ : ∃ x, x0[i]? = some x := ⟨_, List.getElem?_eq_getElem hlt⟩
  obtain ⟨bq, off, sp, sa, sc, rfl, f1, r1, rs, hs, hv⟩ := O.ex (Fm.ex T.fm w) i x hx
  obtain ⟨d, ctx, v, l⟩ := x
  simp only at r1 rs hs hv
  have r0 : h.rdN bq (off + i * 4) 4 = some [.int .i64 d, .int .i64 ctx, .int .i64 v, .slice sa l.length sc] := by
    obtain ⟨b', off', sp', sa', sc', e1, _, r, _⟩ := O i _ hx
    cases e1
    have := (Fm.ex T.fm w).rdN r
    rw [r1] at this
    rw [r, ← this]
  simp +contextual only [↓AM, ↓AV, AP, hlt, f1, r1]
  refine (c_states T.p rs hs).use ?_
  rintro _ k2 w2 ⟨a, c, rfl, owa, nwa, fm2⟩
  have T2 := T.new w2 fm2
  have r2 := (Fm.ex fm2 T.wf).rdN r1
  have hpos := T.p.pos d ctx l
  have hlen : 8 * (poolL bs ns d ctx l).length ≤ 140737488351232 := by
    unfold poolL
    split
    · split
      · simp
      · rw [T.p.len (wit_lt ctx)]; omega
    · rw [rs.ilen]; exact hs
  have hd0 : d ≠ 0 → l = [] → (poolL bs ns d ctx l).length = 32 := fun h1 h2 => by
    rw [poolL, if_pos h2, if_neg h1, T.p.len (wit_lt ctx)]
  generalize poolL bs ns d ctx l = S at owa hpos hlen hd0
  have nF2 : ∀ y, At a y → ¬ Ft b oa y ∧ ¬ Ft bx ox y := fun y hy => ⟨fun h => by have := T.a.lt T.wf y h; have := nwa y hy; omega, fun h => by have := T.x.lt T.wf y h; have := nwa y hy; omega⟩
  simp +contextual only [↓AM, ↓AV, AP, hlt, f1, r2]
  refine (c_CopyInts owa.rd hlen).use ?_
  rintro _ k3 w3 ⟨a3, c3, rfl, ow3, nw3, fm3⟩
  have T3 := T2.new w3 fm3
  have r3 := (Fm.ex fm3 T2.wf).rdN r2
  have owa := owa.keep w2 fm3 (fun _ _ => id)
  simp +contextual only [↓AM, ↓AV, AP, r3]
  refine ⟨⟨_, rfl, rfl⟩, (c_write T3.a gf ow3.rd (fun y hy hF => by have := nw3 y hy; have := T2.a.lt T2.wf y hF; omega) hlen hpos hv).use ?_⟩
  rintro _ k4 w4 ⟨oa', os, cs, rfl, ea, ows, nws, ds, fm4, nx4⟩
  have T4 := T3.stepA w4 ea fm4 nx4
  have r4 := (Fm.ex T4.fm w).rdN r0
  have owa := owa.keep w3 fm4 (fun y hy h => (nF2 y hy).1 h)
  simp +contextual only [↓AM, ↓AV, AP, hlt, f1, r4]
  refine (c_written T4.x gf owa.rd (fun y hy h => (nF2 y hy).2 h) hlen hpos hv).use ?_
  rintro _ k5 w5 ⟨ox', os5, cs5, rfl, ex, ow5, nw5, ds5, fm5, nx5⟩
  have T5 := T4.stepX w5 ex fm5 nx5
  have r5 := (Fm.ex T5.fm w).rdN r0
  have ows := ows.keep w4 fm5 (fun y hy h => by have := nws y hy; have := T3.x.lt w3 y h; omega)
  obtain ⟨g', hn'⟩ := opE_gd g d S v
  have gf' : Fit (opE e d S v) := ⟨g', by omega⟩
  simp +contextual only [↓AM, ↓AV, AP]
  refine (c_EqInts ows.rd ow5.rd (by have := opL_le g d S v; omega)).use ?_
  rintro _ k5 w5 ⟨rfl, rfl⟩
  simp +contextual only [↓AM, ↓AV, AP]
  refine WC.mk (fun t h' => ∃ bs' ns', Two h h' b bx p oa' ox' ob on (opE e d S v) (opE e d S v) bs' ns' ∧
    t = [(0, some (.slice (some ⟨bq, off, sp⟩) x0.length cq)), (3, some (.pointer (some ⟨b, 0, none⟩))), (4, some (.pointer (some ⟨bx, 0, none⟩))), (5, some (.pointer (some ⟨p, 0, none⟩))), (6, some (.int .i64 i))]) ?_ ?_
  · by_cases h0 : opI e d S v = 0
    · have e0 : EqI (opI e d S v) 0 = True := by simp [EqI, h0]
      obtain ⟨l1, l2⟩ := opL_ok g h0
      simp +contextual only [↓AM, ↓AV, AP, e0, hlt, f1, r5]
      refine (c_keep T5.p (wit_lt ctx) ow5.rd l1 l2 ?_).use ?_
      · intro y hy
        have h1 := ow5.lt w5 y hy
        have h2 := nw5 y hy
        obtain ⟨h3, h4⟩ := PoolAt.lt T4.p w4
        refine ⟨h1, fun hF => ?_, by omega, fun hP => by have := h4 y hP; omega⟩
        rcases hF with hF | hF
        · have := ea.lt w4 y hF; omega
        · exact ds5 y hy hF
      · rintro r k6 w6 ⟨P6, fm6⟩
        simp +contextual only [↓AM, ↓AV, AP]
        exact ⟨_, _, T5.stepP w6 P6 fm6⟩
    · have e0 : EqI (opI e d S v) 0 = False := by simp [EqI, h0]
      simp +contextual only [↓AM, ↓AV, AP, e0]
      exact ⟨_, _, T5⟩
  · clear T5 r5 ows ow5 owa
    rintro t k6 ⟨bs', ns', T6, rfl⟩
    have nxt : ∃ m', m' < x0.length - i ∧ ∃ i', i' ≤ x0.length ∧ m' = x0.length - i' := ⟨_, by omega, i + 1, hlt, rfl⟩
    by_cases h50 : i % 50 = 0
    · have e0 : EqI ((i : Int).tmod 50) 0 = True := by
        simp only [EqI, eq_iff_iff, iff_true]
        rw [Int.tmod_eq_emod_of_nonneg (by omega)]
        omega
      simp +contextual only [↓AM, ↓AV, AP, e0]
      refine ⟨by omega, (c_Close T6.a gf').use ?_⟩
      rintro _ k7 w7 ⟨o1, n1, q1, rfl, p1, nw1, z1⟩
      have T7 := T6.new w7 z1
      simp +contextual only [↓AM, ↓AV, AP]
      refine (c_rClose T7.x gf').use ?_
      rintro _ k8 w8 ⟨o2, n2, q2, rfl, p2, nw2, z2⟩
      have T8 := T7.new w8 z2
      simp +contextual only [↓AM, ↓AV, AP]
      refine (c_EqBytes (p1.keep w7 z2 (fun _ _ => id)).rd p2.rd (by have := p1.rd.ilen; have := closed_len gf'; omega)).use ?_
      rintro _ k8 w8 ⟨rfl, rfl⟩
      simp +contextual only [↓AM, ↓AV, AP]
      refine ⟨_, by omega, i + 1, hlt, rfl, _, _, _, _, _, T8, g', by omega, ?_⟩
      rw [i64 (by omega)]; rfl
    · have e0 : EqI ((i : Int).tmod 50) 0 = False := by
        simp only [EqI, eq_iff_iff, iff_false]
        rw [Int.tmod_eq_emod_of_nonneg (by omega)]
        omega
      simp +contextual only [↓AM, ↓AV, AP, e0]
      refine ⟨by omega, _, by omega, i + 1, hlt, rfl, _, _, _, _, _, T6, g', by omega, ?_⟩
      rw [i64 (by omega)]; rfl
end Go.Proofs.Ytholkooikmbamaa.LArithWrites
