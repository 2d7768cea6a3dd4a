/- The states of the contexts. Plain theorems over the abstract machine.
   Conditions: none. -/
import Derived.Test.YtholkooikmbamaaArE
namespace Go.Proofs.Ytholkooikmbamaa.Ar
open Go Go.RowKit Go.Proofs.Ytholkooikmbamaa.Am Go.Proofs.Ytholkooikmbamaa.Af
set_option linter.unusedVariables false
set_option linter.unusedSimpArgs false
set_option maxRecDepth 20000

/-- Slices of 32 numbers, none of them in G. -/
def Nums (h : Hp) (G : Nat → Prop) (vs : List Value) (ns : List (List Int)) : Prop :=
  vs.length = ns.length ∧ ∀ (k : Nat) (v : Value) (l : List Int), vs[k]? = some v → ns[k]? = some l → ∃ a c, v = .slice a 32 c ∧ Rd h 1 a 32 (l.map (Value.int .i64)) ∧ ∀ x, At a x → x < h.size ∧ ¬ G x
theorem Nums.keep {h h' : Hp} {G G' F : Nat → Prop} {vs : List Value} {ns : List (List Int)} (w : Wf h) (N : Nums h G vs ns) (fm : Fm F h h') (hF : ∀ x, x < h.size → F x → G x) (hG : ∀ x, G' x → G x ∨ h.size ≤ x) : Nums h' G' vs ns := by
  refine ⟨N.1, fun k v l hv hl => ?_⟩
  obtain ⟨a, c, e, r, d⟩ := N.2 k v l hv hl
  refine ⟨a, c, e, r.keep w (fm.mono hF) fun x hx hF => (d x hx).2 hF, fun x hx => ⟨Nat.lt_of_lt_of_le (d x hx).1 fm.size, fun hq => ?_⟩⟩
  rcases hG x hq with h | h
  · exact (d x hx).2 h
  · exact absurd (d x hx).1 (Nat.not_lt_of_le h)
theorem Nums.snoc {h : Hp} {G : Nat → Prop} {vs : List Value} {ns : List (List Int)} (N : Nums h G vs ns) {a : Option Addr} {c : Nat} {l : List Int} (r : Rd h 1 a 32 (l.map (Value.int .i64))) (d : ∀ x, At a x → x < h.size ∧ ¬ G x) : Nums h G (vs ++ [.slice a 32 c]) (ns ++ [l]) := by
  have hl := N.1
  refine ⟨by simp [hl], fun k v l' hv hl' => ?_⟩
  rcases Nat.lt_trichotomy k vs.length with h1 | h1 | h1
  · rw [List.getElem?_append_left h1] at hv
    rw [List.getElem?_append_left (by omega)] at hl'
    exact N.2 k v l' hv hl'
  · rw [List.getElem?_append_right (by omega), h1, Nat.sub_self] at hv
    rw [List.getElem?_append_right (by omega), h1, hl, Nat.sub_self] at hl'
    cases hv
    cases hl'
    exact ⟨a, c, rfl, r, d⟩
  · rw [List.getElem?_eq_none (by simp; omega)] at hv
    cases hv
/-- The pool in memory: m contexts; nothing of it is in F. -/
structure PoolAt (h : Hp) (p : Nat) (ob on : Option Addr) (bs : List Int) (ns : List (List Int)) (F : Nat → Prop) (m : Nat) : Prop where
  mem : ∃ cb cn vs, h.get p = some ⟨[.slice ob m cb, .slice on m cn], .own⟩ ∧ Ow h 1 ob m cb (bs.map (Value.int .i64)) ∧ Ow h 1 on m cn vs ∧ Nums h (fun x => F x ∨ x = p ∨ At ob x ∨ At on x) vs ns
  pF : ¬ F p
  bF : ∀ x, At ob x → ¬ F x
  nF : ∀ x, At on x → ¬ F x
  pb : ¬ At ob p
  pn : ¬ At on p
  bn : ∀ x, At ob x → ¬ At on x
def PlF (ob on : Option Addr) : Nat → Prop := fun x => At ob x ∨ At on x
theorem PoolAt.keep {h h' : Hp} {p m : Nat} {ob on : Option Addr} {bs : List Int} {ns : List (List Int)} {F G F' : Nat → Prop} (w : Wf h) (P : PoolAt h p ob on bs ns F m) (fm : Fm G h h') (hG : ∀ x, x < h.size → G x → F x) (hF : ∀ x, F' x → F x ∨ h.size ≤ x) : PoolAt h' p ob on bs ns F' m := by
  obtain ⟨cb, cn, vs, hp, ow1, ow2, nl, nm⟩ := P.mem
  have fm := fm.mono hG
  have lp := w.lt hp
  have lb := ow1.lt w
  have ln := ow2.lt w
  refine ⟨⟨cb, cn, vs, fm.keep w hp P.pF, ow1.keep w fm P.bF, ow2.keep w fm P.nF, nl, fun k v l hv hl => ?_⟩, ?_, ?_, ?_, P.pb, P.pn, P.bn⟩
  · obtain ⟨a, c, e, r, d⟩ := nm k v l hv hl
    refine ⟨a, c, e, r.keep w fm fun x hx hF => (d x hx).2 (.inl hF), fun x hx => ⟨Nat.lt_of_lt_of_le (d x hx).1 fm.size, fun hq => ?_⟩⟩
    rcases hq with hq | hq
    · rcases hF x hq with h | h
      · exact (d x hx).2 (.inl h)
      · exact absurd (d x hx).1 (Nat.not_lt_of_le h)
    · exact (d x hx).2 (.inr hq)
  · intro hq
    rcases hF _ hq with h | h
    · exact P.pF h
    · omega
  · intro x hx hq
    rcases hF _ hq with h | h
    · exact P.bF x hx h
    · have := lb x hx; omega
  · intro x hx hq
    rcases hF _ hq with h | h
    · exact P.nF x hx h
    · have := ln x hx; omega
theorem c_newPool {h : Hp} : ACalls Try.prog 15 [] h fun v h' => ∃ p ob on, v = .pointer (some ⟨p, 0, none⟩) ∧ PoolAt h' p ob on (List.replicate 4 2048) (List.replicate 4 (List.replicate 32 2048)) (fun x => x < h.size) 4 ∧ Fm No h h' ∧ ∀ x, PlF ob on x → h.size ≤ x := by
  refine dioramalaw13_newPool_ok.snd hm rfl fun w => ?_
  rw [WF_eq, dioramalaw13_newPool]
  simp +contextual only [↓AM, ↓AV, AP]
  refine WL.mk (fun m t h' => Wf h' ∧ Fm No h h' ∧ ∃ i : Nat, i ≤ 4 ∧ m = 4 - i ∧ ∃ ob on, PoolAt h' h.size ob on (List.replicate i 2048) (List.replicate i (List.replicate 32 2048)) (fun x => x < h.size) i ∧ (∀ x, PlF ob on x → h.size ≤ x) ∧
    t = [(1, some (.pointer (some ⟨h.size, 0, none⟩))), (2, some (.int .i64 i))])
    ⟨_, w.new, Fm.new Fm.refl, 0, Nat.zero_le _, rfl, none, none, ⟨⟨0, 0, [], gnew, Ow.mk0, Ow.mk0, rfl, fun k v l hv => by simp at hv⟩, Nat.lt_irrefl _, fun x hx => absurd hx At.none, fun x hx => absurd hx At.none, At.none, At.none, fun x hx => absurd hx At.none⟩, fun x hx => hx.elim (fun h => absurd h At.none) (fun h => absurd h At.none), rfl⟩ ?_
  rintro m t k1 ⟨w1, fm1, i, hi, rfl, ob, on, P, nw, rfl⟩
  by_cases hlt : i < 4
  case neg =>
    have : i = 4 := by omega
    subst this
    have : ¬ ((4 : Nat) : Int) < 4 := by omega
    simp +contextual only [↓AM, ↓AV, AP, this]
    exact ⟨_, ob, on, rfl, P, fm1, nw⟩
  have hlt' : (i : Int) < 4 := by omega
  obtain ⟨cb, cn, vs, hp, ow1, ow2, nl, nm⟩ := P.mem
  simp +contextual only [↓AM, ↓AV, AP, hlt', rd_mk hp, src_new]
  refine ow1.push (m := 1) w1 rfl (by omega) fun ob2 cb2 k2 ow1 w2 f2 n2 => ?_
  have hp2 := f2.keep w1 hp P.pb
  have lp := w1.lt hp
  have hpb2 : ¬ At ob2 h.size := fun hx => (n2 _ hx).elim P.pb fun h => by omega
  have ow2l := ow2.lt w1
  have bn2 : ∀ x, At ob2 x → ¬ At on x := fun x hx hn => (n2 _ hx).elim (fun h => P.bn x h hn) fun h => by have := ow2l x hn; omega
  have ow2 := ow2.keep w1 f2 (fun x hx hb => P.bn x hb hx)
  have nm2 : Nums k2 (fun x => x < h.size ∨ x = h.size ∨ At ob2 x ∨ At on x) vs (List.replicate i (List.replicate 32 2048)) := by
    refine Nums.keep w1 ⟨nl, nm⟩ f2 (fun x _ h => .inr (.inr (.inl h))) fun x hx => ?_
    rcases hx with h | h | h | h
    · exact .inl (.inl h)
    · exact .inl (.inr (.inl h))
    · exact (n2 x h).imp (fun h => .inr (.inr (.inl h))) id
    · exact .inl (.inr (.inr (.inr h)))
  simp +contextual only [↓AM, ↓AV, AP, hp2]
  have f3 : Fm (fun x => x = h.size) k2 (k2.put h.size ⟨[.slice ob2 (i + 1) cb2, .slice on i cn], .own⟩) := Fm.put Fm.refl fun _ => rfl
  have w3 := w2.put (o := ⟨[.slice ob2 (i + 1) cb2, .slice on i cn], .own⟩) (w2.lt hp2)
  have ow1 := ow1.keep w2 f3 (fun x hx h => hpb2 (h ▸ hx))
  have ow2 := ow2.keep w2 f3 (fun x hx h => P.pn (h ▸ hx))
  have nm3 := nm2.keep w2 f3 (fun x _ h => .inr (.inl h)) (fun x => .inl)
  have hp3 : (k2.put h.size ⟨[.slice ob2 (i + 1) cb2, .slice on i cn], .own⟩).get h.size = some ⟨[.slice ob2 (i + 1) cb2, .slice on i cn], .own⟩ := gput
  have fm3 : Fm No h (k2.put h.size ⟨[.slice ob2 (i + 1) cb2, .slice on i cn], .own⟩) := (fm1.trans f2 fun x hx hb => absurd (nw x (.inl hb)) (Nat.not_le_of_lt hx)).trans f3 fun x hx h => by omega
  have nb : ∀ x, At ob2 x → h.size ≤ x := fun x hx => (n2 x hx).elim (fun h => nw x (.inl h)) (fun h => Nat.le_trans fm1.size h)
  clear nm2 hp2 f2 n2 f3 hp ow2l
  generalize k2.put h.size ⟨[.slice ob2 (i + 1) cb2, .slice on i cn], .own⟩ = k3 at w3 ow1 ow2 nm3 hp3 fm3
  have lb3 := ow1.lt w3
  have ln3 := ow2.lt w3
  refine (c_rStates (n := 32)).use ?_
  rintro _ k4 w4 ⟨_, q, f4⟩
  obtain ⟨oa, cap, rfl, ow4, nw4⟩ := q (by omega)
  have ow1 := ow1.keep w3 f4 (fun _ _ => id)
  have ow2 := ow2.keep w3 f4 (fun _ _ => id)
  have nm4 := nm3.keep w3 f4 (fun x _ h => h.elim) (fun x => .inl)
  have hp4 := f4.keep w3 hp3 id
  have hln := ow2.lt w4
  have lp3 := w3.lt hp3
  have l34 := f4.size
  have hlt3 := ow1.lt w4
  have hlb3 : ∀ x, At ob2 x → x < k4.size := ow1.lt w4
  have n32 : Int.toNat 32 = 32 := rfl
  rw [n32] at ow4
  have hl4 := ow4.lt w4
  have fm4 := fm3.trans f4 fun _ _ => id
  have dis4 : ∀ x, At oa x → ¬ (x < h.size ∨ x = h.size ∨ At ob2 x ∨ At on x) := by
    intro x hx hq
    have h1 := nw4 x hx
    rcases hq with h | h | h | h
    · have := fm3.size; omega
    · omega
    · have := lb3 x h; omega
    · have := ln3 x h; omega
  simp +contextual only [↓AM, ↓AV, AP, rd_mk hp4, n32, src_new]
  refine ow2.push (m := 1) w4 rfl (by omega) fun on2 cn2 k5 ow2' w5 f5 n5 => ?_
  have hp5 := f5.keep w4 hp4 P.pn
  simp +contextual only [↓AM, ↓AV, AP, hp5]
  have f6 : Fm (fun x => x = h.size) k5 (k5.put h.size ⟨[.slice ob2 (i + 1) cb2, .slice on2 (i + 1) cn2], .own⟩) := Fm.put Fm.refl fun _ => rfl
  have w6 := w5.put (o := ⟨[.slice ob2 (i + 1) cb2, .slice on2 (i + 1) cn2], .own⟩) (w5.lt hp5)
  have hpn2 : ¬ At on2 h.size := fun hx => (n5 _ hx).elim P.pn fun h => by omega
  have bn5 : ∀ x, At ob2 x → ¬ At on2 x := fun x hx hn => (n5 _ hn).elim (fun h => bn2 x hx h) fun h => by have := hlb3 x hx; omega
  have nn : ∀ x, At on2 x → h.size ≤ x := fun x hx => (n5 x hx).elim (fun h => nw x (.inr h)) (fun h => Nat.le_trans fm4.size h)
  have nm5 : Nums k5 (fun x => x < h.size ∨ x = h.size ∨ At ob2 x ∨ At on2 x) vs (List.replicate i (List.replicate 32 2048)) := by
    refine nm4.keep w4 f5 (fun x _ h => .inr (.inr (.inr h))) fun x hx => ?_
    rcases hx with h | h | h | h
    · exact .inl (.inl h)
    · exact .inl (.inr (.inl h))
    · exact .inl (.inr (.inr (.inl h)))
    · exact (n5 x h).imp (fun h => .inr (.inr (.inr h))) id
  have r5 := ow4.rd.keep w4 f5 (fun x hx h => dis4 x hx (.inr (.inr (.inr h))))
  have nm5 := nm5.snoc (c := cap) r5 (fun x hx => ⟨Nat.lt_of_lt_of_le (hl4 x hx) f5.size, fun hq => by
    rcases hq with h | h | h | h
    · exact dis4 x hx (.inl h)
    · exact dis4 x hx (.inr (.inl h))
    · exact dis4 x hx (.inr (.inr (.inl h)))
    · rcases n5 x h with h | h
      · exact dis4 x hx (.inr (.inr (.inr h)))
      · have := hl4 x hx; omega⟩)
  have nm6 := nm5.keep w5 f6 (fun x _ h => .inr (.inl h)) (fun x => .inl)
  have ow1 := (ow1.keep w4 f5 (fun x hx h => bn2 x hx h)).keep w5 f6 (fun x hx h => hpb2 (h ▸ hx))
  have ow2' := ow2'.keep w5 f6 (fun x hx h => hpn2 (h ▸ hx))
  refine ⟨4 - (i + 1), by omega, w6, (fm4.trans f5 fun x hx h => absurd (nw x (.inr h)) (Nat.not_le_of_lt hx)).trans f6 fun x hx h => by omega, i + 1, hlt, rfl, ob2, on2, ⟨⟨cb2, cn2, _, gput, ?_, ow2', ?_⟩, Nat.lt_irrefl _, fun x hx => Nat.not_lt_of_le (nb x hx), fun x hx => Nat.not_lt_of_le (nn x hx), hpb2, hpn2, bn5⟩, fun x hx => hx.elim (nb x) (nn x), ?_⟩
  · rw [List.replicate_succ', List.map_append]; exact ow1
  · rw [List.replicate_succ']; exact nm6
  · rw [i64 (by omega)]; rfl
def wit (n : Int) : Nat := (n % 4).toNat
theorem wit_lt (n : Int) : wit n < 4 := by unfold wit; omega
theorem c_Within {h : Hp} {n : Int} : ACalls Try.prog 49 [.int .i64 n, .int .i64 4] h fun v h' => v = .int .i64 (wit n) ∧ h' = h := by
  refine dioramaref00_Within_ok.snd hm rfl fun w => ?_
  rw [WF_eq, dioramaref00_Within]
  have e4 : IntKind.u64.wrap 4 = 4 := by decide
  have e1 : IntKind.i64.wrap ((IntKind.u64.wrap n).tmod 4) = (wit n : Int) := by
    have h1 : IntKind.u64.wrap n = n % 18446744073709551616 := by
      simp only [IntKind.wrap]; rfl
    rw [h1, Int.tmod_eq_emod_of_nonneg (by omega), i64 (by omega)]
    unfold wit
    omega
  simp +contextual only [↓AM, ↓AV, AP, e4, e1]
  omega
/-- The states of a call. -/
def poolL (bs : List Int) (ns : List (List Int)) (d ctx : Int) (l : List Int) : List Int := if l = [] then if d = 0 then [bs.getD (wit ctx) 0] else ns.getD (wit ctx) [] else l
theorem PoolAt.new {h : Hp} {p m : Nat} {ob on : Option Addr} {bs : List Int} {ns : List (List Int)} {F : Nat → Prop} (w : Wf h) (P : PoolAt h p ob on bs ns F m) {o : Ob} : PoolAt (h.new o) p ob on bs ns F m :=
  P.keep w (Fm.new Fm.refl : Fm No h _) (fun _ _ h => h.elim) (fun _ => .inl)
theorem c_states {h : Hp} {p sn sc : Nat} {ob on sa : Option Addr} {bs : List Int} {ns : List (List Int)} {F : Nat → Prop} {d ctx v : Int} {l : List Int} (P : PoolAt h p ob on bs ns F 4) (hl : Rd h 1 sa sn (l.map (Value.int .i64))) (hn : 8 * sn ≤ 140737488351232) :
    ACalls Try.prog 16 [.pointer (some ⟨p, 0, none⟩), .agg #[.int .i64 d, .int .i64 ctx, .int .i64 v, .slice sa sn sc]] h fun r h' => ∃ a c, r = .tuple #[.slice a (poolL bs ns d ctx l).length c, .bool (decide (l = [])), .int .i64 (wit ctx)] ∧ Ow h' 1 a (poolL bs ns d ctx l).length c ((poolL bs ns d ctx l).map (Value.int .i64)) ∧ Nw h a ∧ Fm No h h' := by
  refine dioramalaw13_pool__states_ok.snd hm rfl fun w => ?_
  rw [WF_eq, dioramalaw13_pool__states]
  have fm0 : Fm No h (h.new ⟨[.int .i64 d, .int .i64 ctx, .int .i64 v, .slice sa sn sc], .own⟩) := Fm.new Fm.refl
  have hl0 := hl.keep w fm0 (fun _ _ => id)
  have hbx : (h.new ⟨[.int .i64 d, .int .i64 ctx, .int .i64 v, .slice sa sn sc], .own⟩).get h.size = some ⟨[.int .i64 d, .int .i64 ctx, .int .i64 v, .slice sa sn sc], .own⟩ := gnew
  have P0 := P.new w (o := ⟨[.int .i64 d, .int .i64 ctx, .int .i64 v, .slice sa sn sc], .own⟩)
  have ll := hl.ilen
  have hw := wit_lt ctx
  simp +contextual only [↓AM, ↓AV, AP]
  refine c_Within.use ?_
  rintro _ h1 w1 ⟨rfl, e1⟩
  subst e1
  generalize h.size = bx at hbx
  generalize h.new ⟨[.int .i64 d, .int .i64 ctx, .int .i64 v, .slice sa sn sc], .own⟩ = h1 at hl0 hbx P0 w1 fm0
  by_cases h0 : 0 < sn
  · have hne : l ≠ [] := fun e => by rw [e] at ll; simp at ll; omega
    have hp : poolL bs ns d ctx l = l := if_neg hne
    rw [hp, decide_eq_false hne, ll]
    simp +contextual only [↓AM, ↓AV, AP, rd_mk hbx, h0]
    refine ⟨fun _ => ?_, fun h => by omega⟩
    refine (c_CopyInts hl0 hn).use ?_
    rintro _ h2 w2 ⟨oa, cap, rfl, ow, nw, fm⟩
    simp +contextual only [↓AM, ↓AV, AP]
    exact ⟨oa, cap, rfl, ow, fun x hx => Nat.le_trans fm0.size (nw x hx), fm0.trans fm fun _ _ => id⟩
  have he : l = [] := List.length_eq_zero_iff.1 (by omega)
  subst he
  have hsn : sn = 0 := by omega
  subst hsn
  have h0 : ((0 : Int) < ((0 : Nat) : Int)) = False := by simp
  obtain ⟨cb, cn, vs, hp, ow1, ow2, nl, nm⟩ := P0.mem
  by_cases hd : d = 0
  · subst hd
    have hp' : poolL bs ns 0 ctx [] = [bs.getD (wit ctx) 0] := rfl
    rw [hp', decide_eq_true rfl]
    obtain ⟨bb, off, sp, rfl, f1, x, hx, r1⟩ := ow1.rd.int hw
    have hg0 : bs.getD (wit ctx) 0 = x := by rw [List.getD_eq_getElem?_getD, hx]; rfl
    rw [hg0]
    simp +contextual only [↓AM, ↓AV, AP, rd_mk hbx, h0, rd_mk hp, f1, r1]
    refine ⟨by omega, _, _, rfl, Ow.new (n := 1) (m := 1) rfl (by omega), Nw.new fm0, fm0.new⟩
  · have hp' : poolL bs ns d ctx [] = ns.getD (wit ctx) [] := by rw [poolL, if_pos rfl, if_neg hd]
    have e0 : EqI d 0 = False := by simp [EqI, hd]
    rw [hp', decide_eq_true rfl]
    obtain ⟨bb, off, sp, v', rfl, f1, hx, r1⟩ := ow2.rd.one hw
    have hvl := ow2.rd.len
    have hnl : wit ctx < ns.length := by rw [← nl]; omega
    obtain ⟨a, c, rfl, r, dis⟩ := nm _ _ _ hx (List.getElem?_eq_getElem hnl)
    have hg0 : ns.getD (wit ctx) [] = ns[wit ctx] := by rw [List.getD_eq_getElem?_getD, List.getElem?_eq_getElem hnl]; rfl
    rw [hg0, r.ilen]
    simp +contextual only [↓AM, ↓AV, AP, rd_mk hbx, h0, rd_mk hp, f1, r1, e0]
    refine ⟨by omega, (c_CopyInts r (by omega)).use ?_⟩
    rintro _ h2 w2 ⟨oa, cap, rfl, ow, nw, fm⟩
    simp +contextual only [↓AM, ↓AV, AP]
    exact ⟨oa, cap, rfl, ow, fun x hx => Nat.le_trans fm0.size (nw x hx), fm0.trans fm fun _ _ => id⟩
theorem PoolAt.setB {h : Hp} {p m k : Nat} {ob on : Option Addr} {bs : List Int} {ns : List (List Int)} {F : Nat → Prop} (w : Wf h) (P : PoolAt h p ob on bs ns F m) (hk : k < m) :
    ∃ cb bb sp o, h.rd p 0 = some (.slice ob m cb) ∧ ob = some ⟨bb, 0, sp⟩ ∧ flagOk sp = true ∧ h.get bb = some o ∧ (o.md = .ro) = False ∧ leIs (k + 1) o.cs = true ∧
      ∀ u, PoolAt (h.put bb ⟨spl o.cs k [.int .i64 u], o.md⟩) p ob on (bs.set k u) ns F m ∧ Fm (PlF ob on) h (h.put bb ⟨spl o.cs k [.int .i64 u], o.md⟩) := by
  obtain ⟨cb, cn, vs, hp, ow1, ow2, nm⟩ := P.mem
  obtain ⟨bb, sp, o, v, rfl, f1, hg, hmd, hle, hv, r1, hput⟩ := ow1.cell w hk
  refine ⟨cb, bb, sp, o, rd_mk hp, rfl, f1, hg, hmd, hle, fun u => ?_⟩
  obtain ⟨q1, q2, q3, q4⟩ := hput (.int .i64 u)
  refine ⟨⟨⟨cb, cn, vs, q4.keep w hp P.pb, ?_, ow2.keep w q4 (fun x hx hb => P.bn x hb hx), nm.keep w q4 (fun x _ h => .inr (.inr (.inl h))) (fun _ => .inl)⟩, P.pF, P.bF, P.nF, P.pb, P.pn, P.bn⟩, q4.mono fun x _ h => .inl h⟩
  rw [List.map_set]
  exact q2
theorem PoolAt.setN {h : Hp} {p m k c : Nat} {ob on a : Option Addr} {bs l : List Int} {ns : List (List Int)} {F : Nat → Prop} (w : Wf h) (P : PoolAt h p ob on bs ns F m) (hk : k < m) (hl : Rd h 1 a 32 (l.map (Value.int .i64))) (hF : ∀ x, At a x → x < h.size ∧ ¬ F x ∧ x ≠ p ∧ ¬ PlF ob on x) :
    ∃ cn bb sp o, h.rd p 1 = some (.slice on m cn) ∧ on = some ⟨bb, 0, sp⟩ ∧ flagOk sp = true ∧ h.get bb = some o ∧ (o.md = .ro) = False ∧ leIs (k + 1) o.cs = true ∧
      PoolAt (h.put bb ⟨spl o.cs k [.slice a 32 c], o.md⟩) p ob on bs (ns.set k l) F m ∧ Fm (PlF ob on) h (h.put bb ⟨spl o.cs k [.slice a 32 c], o.md⟩) := by
  obtain ⟨cb, cn, vs, hp, ow1, ow2, nm⟩ := P.mem
  have nm := nm
  obtain ⟨bb, sp, o, v, rfl, f1, hg, hmd, hle, hv, r1, hput⟩ := ow2.cell w hk
  obtain ⟨q1, q2, q3, q4⟩ := hput (.slice a 32 c)
  refine ⟨cn, bb, sp, o, rd_mk hp, rfl, f1, hg, hmd, hle, ⟨⟨cb, cn, _, q4.keep w hp P.pn, ow1.keep w q4 (fun x hx hb => P.bn x hx hb), q2, ?_⟩, P.pF, P.bF, P.nF, P.pb, P.pn, P.bn⟩, q4.mono fun x _ h => .inr h⟩
  have nm2 := nm.keep w q4 (fun x _ h => .inr (.inr (.inr h))) (fun _ => .inl)
  have hl2 := hl.keep w q4 (fun x hx h => (hF x hx).2.2.2 (.inr h))
  have hs := q4.size
  refine ⟨by simpa using nm2.1, fun j v' l' hv' hl' => ?_⟩
  by_cases hj : k = j
  · subst hj
    have h1 : k < vs.length := by rw [ow2.len]; omega
    rw [List.getElem?_set_self h1] at hv'
    rw [List.getElem?_set_self (by rw [← nm2.1]; exact h1)] at hl'
    cases hv'
    cases hl'
    refine ⟨a, c, rfl, hl2, fun x hx => ?_⟩
    obtain ⟨x1, x2, x3, x4⟩ := hF x hx
    refine ⟨by omega, ?_⟩
    rintro (h | h | h | h)
    · exact x2 h
    · exact x3 h
    · exact x4 (.inl h)
    · exact x4 (.inr h)
  · rw [List.getElem?_set_ne hj] at hv' hl'
    exact nm2.2 j v' l' hv' hl'
theorem c_keep {h : Hp} {p sn sc n c k : Nat} {ob on sa a : Option Addr} {bs : List Int} {ns : List (List Int)} {F : Nat → Prop} {d ctx v : Int} {l : List Int} {own : Bool} (P : PoolAt h p ob on bs ns F 4) (hk : k < 4) (hl : Rd h 1 a n (l.map (Value.int .i64))) (h0 : 0 < n) (hd : d ≠ 0 → n = 32) (hF : ∀ x, At a x → x < h.size ∧ ¬ F x ∧ x ≠ p ∧ ¬ PlF ob on x) :
    ACalls Try.prog 21 [.pointer (some ⟨p, 0, none⟩), .agg #[.int .i64 d, .int .i64 ctx, .int .i64 v, .slice sa sn sc], .bool own, .int .i64 k, .slice a n c] h fun r h' =>
      PoolAt h' p ob on (if own = true ∧ d = 0 then bs.set k (l.getD 0 0) else bs) (if own = true ∧ ¬ d = 0 then ns.set k l else ns) F 4 ∧ Fm (PlF ob on) h h' := by
  refine dioramalaw13_pool__keep_ok.snd hm rfl fun w => ?_
  rw [WF_eq, dioramalaw13_pool__keep]
  have fm0 : Fm No h (h.new ⟨[.int .i64 d, .int .i64 ctx, .int .i64 v, .slice sa sn sc], .own⟩) := Fm.new Fm.refl
  have hl0 := hl.keep w fm0 (fun _ _ => id)
  have hbx : (h.new ⟨[.int .i64 d, .int .i64 ctx, .int .i64 v, .slice sa sn sc], .own⟩).get h.size = some ⟨[.int .i64 d, .int .i64 ctx, .int .i64 v, .slice sa sn sc], .own⟩ := gnew
  have P0 := P.new w (o := ⟨[.int .i64 d, .int .i64 ctx, .int .i64 v, .slice sa sn sc], .own⟩)
  have wn := w.new (o := ⟨[.int .i64 d, .int .i64 ctx, .int .i64 v, .slice sa sn sc], .own⟩)
  have hk4 : (k : Int) < ((4 : Nat) : Int) := by omega
  cases own
  · simp +contextual only [↓AM, ↓AV, AP]
    exact ⟨P0, fm0.mono fun _ _ h => h.elim⟩
  by_cases hd0 : d = 0
  · subst hd0
    obtain ⟨cb, bb, sp, o, rp, rfl, f1, hg, hmd, hle, hput⟩ := P0.setB wn hk
    obtain ⟨b2, off, sp2, rfl, f2, x, hx, r2⟩ := hl0.int h0
    have hg0 : l.getD 0 0 = x := by rw [List.getD_eq_getElem?_getD, hx]; rfl
    simp only [Nat.add_zero] at r2
    obtain ⟨q1, q2⟩ := hput x
    simp +contextual only [↓AM, ↓AV, AP, rd_mk hbx, rp, f1, f2, h0, r2, hk, hg, hmd, hle, hg0]
    exact ⟨by omega, q1, (fm0.mono fun _ _ h => h.elim).trans q2 fun _ _ => id⟩
  · have e0 : EqI d 0 = False := by simp [EqI, hd0]
    have : n = 32 := hd hd0
    subst this
    obtain ⟨cb, bb, sp, o, rp, rfl, f1, hg, hmd, hle, q1, q2⟩ := P0.setN (c := c) wn hk hl0 fun x hx => ⟨Nat.lt_succ_of_lt (hF x hx).1, (hF x hx).2⟩
    simp +contextual only [↓AM, ↓AV, AP, rd_mk hbx, rp, f1, e0, hk, hg, hmd, hle, hd0]
    exact ⟨q1, (fm0.mono fun _ _ h => h.elim).trans q2 fun _ _ => id⟩
theorem PoolAt.lt {h : Hp} {p m : Nat} {ob on : Option Addr} {bs : List Int} {ns : List (List Int)} {F : Nat → Prop} (P : PoolAt h p ob on bs ns F m) (w : Wf h) : p < h.size ∧ ∀ y, PlF ob on y → y < h.size := by
  obtain ⟨cb, cn, vs, hp, ow1, ow2, nm⟩ := P.mem
  exact ⟨w.lt hp, fun y hy => hy.elim (ow1.lt w y) (ow2.lt w y)⟩
theorem PoolAt.len {h : Hp} {p : Nat} {ob on : Option Addr} {bs : List Int} {ns : List (List Int)} {F : Nat → Prop} (P : PoolAt h p ob on bs ns F 4) {k : Nat} (hk : k < 4) : (ns.getD k []).length = 32 := by
  obtain ⟨cb, cn, vs, hp, ow1, ow2, nm⟩ := P.mem
  have hv := ow2.len
  have hn := nm.1
  have h1 : k < vs.length := by omega
  have h2 : k < ns.length := by omega
  obtain ⟨a, c, _, r, _⟩ := nm.2 k _ _ (List.getElem?_eq_getElem h1) (List.getElem?_eq_getElem h2)
  rw [List.getD_eq_getElem?_getD, List.getElem?_eq_getElem h2]
  exact r.ilen
theorem PoolAt.pos {h : Hp} {p : Nat} {ob on : Option Addr} {bs : List Int} {ns : List (List Int)} {F : Nat → Prop} (P : PoolAt h p ob on bs ns F 4) (d ctx : Int) (l : List Int) : 0 < (poolL bs ns d ctx l).length := by
  unfold poolL
  split
  · split
    · exact Nat.one_pos
    · rw [P.len (wit_lt ctx)]; omega
  · rename_i h
    exact List.length_pos_iff.2 h
end Go.Proofs.Ytholkooikmbamaa.Ar
