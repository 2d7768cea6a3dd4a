/- The numbers of a track: the program's. Plain theorems over the abstract machine.
   Conditions: none. -/
import Derived.Test.YtbfbgkhlngkifaaBun4
import Derived.Test.YtbfbgkhlngkifaaBun3
import Derived.RowKit
import Derived.Test.YtbfbgkhlngkifaaAmZb
import Derived.DataShut
namespace Go.Proofs.Ytbfbgkhlngkifaa.Mv
open Go Go.RowKit Go.Proofs.Ytbfbgkhlngkifaa.Am Go.Proofs.Ytbfbgkhlngkifaa.Af Go.Proofs.Ytbfbgkhlngkifaa.Md Go.Proofs.Ytbfbgkhlngkifaa.Nu
set_option linter.unusedVariables false
set_option linter.unusedSimpArgs false
set_option linter.defProp false
set_option maxRecDepth 20000
set_option maxHeartbeats 4000000

theorem numsB_some {day : Int} : ∀ {ss : List Smp} {acc L : List Int}, numsB day acc ss = some L → L.length = acc.length + ss.length
  | [], acc, L, h => by
    have h : some acc = some L := h
    cases h; simp
  | s :: ss, acc, L, h => by
    rw [numsB] at h
    split at h
    · cases h
    · rw [numsB_some h]; simp; omega
/-- The day's numbers at the rate of a track. -/
def dayX (x : Trk) : Int := 144 * (600 * (rateF x).1 - 9 * missN (rateF x).1 (rateF x).2)
def NumP (h' : Hp) (x : Trk) (u : Value) : Prop :=
  if rateE x ≠ 0 then u = .tuple #[.slice none 0 0, .int .i64 (rateE x)] else if has4 x.smps = true then u = .tuple #[.slice none 0 0, .int .i64 4] else
    match numsB (dayX x) [] x.smps with
    | none => u = .tuple #[.slice none 0 0, .int .i64 1]
    | some L => ∃ oa c, u = .tuple #[.slice oa L.length c, .int .i64 0] ∧ Rd h' 1 oa L.length (iV L)
theorem NumP.e1 {h' : Hp} {x : Trk} (h : rateE x ≠ 0) : NumP h' x (.tuple #[.slice none 0 0, .int .i64 (rateE x)]) := by unfold NumP; rw [if_pos h]
theorem NumP.e4 {h' : Hp} {x : Trk} (h : ¬ rateE x ≠ 0) (h4 : has4 x.smps = true) : NumP h' x (.tuple #[.slice none 0 0, .int .i64 4]) := by unfold NumP; rw [if_neg h, if_pos h4]
theorem NumP.no {h' : Hp} {x : Trk} (h : ¬ rateE x ≠ 0) (h4 : ¬ has4 x.smps = true) (hn : numsB (dayX x) [] x.smps = none) : NumP h' x (.tuple #[.slice none 0 0, .int .i64 1]) := by unfold NumP; rw [if_neg h, if_neg h4, hn]
theorem NumP.ok {h' : Hp} {x : Trk} {L : List Int} {oa : Option Addr} {c : Nat} (h : ¬ rateE x ≠ 0) (h4 : ¬ has4 x.smps = true) (hn : numsB (dayX x) [] x.smps = some L) (r : Rd h' 1 oa L.length (iV L)) : NumP h' x (.tuple #[.slice oa L.length c, .int .i64 0]) := by unfold NumP; rw [if_neg h, if_neg h4, hn]; exact ⟨_, _, rfl, r⟩
theorem rateF_ok {x : Trk} (h : rateE x = 0) : okR (rateF x).1 (rateF x).2 := by
  unfold rateF
  unfold rateE at h
  split at h
  · cases h
  · split
    · rename_i f d hs
      rw [hs] at h
      have h : (if 1 < d then 4 else chkR f (decide (d = 1))) = 0 := h
      split at h
      · cases h
      · rename_i q1 q2
        have hr : rateE x = 0 := by
          unfold rateE
          rw [if_neg (by assumption), hs]
          show (if 1 < d then 4 else chkR f (decide (d = 1))) = 0
          rw [if_neg q2]
          exact h
        rw [if_pos hr]
        unfold chkR at h
        exact Classical.byContradiction fun q => by rw [if_neg q] at h; cases h
    · rename_i hs
      split at h
      · rename_i f d hs2
        exact absurd hs2 (hs f d)
      · cases h
theorem c_Numbers {h : Hp} {x : Trk} {v e r s : Value} (a5 : SlV h byteK x.setup v) (a9 : SlV h edtK x.edits e) (a10 : SlV h refK x.refs r) (a11 : SlV h smpK x.smps s) (hb : byB x.setup) (hl : x.smps.length ≤ 1000) (hd : ∀ s ∈ x.smps, byB s.data) :
    ACalls Try.prog 54 [.agg #[.int .i64 x.id, .int .i64 x.kind, .string x.codec, .int .i64 x.scale, v, .string x.lang, .string x.name, .int .i64 x.pre, e, r, s]] h fun u h' => NumP h' x u ∧ Fm No h h' := by
  refine code_Numbers_ok.snd hm rfl fun w => ?_
  rw [WF_eq, code_Numbers]
  obtain ⟨va, vc, rfl⟩ := a5.val
  obtain ⟨ea, ec, rfl⟩ := a9.val
  obtain ⟨ra, rc, rfl⟩ := a10.val
  obtain ⟨sa, sc, rfl⟩ := a11.val
  obtain ⟨hB, eB⟩ : ∃ g, h.new ⟨[.int .i64 x.id, .int .i64 x.kind, .string x.codec, .int .i64 x.scale, .slice va x.setup.length vc, .string x.lang, .string x.name, .int .i64 x.pre, .slice ea x.edits.length ec, .slice ra x.refs.length rc, .slice sa x.smps.length sc], .own⟩ = g := ⟨_, rfl⟩
  have sB : hB.size = h.size + 1 := by rw [← eB]; rfl
  have wB : Wf hB := eB ▸ w.new
  have f0 : Fm No h hB := eB ▸ Fm.new Fm.refl
  have gB : hB.get h.size = some ⟨[.int .i64 x.id, .int .i64 x.kind, .string x.codec, .int .i64 x.scale, .slice va x.setup.length vc, .string x.lang, .string x.name, .int .i64 x.pre, .slice ea x.edits.length ec, .slice ra x.refs.length rc, .slice sa x.smps.length sc], .own⟩ := eB ▸ gnew
  have u11 : hB.rdN h.size 0 11 = some [.int .i64 x.id, .int .i64 x.kind, .string x.codec, .int .i64 x.scale, .slice va x.setup.length vc, .string x.lang, .string x.name, .int .i64 x.pre, .slice ea x.edits.length ec, .slice ra x.refs.length rc, .slice sa x.smps.length sc] := by rw [rdN_mk gB (Nat.le_refl 11)]; rfl
  simp +contextual (disch := omega) only [↓AM, ↓AV, AP, CQ, eB, u11]
  refine (c_Rate (a5.keep w f0) (a9.keep w f0) (a10.keep w f0) (a11.keep w f0) hb).use ?_
  rintro _ h1 w1 ⟨rfl, f1⟩
  have f01 := f0.trans f1 fun _ _ f => f
  by_cases k1 : rateE x = 0
  case neg =>
    have e1 : EqI (rateE x) 0 = False := eq_false k1
    simp +contextual (disch := omega) only [↓AM, ↓AV, AP, CQ, eB, e1]
    exact ⟨.e1 k1, f01.trans (Fm.new Fm.refl) fun _ _ f => f⟩
  have e1 : EqI (rateE x) 0 = True := eq_true k1
  have k1' : ¬ rateE x ≠ 0 := fun q => q k1
  have hok := rateF_ok k1
  obtain ⟨F, hF⟩ : ∃ F, (rateF x).1 = F := ⟨_, rfl⟩
  obtain ⟨D, hD⟩ : ∃ D, (rateF x).2 = D := ⟨_, rfl⟩
  have hday : dayX x = 144 * (600 * F - 9 * missN F D) := by unfold dayX; rw [hF, hD]
  rw [hF, hD] at hok
  rw [hF, hD]
  obtain ⟨hC, eC⟩ : ∃ g, h1.new ⟨[.int .i64 F, .bool D], .own⟩ = g := ⟨_, rfl⟩
  have wC : Wf hC := eC ▸ w1.new
  have fC : Fm No h1 hC := eC ▸ Fm.new Fm.refl
  have gC : hC.get h1.size = some ⟨[.int .i64 F, .bool D], .own⟩ := eC ▸ gnew
  have fBC := f1.trans fC fun _ _ f => f
  have f0C := f0.trans fBC fun _ _ f => f
  have rds : ∀ g, Fm No hC g → g.rd h.size 10 = some (.slice sa x.smps.length sc) ∧ g.rdN h1.size 0 2 = some [.int .i64 F, .bool D] := fun g fg =>
    ⟨rd_mk ((fBC.trans fg fun _ _ f => f).keep wB gB (fun f => f)), by rw [rdN_mk (fg.keep wC gC (fun f => f)) (Nat.le_refl 2)]; rfl⟩
  have u := rds hC Fm.refl
  simp +contextual (disch := omega) only [↓AM, ↓AV, AP, CQ, eB, eC, e1, u]
  refine (c_HasSmp (p := fun s => decide (s.data.length ≠ 4)) (a11.keep w f0C) (by omega) rfl (fun y hy cs h2 f2 w2 a => c_Numbers1 a)).use ?_
  rintro _ h2 w2 ⟨rfl, f2⟩
  have f02 := f0C.trans f2 fun _ _ f => f
  rw [show (x.smps.any fun s => decide (s.data.length ≠ 4)) = has4 x.smps from rfl]
  cases k4 : has4 x.smps with
  | true =>
    simp +contextual (disch := omega) only [↓AM, ↓AV, AP, CQ, eB, eC]
    exact ⟨.e4 k1' k4, f02⟩
  | false =>
  have k4' : ¬ has4 x.smps = true := by rw [k4]; decide
  have h4 : ∀ s ∈ x.smps, s.data.length = 4 := fun s hs => Classical.byContradiction fun q => k4' (List.any_eq_true.2 ⟨s, hs, by simpa using q⟩)
  have u := rds h2 f2
  simp +contextual (disch := omega) only [↓AM, ↓AV, AP, CQ, eB, eC, u]
  refine WL.mk (fun k t' h' => ∃ (j : Nat) (L : List Int) (oa : Option Addr) (c : Nat), Wf h' ∧ Fm No h2 h' ∧ j ≤ x.smps.length ∧ k = x.smps.length - j ∧ L.length = j ∧ Ow h' 1 oa L.length c (iV L) ∧ Nw h2 oa ∧ numsB (dayX x) [] x.smps = numsB (dayX x) L (x.smps.drop j) ∧
      t' = [(4, some (.pointer (some ⟨h1.size, 0, none⟩))), (6, some (.slice oa L.length c)), (24, some (.slice sa x.smps.length sc)), (25, some (.int .i64 (x.smps.length : Int))), (26, some (.int .i64 (j : Int)))])
    ⟨x.smps.length, 0, [], none, 0, w2, Fm.refl, by omega, rfl, rfl, Ow.mk0, Nw.none, rfl, rfl⟩ ?_
  rintro k t' h3 ⟨j, L, oa, c, w3, f3, hj, rfl, hL, ow, nw, hE, rfl⟩
  have f03 := f02.trans f3 fun _ _ f => f
  by_cases hjn : j < x.smps.length
  case neg =>
    rw [List.drop_eq_nil_of_le (by omega)] at hE
    simp +contextual (disch := omega) only [↓AM, ↓AV, AP, CQ, hjn]
    exact ⟨.ok k1' k4' hE ow.rd, f03⟩
  obtain ⟨b1, o1, s1, y, yc, rfl, g1, hy, hya, hyr⟩ := (a11.keep w f03).el hjn
  obtain ⟨dv, wv, rfl, y1, y2⟩ := smp_open hya
  obtain ⟨da, dc, rfl⟩ := y1.val
  obtain ⟨wa, wc, rfl⟩ := y2.val
  have hyr : h3.rdN b1 (o1 + j * 6) 6 = some [.int .i64 y.dts, .int .i64 y.pts, .int .i64 y.dur, .bool y.sync, .slice da y.deps.length dc, .slice wa y.data.length wc] := hyr
  have hym := List.mem_of_getElem? hy
  have hyb := hd y hym
  have hy4 := h4 y hym
  rw [List.drop_eq_getElem_cons hjn, (List.getElem?_eq_some_iff.1 hy).2] at hE
  obtain ⟨h4', e4⟩ : ∃ g, h3.new ⟨[.int .i64 y.dts, .int .i64 y.pts, .int .i64 y.dur, .bool y.sync, .slice da y.deps.length dc, .slice wa y.data.length wc], .own⟩ = g := ⟨_, rfl⟩
  have w4 : Wf h4' := e4 ▸ w3.new
  have f4 : Fm No h3 h4' := e4 ▸ Fm.new Fm.refl
  have g4 : h4'.get h3.size = some ⟨[.int .i64 y.dts, .int .i64 y.pts, .int .i64 y.dur, .bool y.sync, .slice da y.deps.length dc, .slice wa y.data.length wc], .own⟩ := e4 ▸ gnew
  have p5 : h4'.rd h3.size 5 = some (.slice wa y.data.length wc) := rd_mk g4
  have ry := SlV.ints (y2.keep w3 f4)
  have f24 := f3.trans f4 fun _ _ f => f
  have ow4 := ow.keep w3 f4 (fun _ _ f => f)
  simp +contextual (disch := omega) only [↓AM, ↓AV, AP, CQ, hjn, g1, hyr, e4, p5]
  refine WL.mk (fun k t' h' => ∃ (i : Nat), h' = h4' ∧ i ≤ y.data.length ∧ k = y.data.length - i ∧
      t' = [(4, some (.pointer (some ⟨h1.size, 0, none⟩))), (6, some (.slice oa L.length c)), (9, some (.int .i64 (numB (y.data.take i)))), (24, some (.slice (some ⟨b1, o1, s1⟩) x.smps.length sc)), (25, some (.int .i64 (x.smps.length : Int))), (26, some (.int .i64 (j : Int))), (31, some (.slice wa y.data.length wc)), (32, some (.int .i64 (y.data.length : Int))), (33, some (.int .i64 (i : Int)))])
    ⟨y.data.length, 0, rfl, by omega, rfl, rfl⟩ ?_
  rintro k t' hq9 ⟨i, e9, hi, rfl, rfl⟩
  subst hq9
  have htb : byB (y.data.take i) := fun b hb => hyb b (List.mem_of_mem_take hb)
  have hnb := numB_b i (y.data.take i) htb (by rw [List.length_take]; omega)
  have hp : (256 : Int) ^ i ≤ 4294967296 := by
    have : i ≤ 4 := by omega
    rcases (show i = 0 ∨ i = 1 ∨ i = 2 ∨ i = 3 ∨ i = 4 by omega) with rfl | rfl | rfl | rfl | rfl <;> decide
  by_cases hin : i < y.data.length
  · obtain ⟨b2, o2, s2, rfl, g2, q, hq, r2⟩ := Rd.int ry hin
    have hqb := hyb q (List.mem_of_getElem? hq)
    have e256 : numB (y.data.take i) * 2 ^ min 8 IntKind.i64.bits = numB (y.data.take i) * 256 := by
      show numB (y.data.take i) * 256 = _
      rfl
    simp +contextual (disch := omega) only [↓AM, ↓AV, AP, CQ, hin, g2, r2, e256, i64, or_lowI]
    refine ⟨y.data.length - (i + 1), by omega, i + 1, by omega, rfl, ?_⟩
    rw [List.take_add_one, hq, Option.toList_some, numB_app]
  have hti : y.data.take i = y.data := List.take_of_length_le (by omega)
  rw [hti] at hnb
  rw [hti]
  have u := rds h4' (f2.trans f24 fun _ _ f => f)
  have f04 := f03.trans f4 fun _ _ f => f
  simp +contextual (disch := omega) only [↓AM, ↓AV, AP, CQ, hin, u]
  refine (c_day (F := F) (D := D) hok.1).use ?_
  rintro _ h5 w5 ⟨rfl, f5⟩
  have f05 := f04.trans f5 fun _ _ f => f
  rw [← hday]
  by_cases k5 : dayX x ≤ numB y.data
  · simp +contextual (disch := omega) only [↓AM, ↓AV, AP, CQ, k5]
    exact ⟨.no k1' k4' (by rw [hE, numsB, if_pos k5]), f05⟩
  rw [numsB, if_neg k5] at hE
  have ow5 := ow4.keep w4 f5 (fun _ _ f => f)
  simp +contextual (disch := omega) only [↓AM, ↓AV, AP, CQ, k5]
  refine ow5.push (m := 1) w5 rfl ?_ fun oa' cap' h6 o' w6 f' n' => ?_
  · omega
  obtain ⟨f26, nw6⟩ := grown (f24.trans f5 fun _ _ f => f) nw f' n'
  have el : (L ++ [numB y.data]).length = L.length + 1 := by simp
  simp +contextual (disch := omega) only [↓AM, ↓AV, AP, CQ, i64]
  refine ⟨x.smps.length - (j + 1), by omega, j + 1, L ++ [numB y.data], oa', cap', w6, f26, by omega, rfl, by omega, ?_, nw6, hE, by rw [el]⟩
  rw [el, iV, List.map_append]; exact o'
end Go.Proofs.Ytbfbgkhlngkifaa.Mv

/- A reader made; the sample at a tick: the program's. Plain theorems over the abstract machine.
   Conditions: none. -/
namespace Go.Proofs.Ytbfbgkhlngkifaa.Mv
open Go Go.RowKit Go.Proofs.Ytbfbgkhlngkifaa.Am Go.Proofs.Ytbfbgkhlngkifaa.Af Go.Proofs.Ytbfbgkhlngkifaa.Md Go.Proofs.Ytbfbgkhlngkifaa.Nu
set_option linter.unusedVariables false
set_option linter.unusedSimpArgs false
set_option linter.defProp false
set_option maxRecDepth 20000
set_option maxHeartbeats 4000000

/-- The error of the numbers, and the numbers. -/
def numE (x : Trk) : Int := if rateE x ≠ 0 then rateE x else if has4 x.smps = true then 4 else match numsB (dayX x) [] x.smps with
  | none => 1
  | some _ => 0
def numL (x : Trk) : List Int := (numsB (dayX x) [] x.smps).getD []
theorem NumP.get {h' : Hp} {x : Trk} {u : Value} (p : NumP h' x u) : ∃ v, u = .tuple #[v, .int .i64 (numE x)] ∧ (∃ oa n c, v = .slice oa n c) ∧ (numE x = 0 → ∃ oa c, v = .slice oa (numL x).length c ∧ Rd h' 1 oa (numL x).length (iV (numL x))) := by
  unfold NumP at p
  unfold numE numL
  split at p
  · rename_i q
    rw [if_pos q]
    exact ⟨_, p, ⟨_, _, _, rfl⟩, fun e => absurd e q⟩
  · rename_i q
    rw [if_neg q]
    split at p
    · rename_i q2
      rw [if_pos q2]
      exact ⟨_, p, ⟨_, _, _, rfl⟩, fun e => absurd e (by decide)⟩
    · rename_i q2
      rw [if_neg q2]
      split at p
      · rename_i q3
        rw [q3]
        exact ⟨_, p, ⟨_, _, _, rfl⟩, fun e => absurd e (by decide)⟩
      · rename_i L q3
        rw [q3]
        obtain ⟨oa, c, rfl, r⟩ := p
        exact ⟨_, rfl, ⟨_, _, _, rfl⟩, fun _ => ⟨oa, c, rfl, r⟩⟩
/-- A reader in memory. -/
def RdrC (m : Mov) (x : Trk) (v1 v2 v3 v4 v e r s n : Value) : List Value :=
  [.int .i64 m.scale, .string m.title, v1, v2, v3, v4, .int .i64 x.id, .int .i64 x.kind, .string x.codec, .int .i64 x.scale, v, .string x.lang, .string x.name, .int .i64 x.pre, e, r, s, .int .i64 (rateF x).1, .bool (rateF x).2, n]
def RdrP (h' : Hp) (m : Mov) (x : Trk) (v1 v2 v3 v4 : Value) (u : Value) : Prop :=
  if numE x = 0 then ∃ b v e r s oa c, u = .tuple #[.pointer (some ⟨b, 0, none⟩), .int .i64 0] ∧ h'.get b = some ⟨RdrC m x v1 v2 v3 v4 v e r s (.slice oa (numL x).length c), .own⟩ ∧
    SlV h' byteK x.setup v ∧ SlV h' edtK x.edits e ∧ SlV h' refK x.refs r ∧ SlV h' smpK x.smps s ∧ Rd h' 1 oa (numL x).length (iV (numL x))
  else ∃ v, u = .tuple #[v, .int .i64 (numE x)]
theorem numE_rate {x : Trk} (h : rateE x ≠ 0) : numE x = rateE x := if_pos h
theorem c_newReader {h : Hp} {m : Mov} {v1 v2 v3 v4 : Value} (a1 : SlV h trkK m.trks v1) (a2 : SlV h ednK m.edns v2) (a3 : SlV h tagK m.tags v3) (a4 : SlV h filK m.fils v4) (hnt : m.trks.length ≤ 140737488351232)
    {id : Int} {i : Nat} {x : Trk} (hi : findT m.trks id = (i : Int)) (hx : m.trks[i]? = some x) (hb : byB x.setup) (hl : x.smps.length ≤ 1000) (hd : ∀ s ∈ x.smps, byB s.data) :
    ACalls Try.prog 25 [.agg #[.int .i64 m.scale, .string m.title, v1, v2, v3, v4], .int .i64 id] h fun u h' => RdrP h' m x v1 v2 v3 v4 u ∧ Fm No h h' := by
  refine code_newReader_ok.snd hm rfl fun w => ?_
  rw [WF_eq, code_newReader]
  obtain ⟨ta, tc, rfl⟩ := a1.val
  obtain ⟨da, dc, rfl⟩ := a2.val
  obtain ⟨ga, gc, rfl⟩ := a3.val
  obtain ⟨fa, fc, rfl⟩ := a4.val
  obtain ⟨hB, eB⟩ : ∃ g, h.new ⟨[.int .i64 m.scale, .string m.title, .slice ta m.trks.length tc, .slice da m.edns.length dc, .slice ga m.tags.length gc, .slice fa m.fils.length fc], .own⟩ = g := ⟨_, rfl⟩
  have sB : hB.size = h.size + 1 := by rw [← eB]; rfl
  have wB : Wf hB := eB ▸ w.new
  have f0 : Fm No h hB := eB ▸ Fm.new Fm.refl
  have gB : hB.get h.size = some ⟨[.int .i64 m.scale, .string m.title, .slice ta m.trks.length tc, .slice da m.edns.length dc, .slice ga m.tags.length gc, .slice fa m.fils.length fc], .own⟩ := eB ▸ gnew
  have rds : ∀ g, Fm No hB g → g.rd h.size 2 = some (.slice ta m.trks.length tc) ∧ g.rdN h.size 0 6 = some [.int .i64 m.scale, .string m.title, .slice ta m.trks.length tc, .slice da m.edns.length dc, .slice ga m.tags.length gc, .slice fa m.fils.length fc] := fun g fg => by
    have k := fg.keep wB gB (fun f => f)
    exact ⟨rd_mk k, by rw [rdN_mk k (Nat.le_refl 6)]; rfl⟩
  have u := rds hB Fm.refl
  simp +contextual (disch := omega) only [↓AM, ↓AV, AP, CQ, eB, u]
  refine (c_find (id := id) (a1.keep w f0) (a2.keep w f0) (a3.keep w f0) (a4.keep w f0) hnt).use ?_
  rintro _ h1 w1 ⟨rfl, f1⟩
  have f01 := f0.trans f1 fun _ _ f => f
  rw [hi]
  have hil := (List.getElem?_eq_some_iff.1 hx).1
  obtain ⟨b1, o1, s1, y, yc, rfl, g1, hy, hya, hyr⟩ := (a1.keep w f01).el hil
  rw [hx] at hy
  cases hy
  obtain ⟨xv, xe, xr, xs, rfl, x1, x2, x3, x4⟩ := trk_open hya
  obtain ⟨va, vc, rfl⟩ := x1.val
  obtain ⟨ea, ec, rfl⟩ := x2.val
  obtain ⟨ra, rc, rfl⟩ := x3.val
  obtain ⟨sa, sc, rfl⟩ := x4.val
  have hyr : h1.rdN b1 (o1 + i * 11) 11 = some [.int .i64 x.id, .int .i64 x.kind, .string x.codec, .int .i64 x.scale, .slice va x.setup.length vc, .string x.lang, .string x.name, .int .i64 x.pre, .slice ea x.edits.length ec, .slice ra x.refs.length rc, .slice sa x.smps.length sc] := hyr
  obtain ⟨hC, eC⟩ : ∃ g, h1.new ⟨[.int .i64 x.id, .int .i64 x.kind, .string x.codec, .int .i64 x.scale, .slice va x.setup.length vc, .string x.lang, .string x.name, .int .i64 x.pre, .slice ea x.edits.length ec, .slice ra x.refs.length rc, .slice sa x.smps.length sc], .own⟩ = g := ⟨_, rfl⟩
  have wC : Wf hC := eC ▸ w1.new
  have fC : Fm No h1 hC := eC ▸ Fm.new Fm.refl
  have gC : hC.get h1.size = some ⟨[.int .i64 x.id, .int .i64 x.kind, .string x.codec, .int .i64 x.scale, .slice va x.setup.length vc, .string x.lang, .string x.name, .int .i64 x.pre, .slice ea x.edits.length ec, .slice ra x.refs.length rc, .slice sa x.smps.length sc], .own⟩ := eC ▸ gnew
  have fBC := f1.trans fC fun _ _ f => f
  have f0C := f0.trans fBC fun _ _ f => f
  have u11 : ∀ g, Fm No hC g → g.rdN h1.size 0 11 = some [.int .i64 x.id, .int .i64 x.kind, .string x.codec, .int .i64 x.scale, .slice va x.setup.length vc, .string x.lang, .string x.name, .int .i64 x.pre, .slice ea x.edits.length ec, .slice ra x.refs.length rc, .slice sa x.smps.length sc] := fun g fg => by rw [rdN_mk (fg.keep wC gC (fun f => f)) (Nat.le_refl 11)]; rfl
  have u := rds h1 f1
  have u1 := u11 hC Fm.refl
  simp +contextual (disch := omega) only [↓AM, ↓AV, AP, CQ, eB, eC, u, u1, g1, hil, hyr]
  refine (c_Rate (x1.keep w1 fC) (x2.keep w1 fC) (x3.keep w1 fC) (x4.keep w1 fC) hb).use ?_
  rintro _ h2 w2 ⟨rfl, f2⟩
  have f02 := f0C.trans f2 fun _ _ f => f
  obtain ⟨F, hF⟩ : ∃ F, (rateF x).1 = F := ⟨_, rfl⟩
  obtain ⟨D, hD⟩ : ∃ D, (rateF x).2 = D := ⟨_, rfl⟩
  rw [hF, hD]
  obtain ⟨hE, eE⟩ : ∃ g, h2.new ⟨[.int .i64 F, .bool D], .own⟩ = g := ⟨_, rfl⟩
  have wE : Wf hE := eE ▸ w2.new
  have fE : Fm No h2 hE := eE ▸ Fm.new Fm.refl
  have gE : hE.get h2.size = some ⟨[.int .i64 F, .bool D], .own⟩ := eE ▸ gnew
  have fCE := f2.trans fE fun _ _ f => f
  have f0E := f0C.trans fCE fun _ _ f => f
  by_cases k1 : rateE x = 0
  case neg =>
    have e1 : EqI (rateE x) 0 = False := eq_false k1
    simp +contextual (disch := omega) only [↓AM, ↓AV, AP, CQ, eB, eC, eE, e1]
    refine ⟨?_, f0E⟩
    unfold RdrP
    rw [if_neg (by rw [numE_rate k1]; exact k1), numE_rate k1]
    exact ⟨_, rfl⟩
  have e1 : EqI (rateE x) 0 = True := eq_true k1
  have u1 := u11 hE fCE
  have f1E := fC.trans fCE fun _ _ f => f
  simp +contextual (disch := omega) only [↓AM, ↓AV, AP, CQ, eB, eC, eE, e1, u1]
  refine (c_Numbers (x1.keep w1 f1E) (x2.keep w1 f1E) (x3.keep w1 f1E) (x4.keep w1 f1E) hb hl hd).use ?_
  rintro uu h3 w3 ⟨np, f3⟩
  obtain ⟨nv, rfl, ⟨oz, nz, cz, rfl⟩, np⟩ := np.get
  have f03 := f0E.trans f3 fun _ _ f => f
  by_cases k2 : numE x = 0
  case neg =>
    have e2 : EqI (numE x) 0 = False := eq_false k2
    simp +contextual (disch := omega) only [↓AM, ↓AV, AP, CQ, eB, eC, eE, e2]
    refine ⟨?_, f03⟩
    unfold RdrP
    rw [if_neg k2]
    exact ⟨_, rfl⟩
  obtain ⟨oa, c, q, rn⟩ := np k2
  cases q
  have e2 : EqI (numE x) 0 = True := eq_true k2
  have fC3 := fCE.trans f3 fun _ _ f => f
  have u1 := u11 h3 fC3
  have u := rds h3 (fBC.trans fC3 fun _ _ f => f)
  have uE : h3.rdN h2.size 0 2 = some [.int .i64 F, .bool D] := rdN_mk (f3.keep wE gE (fun f => f)) (Nat.le_refl 2)
  simp +contextual (disch := omega) only [↓AM, ↓AV, AP, CQ, eB, eC, eE, e2, u1, u, uE]
  have fN : Fm No h3 (h3.new ⟨RdrC m x (.slice (some ⟨b1, o1, s1⟩) m.trks.length tc) (.slice da m.edns.length dc) (.slice ga m.tags.length gc) (.slice fa m.fils.length fc) (.slice va x.setup.length vc) (.slice ea x.edits.length ec) (.slice ra x.refs.length rc) (.slice sa x.smps.length sc) (.slice oz (numL x).length cz), .own⟩) := Fm.new Fm.refl
  have f1N := ((fC.trans fC3 fun _ _ f => f).trans fN fun _ _ f => f)
  subst hF hD
  refine ⟨?_, f03.trans fN fun _ _ f => f⟩
  unfold RdrP
  rw [if_pos k2]
  exact ⟨h3.size, _, _, _, _, oz, cz, rfl, gnew, x1.keep w1 f1N, x2.keep w1 f1N, x3.keep w1 f1N, x4.keep w1 f1N, rn.keep w3 fN (fun _ _ f => f)⟩
end Go.Proofs.Ytbfbgkhlngkifaa.Mv

/- The sample at a tick: the program's reader. Plain theorems over the abstract machine.
   Conditions: none. -/
namespace Go.Proofs.Ytbfbgkhlngkifaa.Mv
open Go Go.RowKit Go.Proofs.Ytbfbgkhlngkifaa.Am Go.Proofs.Ytbfbgkhlngkifaa.Af Go.Proofs.Ytbfbgkhlngkifaa.Md Go.Proofs.Ytbfbgkhlngkifaa.Nu
set_option linter.unusedVariables false
set_option linter.unusedSimpArgs false
set_option linter.defProp false
set_option maxRecDepth 20000
set_option maxHeartbeats 4000000

theorem hit_tick {n d : Nat} (hd : 0 < d) {z sc : Int} (hz : z * sc = (n : Int)) (s : Smp) : hitS z d sc s ↔ s.pts ≤ ((n / d : Nat) : Int) ∧ ((n / d : Nat) : Int) < s.pts + s.dur := by
  unfold hitS
  rw [hz]
  have e : ((n / d : Nat) : Int) = (n : Int) / (d : Int) := rfl
  rw [e]
  constructor
  · rintro ⟨h1, h2⟩
    exact ⟨(Int.le_ediv_iff_mul_le (by omega)).2 h1, Int.ediv_lt_of_lt_mul (by omega) h2⟩
  · rintro ⟨h1, h2⟩
    exact ⟨(Int.le_ediv_iff_mul_le (by omega)).1 h1, Int.lt_mul_of_ediv_lt (by omega) h2⟩
theorem c_sample {h : Hp} {m : Mov} {x : Trk} {v1 v2 v3 v4 v e r s nn : Value} {b : Nat} (g : h.get b = some ⟨RdrC m x v1 v2 v3 v4 v e r s nn, .own⟩) (a11 : SlV h smpK x.smps s) (hl : x.smps.length ≤ 1000) (hS : ∀ s ∈ x.smps, SmpS s)
    {bt n d : Nat} (na : NatAt h bt 0 (n / d)) (hd : 0 < d) (hn : ((n / d : Nat) : Int) ≤ 9223372036854775807) {z : Int} (hz : z * x.scale = (n : Int)) :
    ACalls Try.prog 62 [.pointer (some ⟨b, 0, none⟩), .pointer (some ⟨bt, 0, none⟩)] h fun u h' => u = .int .i64 (bstI z d x.scale x.smps x.smps.length) ∧ Fm No h h' := by
  refine code_reader__sample_ok.snd hm rfl fun w => ?_
  rw [WF_eq, code_reader__sample]
  obtain ⟨sa, sc, rfl⟩ := a11.val
  have T := fun s => hit_tick (z := z) (sc := x.scale) hd hz s
  obtain ⟨q, hq⟩ : ∃ q : Nat, n / d = q := ⟨_, rfl⟩
  rw [hq] at na hn
  simp only [hq] at T
  have hlen : (dg ((q : Nat) : Int).natAbs).length ≤ 100000 := Nat.le_trans (dg_len (k := 2) (Nat.lt_of_lt_of_le (show ((q : Nat) : Int).natAbs < 18446744073709551616 by omega) (by decide))) (by decide)
  simp +contextual (disch := omega) only [↓AM, ↓AV, AP, CQ]
  refine (c_IsInt64 na.int hlen).use ?_
  rintro _ h9 w9 ⟨rfl, e9⟩
  subst h9
  have e1 : (-9223372036854775808 ≤ (q : Int) ∧ (q : Int) ≤ 9223372036854775807) := by omega
  simp +contextual (disch := omega) only [↓AM, ↓AV, AP, CQ, e1]
  refine (c_Int64G na.int (by omega)).use ?_
  rintro _ h9 w9' ⟨rfl, e9⟩
  subst h9
  have rds : ∀ g', Fm No h g' → g'.rd b 16 = some (.slice sa x.smps.length sc) := fun g' fg => rd_mk (fg.keep w g (fun f => f))
  have u := rds h Fm.refl
  simp +contextual (disch := omega) only [↓AM, ↓AV, AP, CQ, u]
  refine WL.mk (fun k t' h' => ∃ (j : Nat), Wf h' ∧ Fm No h h' ∧ j ≤ x.smps.length ∧ k = x.smps.length - j ∧
      t' = [(0, some (.pointer (some ⟨b, 0, none⟩))), (5, some (.int .i64 (bstI z d x.scale x.smps j))), (6, some (.int .i64 (q : Int))), (19, some (.slice sa x.smps.length sc)), (20, some (.int .i64 (x.smps.length : Int))), (21, some (.int .i64 (j : Int)))])
    ⟨x.smps.length, 0, w, Fm.refl, by omega, rfl, rfl⟩ ?_
  rintro k t' h1 ⟨j, w1, f1, hj, rfl, rfl⟩
  by_cases hjn : j < x.smps.length
  case neg =>
    have : j = x.smps.length := by omega
    subst this
    simp +contextual (disch := omega) only [↓AM, ↓AV, AP, CQ, hjn]
    exact f1
  obtain ⟨b1, o1, s1, y, yc, rfl, g1, hy, hya, hyr⟩ := (a11.keep w f1).el hjn
  obtain ⟨dv, wv, rfl, y1, y2⟩ := smp_open hya
  obtain ⟨da, dc, rfl⟩ := y1.val
  obtain ⟨wa, wc, rfl⟩ := y2.val
  have hyr : h1.rdN b1 (o1 + j * 6) 6 = some [.int .i64 y.dts, .int .i64 y.pts, .int .i64 y.dur, .bool y.sync, .slice da y.deps.length dc, .slice wa y.data.length wc] := hyr
  obtain ⟨ys1, ys2⟩ := hS y (List.mem_of_getElem? hy)
  obtain ⟨h2, e2⟩ : ∃ g, h1.new ⟨[.int .i64 y.dts, .int .i64 y.pts, .int .i64 y.dur, .bool y.sync, .slice da y.deps.length dc, .slice wa y.data.length wc], .own⟩ = g := ⟨_, rfl⟩
  have w2 : Wf h2 := e2 ▸ w1.new
  have f2 : Fm No h1 h2 := e2 ▸ Fm.new Fm.refl
  have g2 : h2.get h1.size = some ⟨[.int .i64 y.dts, .int .i64 y.pts, .int .i64 y.dur, .bool y.sync, .slice da y.deps.length dc, .slice wa y.data.length wc], .own⟩ := e2 ▸ gnew
  have p1 : h2.rd h1.size 1 = some (.int .i64 y.pts) := rd_mk g2
  have p2 : h2.rd h1.size 2 = some (.int .i64 y.dur) := rd_mk g2
  have f02 := f1.trans f2 fun _ _ f => f
  obtain ⟨bb1, bb2⟩ := bstI_b z d x.scale x.smps j hj
  have hst := bstI_step (z := z) (d := d) (sc := x.scale) hy
  have u := rds h2 f02
  generalize hb : bstI z d x.scale x.smps j = best at *
  by_cases k1 : y.pts ≤ (q : Int)
  case neg =>
    simp +contextual (disch := omega) only [↓AM, ↓AV, AP, CQ, hjn, g1, hyr, e2, p1, p2, k1, i64]
    refine ⟨x.smps.length - (j + 1), by omega, j + 1, w2, f02, by omega, rfl, ?_⟩
    rw [hst, if_neg (fun q => k1 ((T y).1 q.1).1)]
  by_cases k2 : (q : Int) < y.pts + y.dur
  case neg =>
    simp +contextual (disch := omega) only [↓AM, ↓AV, AP, CQ, hjn, g1, hyr, e2, p1, p2, k1, k2, i64]
    refine ⟨x.smps.length - (j + 1), by omega, j + 1, w2, f02, by omega, rfl, ?_⟩
    rw [hst, if_neg (fun q => k2 ((T y).1 q.1).2)]
  by_cases k3 : best < 0
  · simp +contextual (disch := omega) only [↓AM, ↓AV, AP, CQ, hjn, g1, hyr, e2, p1, p2, k1, k2, k3, i64]
    refine ⟨x.smps.length - (j + 1), by omega, j + 1, w2, f02, by omega, rfl, ?_⟩
    rw [hst, if_pos ⟨(T y).2 ⟨k1, k2⟩, .inl k3⟩]
  obtain ⟨n7, rfl⟩ : ∃ n : Nat, best = (n : Int) := ⟨best.toNat, by omega⟩
  obtain ⟨b7, o7, s7, y7, yc7, q7, g7, hy7, hya7, hyr7⟩ := (a11.keep w f02).el (i := n7) (by omega)
  cases q7
  obtain ⟨dv7, wv7, rfl, -, -⟩ := smp_open hya7
  have r7 := rdN_get (i := 1) (v := .int .i64 y7.pts) hyr7 rfl
  have r7 : h2.rd b1 (o1 + n7 * 6 + 1) = some (.int .i64 y7.pts) := r7
  have hpt : ptsAt x.smps (n7 : Int) = y7.pts := by unfold ptsAt; rw [show ((n7 : Nat) : Int).toNat = n7 from rfl, hy7]; rfl
  have hnl : n7 < x.smps.length := by omega
  have hng : ¬ ((n7 : Int) < 0) := by omega
  by_cases k4 : y7.pts ≤ y.pts
  · simp +contextual (disch := omega) only [↓AM, ↓AV, AP, CQ, hjn, g1, hyr, e2, p1, p2, k1, k2, i64, hng, u, hnl, r7, k4]
    refine ⟨x.smps.length - (j + 1), by omega, j + 1, w2, f02, by omega, rfl, ?_⟩
    rw [hst, if_pos ⟨(T y).2 ⟨k1, k2⟩, .inr (by omega)⟩]
  · simp +contextual (disch := omega) only [↓AM, ↓AV, AP, CQ, hjn, g1, hyr, e2, p1, p2, k1, k2, i64, hng, u, hnl, r7, k4]
    refine ⟨x.smps.length - (j + 1), by omega, j + 1, w2, f02, by omega, rfl, ?_⟩
    rw [hst, if_neg (fun q => by rcases q.2 with q | q <;> omega)]
end Go.Proofs.Ytbfbgkhlngkifaa.Mv

/- The number at a movie time, where a track has no edits: the program's reader. Plain theorems over the abstract machine.
   Conditions: none. -/
namespace Go.Proofs.Ytbfbgkhlngkifaa.Mv
open Go Go.RowKit Go.Proofs.Ytbfbgkhlngkifaa.Am Go.Proofs.Ytbfbgkhlngkifaa.Af Go.Proofs.Ytbfbgkhlngkifaa.Md Go.Proofs.Ytbfbgkhlngkifaa.Nu
set_option linter.unusedVariables false
set_option linter.unusedSimpArgs false
set_option linter.defProp false
set_option maxRecDepth 20000
set_option maxHeartbeats 4000000

theorem c_DenomI {h : Hp} {b q : Nat} (r : NatAt h b 2 q) (hq : 0 < q) :
    ACalls Try.prog 59 [.pointer (some ⟨b, 0, none⟩)] h fun r h' => r = .pointer (some ⟨b, 2, none⟩) ∧ h' = h := by
  refine num_Rat__Denom_ok.snd hm rfl fun w => ?_
  rw [WF_eq, num_Rat__Denom]
  simp +contextual (disch := omega) only [↓AM, ↓AV, AP, CQ]
  refine (c_downI r hq).use ?_
  rintro _ _ w1 ⟨rfl, rfl⟩
  simp +contextual (disch := omega) only [↓AM, ↓AV, AP, CQ]
theorem c_rateQ {h : Hp} {F : Nat} {D : Bool} (hF : 1 ≤ F ∧ F ≤ 60) :
    ACalls Try.prog 65 [rateV (F : Int) D] h fun r h' => ∃ b, r = .pointer (some ⟨b, 0, none⟩) ∧ h.size ≤ b ∧ Rq h' b ((upN F D : Nat) : Int) (dnN D) ∧ Fm No h h' := by
  refine (c_rate hF).mono ?_
  rintro r h' ⟨b, h1, h2, h3, h4⟩
  refine ⟨b, h1, h2, ⟨by unfold dnN; split <;> omega, ?_⟩, h4⟩
  have e1 : lwN ((upN F D : Nat) : Int) (dnN D) = ((upN F D / rtG F D : Nat) : Int) := by unfold lwN rtG; rw [nabs]; rfl
  have e2 : lwD ((upN F D : Nat) : Int) (dnN D) = dnN D / rtG F D := by unfold lwD rtG; rw [nabs]
  rw [e1, e2]
  exact ⟨h3.1.int, h3.2⟩
theorem c_cratio1 {h : Hp} {z : Int} (hz : -9223372036854775808 ≤ z ∧ z ≤ 9223372036854775807) :
    ACalls Try.prog 27 [.int .i64 z, .int .i64 1] h fun r h' => ∃ b, r = .pointer (some ⟨b, 0, none⟩) ∧ h.size ≤ b ∧ Rq h' b z 1 ∧ Fm No h h' := c_cratio (d := 1) hz (by decide) (by decide)
theorem c_rmedia0 {h : Hp} {m : Mov} {x : Trk} {v1 v2 v3 v4 v r s nn : Value} {b : Nat} {oe : Option Addr} {ce : Nat} (g : h.get b = some ⟨RdrC m x v1 v2 v3 v4 v (.slice oe 0 ce) r s nn, .own⟩) {bt d : Nat} {z : Int} (q : Rq h bt z d) (hz : 0 ≤ z) :
    ACalls Try.prog 55 [.pointer (some ⟨b, 0, none⟩), .pointer (some ⟨bt, 0, none⟩)] h fun u h' => u = .tuple #[.pointer (some ⟨bt, 0, none⟩), .bool true] ∧ h' = h := by
  refine code_reader__media_ok.snd hm rfl fun w => ?_
  rw [WF_eq, code_reader__media]
  have u : h.rd b 14 = some (.slice oe 0 ce) := rd_mk g
  have e0 : EqI ((0 : Nat) : Int) 0 = True := eq_true rfl
  simp +contextual (disch := omega) only [↓AM, ↓AV, AP, CQ, u, e0]
  refine (c_RSign q).use ?_
  rintro _ _ w1 ⟨rfl, rfl⟩
  have e1 : (0 ≤ sgnZ z) = True := eq_true (sgn_ge.2 hz)
  simp +contextual (disch := omega) only [↓AM, ↓AV, AP, CQ, u, e0, e1]
theorem cmp_le0 {a b : Int} (h : a ≤ b) : (0 < cmpZ a b) = False := eq_false (fun q => by have := cmp_gt.1 q; omega)
theorem cmpN_le0 {a b : Nat} (h : a ≤ b) : (0 < cmpN a b) = False := eq_false (fun q => by unfold cmpN at q; split at q <;> (try split at q) <;> omega)
theorem c_at0 {h : Hp} {m : Mov} {x : Trk} {v1 v2 v3 v4 v r s : Value} {b : Nat} {oe oz : Option Addr} {ce cz : Nat} (g : h.get b = some ⟨RdrC m x v1 v2 v3 v4 v (.slice oe 0 ce) r s (.slice oz (numL x).length cz), .own⟩)
    (a11 : SlV h smpK x.smps s) (rn : Rd h 1 oz (numL x).length (iV (numL x))) (hl : x.smps.length ≤ 1000) (hS : ∀ s ∈ x.smps, SmpS s)
    {F : Nat} (hF : (rateF x).1 = (F : Int)) (hF2 : 1 ≤ F ∧ F ≤ 60) {sc : Nat} (hsc : x.scale = (sc : Int)) (hsc2 : 1 ≤ sc ∧ sc ≤ 1000)
    {bt z d : Nat} (q : Rq h bt (z : Int) d) (hz : z ≤ 1000000) (hd : d ≤ 1000)
    {k : Nat} (hk : bstI (z : Int) d x.scale x.smps x.smps.length = (k : Int)) {y : Smp} (hy : x.smps[k]? = some y) {nm : Int} (hnm : (numL x)[k]? = some nm) (hnb : 0 ≤ nm ∧ nm ≤ 100000000)
    {N : Nat} (hN : ((z : Int) * sc - y.pts * d) * (upN F (rateF x).2 : Nat) + nm * ((d * sc * dnN (rateF x).2 : Nat) : Int) = (N : Int)) (hN2 : N < B32 ^ 4) :
    ACalls Try.prog 26 [.pointer (some ⟨b, 0, none⟩), .pointer (some ⟨bt, 0, none⟩)] h fun u h' =>
      u = .tuple #[.int .i64 (((N / (d * sc * dnN (rateF x).2) : Nat) : Int) % (144 * (600 * (F : Int) - 9 * missN F (rateF x).2))), .bool true, .int .i64 0] ∧ Fm No h h' := by
  refine code_reader__at_ok.snd hm rfl fun w => ?_
  rw [WF_eq, code_reader__at]
  have hd0 := q.1
  have hb := w.lt g
  have hpt := (hS y (List.mem_of_getElem? hy)).p
  have hds : d * sc ≤ 1000000 := Nat.mul_le_mul hd hsc2.2
  obtain ⟨sa, sac, rfl⟩ := a11.val
  simp +contextual (disch := omega) only [↓AM, ↓AV, AP, CQ]
  refine (c_rmedia0 g q (by omega)).use ?_
  rintro _ h9 w9 ⟨rfl, e9⟩
  subst h9
  simp +contextual (disch := omega) only [↓AM, ↓AV, AP, CQ]
  refine (c_newI (v := 1152921504606846976) (by decide)).use ?_
  rintro _ h1 w1 ⟨bb, rfl, hbb, nb, f1⟩
  have q1 := q.keep w f1
  simp +contextual (disch := omega) only [↓AM, ↓AV, AP, CQ]
  refine c_Num.use ?_
  rintro _ h9 w9' ⟨rfl, e9⟩
  subst h9
  simp +contextual (disch := omega) only [↓AM, ↓AV, AP, CQ]
  have ln := lw_leN (z := (z : Int)) hd0
  have lD := lw_leD (z := (z : Int)) (d := d)
  have lp := lw_pos (z := (z : Int)) hd0
  rw [nabs] at ln
  have len2 : ∀ n : Nat, n < 18446744073709551616 → (dg n).length ≤ 1000000 := fun n hn => Nat.le_trans (dg_len (k := 2) (Nat.lt_of_lt_of_le hn (by decide))) (by decide)
  refine (c_CmpAbs q1.2.1 nb.int (len2 _ (by omega)) (len2 _ (by decide))).use ?_
  rintro _ h9 w9'' ⟨rfl, e9⟩
  subst h9
  have e1 : (0 < cmpN (lwN (z : Int) d).natAbs ((1152921504606846976 : Nat) : Int).natAbs) = False := cmpN_le0 (by omega)
  simp +contextual (disch := omega) only [↓AM, ↓AV, AP, CQ, e1]
  refine (c_DenomI q1.2.2 lp).use ?_
  rintro _ h9 w93 ⟨rfl, e9⟩
  subst h9
  simp +contextual (disch := omega) only [↓AM, ↓AV, AP, CQ, e1]
  refine (c_CmpS q1.2.2.int nb.int (len2 _ (by omega)) (len2 _ (by decide))).use ?_
  rintro _ h9 w94 ⟨rfl, e9⟩
  subst h9
  have e2 : (0 < cmpZ ((lwD (z : Int) d : Nat) : Int) ((1152921504606846976 : Nat) : Int)) = False := cmp_le0 (by omega)
  obtain ⟨hA, eA⟩ : ∃ g, h1.new ⟨[.bool false, .slice none 0 0, .bool false, .slice none 0 0], .own⟩ = g := ⟨_, rfl⟩
  have wA : Wf hA := eA ▸ w1.new
  have fA : Fm No h1 hA := eA ▸ Fm.new Fm.refl
  have xA : XAt hA h1.size 2 := eA ▸ x_new4
  have f0A := f1.trans fA fun _ _ f => f
  have gk : ∀ g', Fm (fun y => y = h1.size) hA g' → g'.get b = some ⟨RdrC m x v1 v2 v3 v4 v (.slice oe 0 ce) r (.slice sa x.smps.length sac) (.slice oz (numL x).length cz), .own⟩ := fun g' fg =>
    fg.keep wA (f0A.keep w g (fun f => f)) (fun e => by have e : b = h1.size := e; have := f1.size; omega)
  have u3 : hA.rd b 9 = some (.int .i64 (sc : Int)) := by have := rd_mk (gk hA Fm.refl) (i := 9); rw [this]; show some (Value.int .i64 x.scale) = _; rw [hsc]
  simp +contextual (disch := omega) only [↓AM, ↓AV, AP, CQ, e1, e2, eA, u3]
  refine (c_cratio1 (z := (sc : Int)) (by omega)).use ?_
  rintro _ h2 w2 ⟨b2, rfl, hb2, q2, f2⟩
  have f0_2 := f0A.trans f2 fun _ _ f => f
  simp +contextual (disch := omega) only [↓AM, ↓AV, AP, CQ, eA]
  have small : ∀ {a : Int}, -9223372036854775808 ≤ a ∧ a ≤ 9223372036854775807 → a.natAbs < Lim := fun h => li_small h
  have smallN : ∀ {a : Nat}, a ≤ 9223372036854775807 → a < Lim := fun {a} h => by have := li_small (z := (a : Int)) (by omega); rwa [nabs] at this
  refine (c_RMul (xA.keep wA f2) (q.keep w f0_2) q2 (small (by omega)) (smallN (by omega)) (small (by omega)) lim1).use ?_
  rintro _ h3 w3 ⟨rfl, wr3, q3⟩
  have q3 := q3.eq (z' := (((z * sc : Nat)) : Int)) (d' := d) hd0 (by rw [Nat.mul_one, Int.natCast_mul])
  have fA3 : Fm (fun y => y = h1.size) hA h3 := (f2.mono fun _ _ f => f.elim).trans wr3.fm fun _ _ f => f
  have cut : ∀ g', Fm (fun y => y = h1.size) hA g' → Fm No h g' := fun g' fg => f0A.trans fg fun y hy e => by have e : y = h1.size := e; have := f1.size; omega
  have f03 := cut _ fA3
  have hzs : z * sc ≤ 1000000000 := Nat.mul_le_mul hz hsc2.2
  simp +contextual (disch := omega) only [↓AM, ↓AV, AP, CQ, eA]
  refine (c_cdownG q3 (Nat.lt_of_le_of_lt hzs (by decide)) (by omega)).use ?_
  rintro _ h4 w4 ⟨b4, rfl, hb4, n4, f4⟩
  have fA4 := fA3.trans f4 fun _ _ f => f.elim
  have f04 := cut _ fA4
  have hq9 : z * sc / d ≤ 1000000000 := Nat.le_trans (Nat.div_le_self _ _) hzs
  simp +contextual (disch := omega) only [↓AM, ↓AV, AP, CQ, eA]
  refine (c_sample (gk _ fA4) (a11.keep w f04) hl hS n4 hd0 (by omega) (z := (z : Int)) (by rw [hsc, Int.natCast_mul])).use ?_
  rintro _ h5 w5 ⟨rfl, f5⟩
  have fA5 := fA4.trans f5 fun _ _ f => f.elim
  have f05 := cut _ fA5
  rw [hk]
  have hkn : ¬ ((k : Int) < 0) := by omega
  have q35 := (q3.keep w3 f4).keep w4 f5
  have hkl := (List.getElem?_eq_some_iff.1 hy).1
  have g5 := gk _ fA5
  have u3 : h5.rd b 9 = some (.int .i64 (sc : Int)) := by rw [rd_mk g5 (i := 9)]; show some (Value.int .i64 x.scale) = _; rw [hsc]
  have u16 : h5.rd b 16 = some (.slice sa x.smps.length sac) := rd_mk g5
  obtain ⟨b7, o7, s7, y7, yc7, rfl, g7, hy7, hya7, hyr7⟩ := (a11.keep w f05).el hkl
  rw [hy] at hy7
  cases hy7
  obtain ⟨dv7, wv7, rfl, -, -⟩ := smp_open hya7
  have r7 := rdN_get (i := 1) (v := .int .i64 y.pts) hyr7 rfl
  have r7 : h5.rd b7 (o7 + k * 6 + 1) = some (.int .i64 y.pts) := r7
  simp +contextual (disch := omega) only [↓AM, ↓AV, AP, CQ, eA, hkn, u3, u16, g7, hkl, r7]
  refine (c_cratio (z := y.pts) (d := sc) (by omega) (by omega) (by omega)).use ?_
  rintro _ h6 w6 ⟨b6, rfl, hb6, q6, f6⟩
  have fA6 := fA5.trans f6 fun _ _ f => f.elim
  have f06 := cut _ fA6
  simp +contextual (disch := omega) only [↓AM, ↓AV, AP, CQ, eA, hkn, u3, u16, g7, hkl, r7]
  have xa6 : XAt h6 h1.size 2 := q35.x.keep w5 f6
  have hdn : 1 ≤ dnN (rateF x).2 ∧ dnN (rateF x).2 ≤ 1001 := by unfold dnN; split <;> omega
  have hup : upN F (rateF x).2 ≤ 60000 := by unfold upN; split <;> omega
  have hds2 : d * sc * dnN (rateF x).2 ≤ 1001000000 := Nat.mul_le_mul hds hdn.2
  refine (c_RSub xa6 (q.keep w f06) q6 (small (by omega)) (smallN (by omega)) (small (by omega)) (smallN (by omega))).use ?_
  rintro _ h7 w7 ⟨rfl, wr7, q7⟩
  have fA7 := fA6.trans wr7.fm fun _ _ f => f
  have f07 := cut _ fA7
  have g7 := gk _ fA7
  have u17 : h7.rdN b 17 2 = some [.int .i64 (F : Int), .bool (rateF x).2] := by rw [rdN_mk g7 (show 17 + 2 ≤ 20 by decide)]; show some [Value.int .i64 (rateF x).1, .bool (rateF x).2] = _; rw [hF]
  simp +contextual (disch := omega) only [↓AM, ↓AV, AP, CQ, u17]
  refine (c_rateQ (F := F) (D := (rateF x).2) hF2).use ?_
  rintro _ h8 w8 ⟨b8, rfl, hb8, q8, f8⟩
  have fA8 := fA7.trans f8 fun _ _ f => f.elim
  simp +contextual (disch := omega) only [↓AM, ↓AV, AP, CQ, u17]
  have q7k := q7.keep w7 f8
  have bpd : -1099511627776000 ≤ y.pts * (d : Int) ∧ y.pts * (d : Int) ≤ 1099511627776000 := by
    have h1 : (-1099511627776) * (d : Int) ≤ y.pts * (d : Int) := Int.mul_le_mul_of_nonneg_right hpt.1 (by omega)
    have h2 : y.pts * (d : Int) ≤ 1099511627776 * (d : Int) := Int.mul_le_mul_of_nonneg_right hpt.2 (by omega)
    omega
  have bzs : 0 ≤ (z : Int) * (sc : Int) ∧ (z : Int) * (sc : Int) ≤ 1000000000 := by
    rw [← Int.natCast_mul]; omega
  refine (c_RMul q7k.x q7k q8 (small (by omega)) (smallN (by omega)) (small (by omega)) (smallN (by omega))).use ?_
  rintro _ h10 w10 ⟨rfl, wr10, q10⟩
  have fA10 := fA8.trans wr10.fm fun _ _ f => f
  have f010 := cut _ fA10
  have g10 := gk _ fA10
  have u19 : h10.rd b 19 = some (.slice oz (numL x).length cz) := rd_mk g10
  obtain ⟨b11, o11, s11, rfl, g11, nm', hnm', r11⟩ := Rd.int (rn.keep w f010 (fun _ _ f => f)) (i := k) (List.getElem?_eq_some_iff.1 hnm).1
  rw [hnm] at hnm'
  cases hnm'
  have hkn2 := (List.getElem?_eq_some_iff.1 hnm).1
  simp +contextual (disch := omega) only [↓AM, ↓AV, AP, CQ, u19, g11, hkn2, r11]
  refine (c_cratio1 (z := nm) (by omega)).use ?_
  rintro _ h12 w12 ⟨b12, rfl, hb12, q12, f12⟩
  have fA12 := fA10.trans f12 fun _ _ f => f.elim
  simp +contextual (disch := omega) only [↓AM, ↓AV, AP, CQ]
  have q10k := q10.keep w10 f12
  have bup : (((z : Int) * sc - y.pts * d) * (upN F (rateF x).2 : Nat)).natAbs < Lim := by
    rw [Int.natAbs_mul, nabs]
    have h1 : ((z : Int) * sc - y.pts * d).natAbs ≤ 2199023255552000 := by omega
    have h2 : ((z : Int) * sc - y.pts * d).natAbs * upN F (rateF x).2 ≤ 2199023255552000 * 60000 := Nat.mul_le_mul h1 hup
    exact Nat.lt_of_le_of_lt h2 (Nat.lt_of_lt_of_le (show 2199023255552000 * 60000 < B32 ^ 3 by decide) (Nat.pow_le_pow_right (by decide) (by decide)))
  refine (c_RAdd q10k.x q10k q12 bup (smallN (by omega)) (small (by omega)) lim1).use ?_
  rintro _ h13 w13 ⟨rfl, wr13, q13⟩
  have fA13 := fA12.trans wr13.fm fun _ _ f => f
  have f013 := cut _ fA13
  have q13 := q13.eq (z' := (N : Int)) (d' := d * sc * dnN (rateF x).2) (Nat.mul_pos (Nat.mul_pos hd0 (by omega)) (by omega)) (by
    rw [← hN, Nat.mul_one]
    congr 1
    rw [show (((1 : Nat) : Int)) = 1 from rfl, Int.mul_one])
  have g13 := gk _ fA13
  have u17 : h13.rdN b 17 2 = some [.int .i64 (F : Int), .bool (rateF x).2] := by rw [rdN_mk g13 (show 17 + 2 ≤ 20 by decide)]; show some [Value.int .i64 (rateF x).1, .bool (rateF x).2] = _; rw [hF]
  simp +contextual (disch := omega) only [↓AM, ↓AV, AP, CQ, u17]
  refine (c_cdownG q13 hN2 (by omega)).use ?_
  rintro _ h14 w14 ⟨b14, rfl, hb14, n14, f14⟩
  have u17 : h14.rdN b 17 2 = some [.int .i64 (F : Int), .bool (rateF x).2] := by rw [rdN_mk (f14.keep w13 g13 (fun f => f)) (show 17 + 2 ≤ 20 by decide)]; show some [Value.int .i64 (rateF x).1, .bool (rateF x).2] = _; rw [hF]
  simp +contextual (disch := omega) only [↓AM, ↓AV, AP, CQ, u17]
  refine ⟨⟨_, rfl, rfl⟩, ?_⟩
  refine (c_modulo (F := F) (D := (rateF x).2) hF2 n14 (Nat.lt_of_le_of_lt (Nat.div_le_self _ _) hN2)).use ?_
  rintro _ h15 w15 ⟨rfl, f15⟩
  simp +contextual (disch := omega) only [↓AM, ↓AV, AP, CQ]
  exact (f013.trans f14 fun _ _ f => f).trans f15 fun _ _ f => f
end Go.Proofs.Ytbfbgkhlngkifaa.Mv

/- The document's natural numbers in memory. Plain theorems over the abstract machine.
   Conditions: none. -/
namespace Go.Proofs.Ytbfbgkhlngkifaa.Nu
open Go Go.RowKit Go.Proofs.Ytbfbgkhlngkifaa.Am Go.Proofs.Ytbfbgkhlngkifaa.Af Go.Proofs.Ytbfbgkhlngkifaa.Md
set_option linter.unusedVariables false
set_option linter.unusedSimpArgs false
set_option linter.defProp false
set_option maxRecDepth 20000
set_option maxHeartbeats 1000000

abbrev B9 : Nat := 1000000000
theorem b9 : 1 < B9 := by decide
def dc (v : Nat) : List Nat := dig B9 b9 v
def i3 (M : List Nat) : List Value := (M.map Int.ofNat).map (Value.int .i64)
theorem i3_len (M : List Nat) : (i3 M).length = M.length := by simp [i3]
theorem i3_take (M : List Nat) (k : Nat) : (i3 M).take k = i3 (M.take k) := by simp [i3, List.map_take]
theorem i3_app (a b : List Nat) : i3 (a ++ b) = i3 a ++ i3 b := by simp [i3]
theorem _root_.Go.Proofs.Ytbfbgkhlngkifaa.Am.Rd.dec {h : Hp} {oa : Option Addr} {n : Nat} {M : List Nat} (r : Rd h 1 oa n (i3 M)) {i : Nat} (hi : i < n) :
    ∃ b off sp d, oa = some ⟨b, off, sp⟩ ∧ flagOk sp = true ∧ M[i]? = some d ∧ h.rd b (off + i) = some (.int .i64 (d : Int)) := by
  obtain ⟨b, off, sp, h1, h2, v, h3, h4⟩ := r.int hi
  rw [List.getElem?_map] at h3
  cases hm : M[i]? with
  | none => rw [hm] at h3; cases h3
  | some d => rw [hm] at h3; cases h3; exact ⟨b, off, sp, d, h1, h2, rfl, h4⟩
structure Dm (h : Hp) (oa : Option Addr) (n c : Nat) (M : List Nat) : Prop where
  rd : Rd h 1 oa n (i3 M)
  le : n ≤ c
  dl : Dl B9 M
theorem Dm.len {h : Hp} {oa : Option Addr} {n c : Nat} {M : List Nat} (l : Dm h oa n c M) : M.length = n := by
  have := l.rd.len; rw [i3_len] at this; omega
/-- A slice that is the digits of a number. -/
def DmV (h : Hp) (v : Value) (x : Nat) : Prop := ∃ oa c, v = .slice oa (dc x).length c ∧ Dm h oa (dc x).length c (dc x)
/-- The same, in blocks of a kind. -/
def DmW (S : Nat → Prop) (h : Hp) (v : Value) (x : Nat) : Prop := ∃ oa c, v = .slice oa (dc x).length c ∧ Dm h oa (dc x).length c (dc x) ∧ ∀ z, At oa z → S z
theorem DmW.v {S : Nat → Prop} {h : Hp} {v : Value} {x : Nat} (l : DmW S h v x) : DmV h v x := by
  obtain ⟨oa, c, e, l, _⟩ := l
  exact ⟨oa, c, e, l⟩
theorem DmV.keep {h h' : Hp} {v : Value} {x : Nat} (l : DmV h v x) (w : Wf h) (fm : Fm No h h') : DmV h' v x := by
  obtain ⟨oa, c, e, l⟩ := l
  exact ⟨oa, c, e, l.rd.keepW w fm nNo, l.le, l.dl⟩
theorem dc_dl (x : Nat) : Dl B9 (dc x) := dig_dl x
theorem dc_val (x : Nat) : vL B9 (dc x) = x := dig_val x
theorem dc_0 : dc 0 = [] := dig_0
theorem dc_S {x : Nat} (h : x ≠ 0) : dc x = x % 1000000000 :: dc (x / 1000000000) := dig_pos h
theorem dc_len {x k : Nat} (h : x < B9 ^ k) : (dc x).length ≤ k := by
  rcases Nat.lt_or_ge k (dc x).length with hk | hk
  · exfalso
    have h1 := vL_ge b9 (dig_nz (hB := b9) x) (by intro e; rw [show dc x = [] from e] at hk; simp at hk)
    rw [show vL B9 (dig B9 b9 x) = x from dc_val x] at h1
    have h2 : B9 ^ k ≤ B9 ^ ((dig B9 b9 x).length - 1) := Nat.pow_le_pow_right (by decide) (by show k ≤ (dc x).length - 1; omega)
    omega
  · exact hk
theorem tdivL (a : Nat) : (a : Int).tdiv 1000000000 = ((a / 1000000000 : Nat) : Int) := ntdiv a 1000000000
theorem tmodL (a : Nat) : (a : Int).tmod 1000000000 = ((a % 1000000000 : Nat) : Int) := ntmod a 1000000000
theorem nz9 : ((1000000000 : Int) = 0) = False := by simp
def CD := And.intro @tdivL <| And.intro @tmodL @nz9
theorem c_Of {h : Hp} {x : Nat} (hx : (x : Int) ≤ 9223372036854775807) :
    ACalls Try.prog 72 [.int .i64 (x : Int)] h fun v h' => DmW (fun z => h.size ≤ z) h' v x ∧ Fm No h h' := by
  refine dioramaref02_Of_ok.snd hm rfl fun w => ?_
  rw [WF_eq, dioramaref02_Of]
  simp +contextual (disch := omega) only [↓AM, ↓AV, AP, CQ]
  have hlen : (dc x).length ≤ 4 := dc_len (Nat.lt_of_lt_of_le (show x < 9223372036854775808 by omega) (by decide))
  refine WL.mk (fun m t h' => Wf h' ∧ Fm No h h' ∧ m ≤ x ∧ ∃ oa cap L, Nw h oa ∧ Ow h' 1 oa L.length cap (i3 L) ∧ dc x = L ++ dc m ∧ t = [(0, some (.int .i64 (m : Int))), (3, some (.slice oa L.length cap))])
    ⟨x, w, Fm.refl, Nat.le_refl _, none, 0, [], Nw.none, Ow.mk0, rfl, rfl⟩ ?_
  rintro m t h1 ⟨w1, fm, hmx, oa, cap, L, nw, ow, he, rfl⟩
  rcases Nat.eq_zero_or_pos m with rfl | h0
  · have e0 : ((0 : Int) < ((0 : Nat) : Int)) = False := by simp
    simp +contextual (disch := omega) only [↓AM, ↓AV, AP, CQ, e0]
    rw [dc_0, List.append_nil] at he
    subst he
    exact ⟨⟨_, _, rfl, ⟨ow.rd, ow.le, dc_dl _⟩, nw⟩, fm⟩
  · have e0 : ((0 : Int) < (m : Int)) = True := eq_true (by omega)
    have hL : L.length ≤ 4 := by have := congrArg List.length he; rw [List.length_append] at this; omega
    simp +contextual (disch := omega) only [↓AM, ↓AV, AP, CQ, CD, e0, i64]
    refine ow.push (m := 1) w1 rfl ?_ fun oa' cap' h2 o2 w2 f2 n2 => ?_
    · omega
    obtain ⟨g1, g2⟩ := grown fm nw f2 n2
    simp +contextual (disch := omega) only [↓AM, ↓AV, AP, CQ, CD, i64]
    refine ⟨m / 1000000000, by omega, w2, g1, by omega, oa', cap', L ++ [m % 1000000000], g2, ?_, ?_, by simp⟩
    · rw [i3_app, List.length_append]; exact o2
    · rw [he, dc_S (by omega)]; simp
theorem c_size {h : Hp} {x : Nat} (hx : (x : Int) ≤ 9223372036854775807) :
    ACalls Try.prog 71 [.int .i64 (x : Int)] h fun v h' => DmW (fun z => h.size ≤ z) h' v x ∧ Fm No h h' := by
  refine dioramaref02_size_ok.snd hm rfl fun w => ?_
  rw [WF_eq, dioramaref02_size]
  have e0 : ((x : Int) < 0) = False := by simp
  simp +contextual (disch := omega) only [↓AM, ↓AV, AP, CQ, e0]
  refine (c_Of hx).use ?_
  rintro v h1 w1 ⟨l, fm⟩
  simp +contextual (disch := omega) only [↓AM, ↓AV, AP, CQ]
  exact ⟨l, fm⟩
theorem c_digit {h : Hp} {oa : Option Addr} {n c i : Nat} {M : List Nat} (r : Rd h 1 oa n (i3 M)) (hn : n ≤ 1000000) :
    ACalls Try.prog 124 [.slice oa n c, .int .i64 (i : Int)] h fun v h' => v = .int .i64 ((M.getD i 0 : Nat) : Int) ∧ h' = h := by
  refine dioramaref02_digit_ok.snd hm rfl fun w => ?_
  rw [WF_eq, dioramaref02_digit]
  have hl := r.len
  rw [i3_len] at hl
  by_cases hi : i < n
  · obtain ⟨b1, o1, s1, d, rfl, f1, hd, r1⟩ := r.dec hi
    simp +contextual (disch := omega) only [↓AM, ↓AV, AP, CQ, hi, f1, r1]
    rw [List.getD_eq_getElem?_getD, hd]; rfl
  · simp +contextual (disch := omega) only [↓AM, ↓AV, AP, CQ, hi]
    rw [List.getD_eq_getElem?_getD, List.getElem?_eq_none (by omega)]; rfl
theorem nz_takeR {B : Nat} {M : List Nat} {k d : Nat} (h : M[k]? = some d) (hd : d ≠ 0) : Nz (M.take (k + 1)) := by
  unfold Nz
  rw [List.take_add_one, h]
  simp [hd]
theorem _root_.Go.Proofs.Ytbfbgkhlngkifaa.Am.Rd.takeS {h : Hp} {b off n cap k : Nat} {sp : Option Nat} {cs : List Value} (r : Rd h 1 (some ⟨b, off, sp⟩) n cs) (hf : flagOk sp = true) (hk : k ≤ n) (hc : n ≤ cap) :
    Rd h 1 (some (slAddr b off sp 1 0 cap true)) k (cs.take k) := by
  by_cases h0 : cap = 0
  · have hk0 : k = 0 := by omega
    have hn0 : n = 0 := by omega
    subst hk0 hn0 h0
    have e : cs = [] := List.length_eq_zero_iff.1 (by have := r.len; omega)
    subst e
    refine ⟨rfl, fun e => rfl, fun a e => ?_⟩
    rcases r.at_ _ rfl with ⟨h1, h2⟩ | ⟨h1, h2⟩
    · cases e
      cases sp with
      | none => exact .inl ⟨rfl, by simpa [slAddr] using h2⟩
      | some v =>
        cases hv : flagOk (some 0) with
        | true => exact .inl ⟨by simpa [slAddr] using hv, by simpa [slAddr] using h2⟩
        | false => exact .inr ⟨by simpa [slAddr] using hv, rfl⟩
    · rw [hf] at h1; cases h1
  · have e : slAddr b off sp 1 0 cap true = ⟨b, off, sp⟩ := by cases sp <;> simp [slAddr, h0]
    rw [e]
    exact r.take hk
theorem c_trimmed {h : Hp} {oa : Option Addr} {n c : Nat} {M : List Nat} (l : Dm h oa n c M) (hn : n ≤ 1000000) (hf : ∀ a, oa = some a → flagOk a.spot = true) (hnil : oa = none → c = 0) :
    ACalls Try.prog 125 [.slice oa n c] h fun v h' => DmW (At oa) h v (vL B9 M) ∧ h' = h := by
  refine dioramaref02_trimmed_ok.snd hm rfl fun w => ?_
  rw [WF_eq, dioramaref02_trimmed]
  simp +contextual (disch := omega) only [↓AM, ↓AV, AP, CQ]
  have hml := l.len
  refine WL.mk (fun k t h' => h' = h ∧ k ≤ n ∧ vL B9 (M.take k) = vL B9 M ∧ t = [(0, some (.slice oa n c)), (3, some (.int .i64 (k : Int)))]) ⟨n, rfl, Nat.le_refl _, by rw [List.take_of_length_le (by omega)], rfl⟩ ?_
  rintro k t hh ⟨rfl, hk, hv, rfl⟩
  have hc := l.le
  have fin : ∀ oa', M.take k = dc (vL B9 M) → Rd hh 1 oa' k ((i3 M).take k) → (∀ z, At oa' z → At oa z) → DmW (At oa) hh (.slice oa' k c) (vL B9 M) := fun oa' e r hS => by
    have hl : (dc (vL B9 M)).length = k := by rw [← e]; simp; omega
    refine ⟨oa', c, by rw [hl], ⟨?_, by omega, dc_dl _⟩, hS⟩
    rw [hl, ← e, ← i3_take]
    exact r
  have uq : Nz (M.take k) → M.take k = dc (vL B9 M) := fun hz => by
    rw [← hv]; exact dig_uniq b9 (l.dl.take k) hz
  have done : Nz (M.take k) → (∀ b o s, oa = some ⟨b, o, s⟩ → DmW (At oa) hh (.slice (some (slAddr b o s 1 0 c true)) k c) (vL B9 M)) := fun hz b o s e => by
    subst e
    refine fin _ (uq hz) (l.rd.takeS (hf _ rfl) hk hc) ?_
    rintro z ⟨a, e, hz⟩
    cases e
    refine ⟨_, rfl, ?_⟩
    rw [← hz]
    cases s with
    | none => rfl
    | some v =>
      unfold slAddr
      by_cases hc0 : c = 0
      · simp [hc0]
      · simp [hc0]
  cases k with
  | zero =>
    have e0 : ((0 : Int) < ((0 : Nat) : Int)) = False := by simp
    have dn := done (by simp [Nz])
    rcases oa with _ | ⟨b, o, s⟩
    · have := l.rd.nil rfl
      subst this
      have := hnil rfl
      subst this
      simp +contextual (disch := omega) only [↓AM, ↓AV, AP, CQ, e0, bnds, Option.isNone]
      have := fin none (uq (by simp [Nz])) (by rw [List.take_zero]; exact Rd.mk0) (fun z hz => hz)
      simpa using this
    · have hs := hf _ rfl
      simp +contextual (disch := omega) only [↓AM, ↓AV, AP, CQ, e0, bnds, Option.isNone]
      exact ⟨hs, by cases s <;> simp [capOk]; omega, by omega, dn _ _ _ rfl⟩
  | succ k =>
    obtain ⟨b1, o1, s1, d, rfl, f1, hd, r1⟩ := l.rd.dec (i := k) (by omega)
    have e0 : ((0 : Int) < (((k + 1 : Nat)) : Int)) = True := by simp
    have lt := l.dl.at hd
    have kk : k < n := by omega
    by_cases hz : d = 0
    · subst hz
      have e1 : EqI ((0 : Nat) : Int) 0 = True := eqI_self
      simp +contextual (disch := omega) only [↓AM, ↓AV, AP, CQ, e0, i64, f1, r1, e1, kk]
      refine ⟨k, by omega, by omega, ?_, rfl⟩
      rw [← hv, List.take_add_one, hd]
      exact vL_init.symm
    · have e1 : EqI (d : Int) 0 = False := eq_false (by unfold EqI; omega)
      have dn := done (nz_takeR (B := B9) hd hz) _ _ _ rfl
      have hcap : capOk s1 n c := by cases s1 <;> simp [capOk]; omega
      simp +contextual (disch := omega) only [↓AM, ↓AV, AP, CQ, e0, i64, f1, r1, e1, kk, bnds, Option.isNone, hcap]
      exact ⟨by omega, dn⟩
theorem c_Compare {h : Hp} {a b : Option Addr} {c d x y : Nat} (la : Dm h a (dc x).length c (dc x)) (lb : Dm h b (dc y).length d (dc y)) (hx : (dc x).length ≤ 1000000) (hy : (dc y).length ≤ 1000000) :
    ACalls Try.prog 104 [.slice a (dc x).length c, .slice b (dc y).length d] h fun v h' => v = .int .i64 (if x < y then -1 else if x = y then 0 else 1) ∧ h' = h := by
  refine dioramaref02_Compare_ok.snd hm rfl fun w => ?_
  rw [WF_eq, dioramaref02_Compare]
  have ll : (dc x).length < (dc y).length → x < y := fun hlt => by
    have := len_lt b9 (dc_dl x) (dig_nz (hB := b9) y) hlt
    rwa [dc_val, show vL B9 (dig B9 b9 y) = y from dc_val y] at this
  have lr : (dc y).length < (dc x).length → y < x := fun hlt => by
    have := len_lt b9 (dc_dl y) (dig_nz (hB := b9) x) hlt
    rwa [dc_val, show vL B9 (dig B9 b9 x) = x from dc_val x] at this
  by_cases hne : ((dc x).length : Int) = ((dc y).length : Int)
  case neg =>
    have e0 : EqI ((dc x).length : Int) ((dc y).length : Int) = False := eq_false hne
    by_cases hlt : (dc x).length < (dc y).length
    · have := ll hlt
      simp +contextual (disch := omega) only [↓AM, ↓AV, AP, CQ, i64, e0, hlt, this]
    · have := lr (by omega)
      have n1 : ¬ x < y := by omega
      have n2 : ¬ x = y := by omega
      simp +contextual (disch := omega) only [↓AM, ↓AV, AP, CQ, i64, e0, hlt, n1, n2]
  have hl : (dc x).length = (dc y).length := by omega
  have e0 : EqI ((dc x).length : Int) ((dc y).length : Int) = True := eq_true hne
  simp +contextual (disch := omega) only [↓AM, ↓AV, AP, CQ, i64, e0]
  refine WL.mk (fun k t h' => h' = h ∧ k ≤ (dc x).length ∧ (dc x).drop k = (dc y).drop k ∧ t = [(0, some (.slice a (dc x).length c)), (1, some (.slice b (dc y).length d)), (5, some (.int .i64 ((k : Int) - 1)))]) ⟨(dc x).length, rfl, Nat.le_refl _, by rw [List.drop_eq_nil_of_le (Nat.le_refl _), List.drop_eq_nil_of_le (by omega)], rfl⟩ ?_
  rintro k t _ ⟨rfl, hk, heq, rfl⟩
  cases k with
  | zero =>
    have e1 : ((0 : Int) ≤ ((0 : Nat) : Int) - 1) = False := by simp
    simp +contextual (disch := omega) only [↓AM, ↓AV, AP, CQ, e1]
    have : x = y := by
      have : dc x = dc y := heq
      rw [← dc_val x, this, dc_val]
    simp [this]
  | succ k =>
    obtain ⟨b1, o1, s1, p, rfl, f1, hp, r1⟩ := la.rd.dec (i := k) (by omega)
    obtain ⟨b2, o2, s2, q, rfl, f2, hq, r2⟩ := lb.rd.dec (i := k) (by omega)
    have hk1 : k < (dc x).length := by omega
    have hk2 : k < (dc y).length := by omega
    have gp : (dc x).getD k 0 = p := by rw [List.getD_eq_getElem?_getD, hp]; rfl
    have gq : (dc y).getD k 0 = q := by rw [List.getD_eq_getElem?_getD, hq]; rfl
    by_cases h2 : p < q
    · have := cmp_top b9 (dc_dl x) (dc_dl y) hk1 hl heq (by omega)
      rw [dc_val, dc_val] at this
      simp +contextual (disch := omega) only [↓AM, ↓AV, AP, CQ, i64, f1, f2, r1, r2, hk1, hk2, h2, this]
    · by_cases h3 : q < p
      · have := cmp_top b9 (dc_dl y) (dc_dl x) hk2 hl.symm heq.symm (by omega)
        rw [dc_val, dc_val] at this
        have n1 : ¬ x < y := by omega
        have n2 : ¬ x = y := by omega
        simp +contextual (disch := omega) only [↓AM, ↓AV, AP, CQ, i64, f1, f2, r1, r2, hk1, hk2, h2, h3, n1, n2]
      · have h1 : p = q := by omega
        subst h1
        simp +contextual (disch := omega) only [↓AM, ↓AV, AP, CQ, i64, f1, f2, r1, r2, hk1, hk2, h2, h3]
        refine ⟨k, by omega, by omega, ?_, rfl⟩
        rw [List.getElem?_eq_getElem hk1] at hp
        rw [List.getElem?_eq_getElem hk2] at hq
        rw [List.drop_eq_getElem_cons hk1, List.drop_eq_getElem_cons hk2, heq, Option.some.inj hp, Option.some.inj hq]
end Go.Proofs.Ytbfbgkhlngkifaa.Nu

/- The document's product. Plain theorems over the abstract machine.
   Conditions: none. -/
namespace Go.Proofs.Ytbfbgkhlngkifaa.Nu
open Go Go.RowKit Go.Proofs.Ytbfbgkhlngkifaa.Am Go.Proofs.Ytbfbgkhlngkifaa.Af Go.Proofs.Ytbfbgkhlngkifaa.Md
set_option linter.unusedVariables false
set_option linter.unusedSimpArgs false
set_option linter.defProp false
set_option maxRecDepth 20000
set_option maxHeartbeats 1000000

theorem rep_i3 (n : Nat) : rep n [.int .i64 0] = i3 (List.replicate n 0) := by
  unfold rep i3
  induction n with
  | zero => rfl
  | succ n ih => rw [List.replicate_succ, List.flatten_cons, ih]; rfl
theorem spl_i3 {O : List Nat} {j d : Nat} (hj : j < O.length) : spl (i3 O) j [.int .i64 (d : Int)] = i3 (O.set j d) := by
  rw [spl_one _ _ _ (by rw [i3_len]; omega)]
  simp [i3, List.map_set]
theorem i3_at {O : List Nat} {j d : Nat} (h : O[j]? = some d) : (i3 O)[j]? = some (.int .i64 (d : Int)) := by simp [i3, h]
theorem Dl.zeros9 (n : Nat) : Dl B9 (List.replicate n 0) := fun d hd => by
  rw [(List.mem_replicate.1 hd).2]; decide
theorem dm_new {h : Hp} {O : List Nat} (hd : Dl B9 O) : Dm (h.new ⟨i3 O, .own⟩) (some ⟨h.size, 0, none⟩) O.length O.length O :=
  ⟨Rd.of rfl (by rw [Nat.mul_one]; have := rdN_mk (gnew (h := h) (o := ⟨i3 O, .own⟩)) (off := 0) (m := O.length) (by simp [i3_len]); rw [this]; simp [List.take_of_length_le (Nat.le_of_eq (i3_len O))]), Nat.le_refl _, hd⟩
theorem mul_step9 {x y c o : Nat} (hx : x < 1000000000) (hy : y < 1000000000) (hc : c < 1000000000) (ho : o < 1000000000) : (o + x * y) + c < 1000000000000000000 ∧ o + x * y < 1000000000000000000 ∧ x * y < 1000000000000000000 := by
  have : x * y ≤ 999999999 * 999999999 := Nat.mul_le_mul (by omega) (by omega)
  omega
theorem getD_lt {Y : List Nat} (h : Dl B9 Y) (j : Nat) : Y.getD j 0 < 1000000000 := by
  rw [List.getD_eq_getElem?_getD]
  cases e : Y[j]? with
  | none => decide
  | some d => exact h d (List.mem_of_getElem? e)
theorem take_getD {Y : List Nat} (j : Nat) : vL B9 (Y.take (j + 1)) = vL B9 (Y.take j) + B9 ^ j * Y.getD j 0 := by
  rw [List.take_add_one, List.getD_eq_getElem?_getD]
  cases e : Y[j]? with
  | none => simp
  | some d =>
    have : j < Y.length := (List.getElem?_eq_some_iff.1 e).1
    show vL B9 (Y.take j ++ [d]) = _
    rw [vL_snoc, List.length_take, Nat.min_eq_left (by omega)]
    rfl
theorem c_Times {h : Hp} {a b : Option Addr} {c d x y : Nat} (la : Dm h a (dc x).length c (dc x)) (lb : Dm h b (dc y).length d (dc y)) (hx : (dc x).length ≤ 400000) (hy : (dc y).length ≤ 400000) :
    ACalls Try.prog 102 [.slice a (dc x).length c, .slice b (dc y).length d] h fun v h' => DmW (fun z => h.size ≤ z) h' v (x * y) ∧ Fm No h h' := by
  refine dioramaref02_Times_ok.snd hm rfl fun w => ?_
  rw [WF_eq, dioramaref02_Times]
  simp +contextual (disch := omega) only [↓AM, ↓AV, AP, CQ, i64, rep_i3]
  refine ⟨by omega, ?_⟩
  have hval : vL B9 (dc x) * y = x * y := by rw [dc_val]
  generalize hX : dc x = X at *
  have yval : vL B9 (dc y) = y := dc_val y
  generalize hY : dc y = Y at *
  have zl : vL B9 (List.replicate (X.length + Y.length) 0) = 0 := vL_zeros _ _
  refine WL.mk (fun k t h' => ∃ O : List Nat, h' = h.new ⟨i3 O, .own⟩ ∧ O.length = X.length + Y.length ∧ Dl B9 O ∧ ∃ i : Nat, i ≤ X.length ∧ k = X.length - i ∧ vL B9 O = vL B9 (X.take i) * y ∧ (∀ j, i + Y.length ≤ j → j < O.length → O[j]? = some 0) ∧
      t = [(0, some (.slice a X.length c)), (1, some (.slice b Y.length d)), (5, some (.slice (some ⟨h.size, 0, none⟩) (X.length + Y.length) (X.length + Y.length))), (6, some (.int .i64 i))])
    ⟨X.length, _, rfl, by simp, Dl.zeros9 _, 0, by omega, rfl, by rw [zl]; simp [vL], fun j h1 h2 => by rw [List.getElem?_replicate, if_pos (by simpa using h2)], rfl⟩ ?_
  rintro k t _ ⟨O, rfl, hOl, hOd, i, hi, rfl, hv, hz, rfl⟩
  by_cases hin : i < X.length
  · simp +contextual (disch := omega) only [↓AM, ↓AV, AP, CQ, i64, hin]
    refine WL.mk (fun k t h' => ∃ O' : List Nat, h' = h.new ⟨i3 O', .own⟩ ∧ O'.length = X.length + Y.length ∧ Dl B9 O' ∧ ∃ j cy : Nat, j ≤ Y.length + 1 ∧ (j = Y.length + 1 → cy = 0) ∧ k = Y.length + 1 - j ∧ cy < 1000000000 ∧ vL B9 O' + B9 ^ (i + j) * cy = vL B9 (X.take i) * y + B9 ^ i * (X.getD i 0 * vL B9 (Y.take j)) ∧ (∀ q, i + Y.length ≤ q → i + j ≤ q → q < O'.length → O'[q]? = some 0) ∧
        t = [(0, some (.slice a X.length c)), (1, some (.slice b Y.length d)), (5, some (.slice (some ⟨h.size, 0, none⟩) (X.length + Y.length) (X.length + Y.length))), (6, some (.int .i64 (i : Int))), (7, some (.int .i64 (cy : Int))), (8, some (.int .i64 j))])
      ⟨Y.length + 1, O, rfl, hOl, hOd, 0, 0, by omega, by omega, rfl, by decide, by rw [hv]; simp [vL], fun q h1 _ h2 => hz q h1 h2, rfl⟩ ?_
    clear hv hz hOd hOl O
    rintro k t _ ⟨O, rfl, hOl, hOd, j, cy, hj, hlast, rfl, hcy, hv, hz, rfl⟩
    have fmO : Fm No h (h.new ⟨i3 O, .own⟩) := Fm.new Fm.refl
    obtain ⟨b1, o1, s1, p, rfl, f1, hp, r1⟩ := (la.rd.keepW w fmO nNo).dec hin
    have hpl : p < 1000000000 := la.dl.at hp
    have hpD : X.getD i 0 = p := by rw [List.getD_eq_getElem?_getD, hp]; rfl
    rw [hpD] at hv ⊢
    have ybd := getD_lt lb.dl j
    have htk := take_getD (Y := Y) j
    by_cases hstop : ¬ j < Y.length ∧ cy = 0
    · obtain ⟨h1, rfl⟩ := hstop
      have e0 : ((0 : Int) < ((0 : Nat) : Int)) = False := by simp
      simp +contextual (disch := omega) only [↓AM, ↓AV, AP, CQ, CN, i64, h1, e0]
      rw [List.take_of_length_le (l := Y) (i := j) (by omega), yval] at hv
      refine ⟨_, by omega, O, rfl, hOl, hOd, i + 1, by omega, rfl, ?_, ?_, rfl⟩
      · have h4 : vL B9 (X.take (i + 1)) = vL B9 (X.take i) + B9 ^ i * p := by rw [take_getD, hpD]
        rw [h4, Nat.add_mul, Nat.mul_assoc]
        omega
      · intro q h1 h2
        exact hz q (by omega) (by omega) h2
    · have hij : i + j < O.length := by
        rcases Nat.lt_or_ge j Y.length with h | h
        · omega
        · have : ¬ j = Y.length + 1 := fun e => hstop ⟨by omega, hlast e⟩
          omega
      have hij2 : i + j < X.length + Y.length := by omega
      obtain ⟨e, he⟩ : ∃ e, O[i + j]? = some e := ⟨_, List.getElem?_eq_getElem hij⟩
      have hel : e < 1000000000 := hOd.at he
      have go : ∀ (H : Prop), H → H := fun _ h => h
      have ue := i3_at he
      have ul : leIs (i + j + 1) (i3 O) = true := by rw [← leIs_p, i3_len]; omega
      generalize hq : Y.getD j 0 = q at *
      obtain ⟨m1, m2, m3⟩ := mul_step9 hpl ybd hcy hel
      have us : spl (i3 O) (i + j) [.int .i64 ((((e + p * q) + cy) % 1000000000 : Nat) : Int)] = i3 (O.set (i + j) (((e + p * q) + cy) % 1000000000)) := spl_i3 hij
      have hcond : ¬ j < Y.length → (0 : Int) < (cy : Int) := fun h => by
        have : ¬ cy = 0 := fun e => hstop ⟨h, e⟩
        omega
      have val : vL B9 (O.set (i + j) ((e + p * q + cy) % 1000000000)) + B9 ^ (i + (j + 1)) * ((e + p * q + cy) / 1000000000) = vL B9 (X.take i) * y + B9 ^ i * (p * vL B9 (Y.take (j + 1))) := by
        have h0 := vL_set (B := B9) (d := (e + p * q + cy) % 1000000000) he
        have h1 : B9 ^ (i + j) * ((e + p * q + cy) % 1000000000) + B9 ^ (i + j) * (B9 * ((e + p * q + cy) / 1000000000)) = B9 ^ (i + j) * (e + p * q + cy) := by rw [← Nat.mul_add]; congr 1; exact Nat.mod_add_div _ 1000000000
        have h2 : B9 ^ (i + j) * (e + p * q + cy) = B9 ^ (i + j) * e + B9 ^ (i + j) * (p * q) + B9 ^ (i + j) * cy := by rw [Nat.mul_add, Nat.mul_add]
        have h3 : B9 ^ i * (p * (B9 ^ j * q)) = B9 ^ (i + j) * (p * q) := by rw [Nat.pow_add]; ac_rfl
        rw [htk, Nat.mul_add p, Nat.mul_add (B9 ^ i), h3, show i + (j + 1) = (i + j) + 1 by omega, Nat.pow_succ, Nat.mul_assoc]
        omega
      by_cases hjn : j < Y.length
      · simp +contextual (disch := omega) only [↓AM, ↓AV, AP, CQ, CN, i64, hjn, hin, f1, r1, ue, hij2]
        refine (c_digit (i := j) (lb.rd.keepW w fmO nNo) (by omega)).use ?_
        rintro _ _ w2 ⟨rfl, rfl⟩
        rw [hq]
        simp +contextual (disch := omega) only [↓AM, ↓AV, AP, CQ, CN, CD, i64, r1, ue, hij2, ul, us]
        refine ⟨_, ?_, _, rfl, ?_, ?_, j + 1, (e + p * q + cy) / 1000000000, by omega, ?_, rfl, by omega, ?_, ?_, rfl⟩
        · omega
        · simp [hOl]
        · exact hOd.set (Nat.mod_lt _ (by decide))
        · intro e; omega
        · exact val
        · intro k h1 h2 h3
          rw [List.getElem?_set_ne (by omega)]
          exact hz k h1 (by omega) (by simpa using h3)
      · have hc0 := hcond hjn
        simp +contextual (disch := omega) only [↓AM, ↓AV, AP, CQ, CN, i64, hjn, hc0, hin, f1, r1, ue, hij2]
        refine (c_digit (i := j) (lb.rd.keepW w fmO nNo) (by omega)).use ?_
        rintro _ _ w2 ⟨rfl, rfl⟩
        rw [hq]
        simp +contextual (disch := omega) only [↓AM, ↓AV, AP, CQ, CN, CD, i64, r1, ue, hij2, ul, us]
        refine ⟨_, ?_, _, rfl, ?_, ?_, j + 1, (e + p * q + cy) / 1000000000, by omega, ?_, rfl, by omega, ?_, ?_, rfl⟩
        · omega
        · simp [hOl]
        · exact hOd.set (Nat.mod_lt _ (by decide))
        · intro e2
          have hj2 : j = Y.length := by omega
          have he0 : e = 0 := by
            have := hz (i + j) (by omega) (by omega) hij
            rw [he] at this
            exact Option.some.inj this
          have hq0 : q = 0 := by rw [← hq, List.getD_eq_getElem?_getD, List.getElem?_eq_none (by omega)]; rfl
          subst he0 hq0
          rw [Nat.mul_zero]
          omega
        · exact val
        · intro k h1 h2 h3
          rw [List.getElem?_set_ne (by omega)]
          exact hz k h1 (by omega) (by simpa using h3)
  · have hiX : i = X.length := by omega
    subst hiX
    simp +contextual (disch := omega) only [↓AM, ↓AV, AP, CQ, i64, hin]
    have lm := dm_new (h := h) hOd
    rw [hOl] at lm
    refine (c_trimmed lm (by omega) (by rintro _ ⟨rfl⟩; rfl) (by simp)).use ?_
    rintro _ _ w1 ⟨l, rfl⟩
    rw [hv, List.take_of_length_le (Nat.le_refl _), hval] at l
    obtain ⟨oa, cc, rfl, l, hS⟩ := l
    simp +contextual (disch := omega) only [↓AM, ↓AV, AP, CQ]
    exact ⟨⟨_, _, rfl, l, fun z hz => by obtain ⟨ad, e, e2⟩ := hS z hz; cases e; exact Nat.le_of_eq e2⟩, Fm.new Fm.refl⟩
end Go.Proofs.Ytbfbgkhlngkifaa.Nu

/- The document's difference and quotient. Plain theorems over the abstract machine.
   Conditions: none. -/
namespace Go.Proofs.Ytbfbgkhlngkifaa.Nu
open Go Go.RowKit Go.Proofs.Ytbfbgkhlngkifaa.Am Go.Proofs.Ytbfbgkhlngkifaa.Af Go.Proofs.Ytbfbgkhlngkifaa.Md
set_option linter.unusedVariables false
set_option linter.unusedSimpArgs false
set_option linter.defProp false
set_option maxRecDepth 20000
set_option maxHeartbeats 1000000

theorem bor_end {X Y : List Nat} {L : List Nat} {n bor : Nat} (hL : L.length = n) (hd : Dl B9 L) (hb : bor ≤ 1) (hv : vL B9 L + vL B9 Y = vL B9 X + B9 ^ n * bor) (hle : vL B9 Y ≤ vL B9 X) : vL B9 L = vL B9 X - vL B9 Y := by
  have h1 := vL_lt hd
  rw [hL] at h1
  rcases (show bor = 0 ∨ bor = 1 by omega) with rfl | rfl
  · omega
  · rw [Nat.mul_one] at hv; omega
theorem c_Minus {h : Hp} {a b : Option Addr} {c d x y : Nat} (la : Dm h a (dc x).length c (dc x)) (lb : Dm h b (dc y).length d (dc y)) (hx : (dc x).length ≤ 400000) (hy : (dc y).length ≤ 400000) (hle : y ≤ x) :
    ACalls Try.prog 105 [.slice a (dc x).length c, .slice b (dc y).length d] h fun v h' => DmW (fun z => h.size ≤ z) h' v (x - y) ∧ Fm No h h' := by
  refine dioramaref02_Minus_ok.snd hm rfl fun w => ?_
  rw [WF_eq, dioramaref02_Minus]
  simp +contextual (disch := omega) only [↓AM, ↓AV, AP, CQ, i64]
  have xval : vL B9 (dc x) = x := dc_val x
  have yval : vL B9 (dc y) = y := dc_val y
  have hll : (dc y).length ≤ (dc x).length := by
    rcases Nat.lt_or_ge (dc x).length (dc y).length with h | h
    · have := len_lt b9 (dc_dl x) (dig_nz (hB := b9) y) h
      rw [dc_val, show vL B9 (dig B9 b9 y) = y from dc_val y] at this
      omega
    · exact h
  generalize hX : dc x = X at *
  generalize hY : dc y = Y at *
  refine WL.mk (fun k t h' => Wf h' ∧ Fm No h h' ∧ ∃ L : List Nat, ∃ oa cap bor, L.length ≤ X.length ∧ k = X.length - L.length ∧ bor ≤ 1 ∧ Dl B9 L ∧ Nw h oa ∧ Ow h' 1 oa L.length cap (i3 L) ∧ vL B9 L + vL B9 (Y.take L.length) = vL B9 (X.take L.length) + B9 ^ L.length * bor ∧
      t = [(0, some (.slice a X.length c)), (1, some (.slice b Y.length d)), (5, some (.slice oa L.length cap)), (6, some (.int .i64 (bor : Int))), (7, some (.int .i64 (L.length : Int)))])
    ⟨X.length, w, Fm.refl, [], none, 0, 0, by simp, rfl, by decide, (fun d hd => by cases hd), Nw.none, Ow.mk0, by simp [vL], rfl⟩ ?_
  rintro k t h1 ⟨w1, fm, L, oa, cap, bor, hi, rfl, hb, hLd, nw, ow, hv, rfl⟩
  by_cases hin : L.length < X.length
  · obtain ⟨b1, o1, s1, p, rfl, f1, hp, r1⟩ := (la.rd.keepW w fm nNo).dec hin
    have hpl : p < 1000000000 := la.dl.at hp
    have hpD : X.getD L.length 0 = p := by rw [List.getD_eq_getElem?_getD, hp]; rfl
    have ybd := getD_lt lb.dl L.length
    have htx := take_getD (Y := X) L.length
    have hty := take_getD (Y := Y) L.length
    rw [hpD] at htx
    generalize hq : Y.getD L.length 0 = q at *
    simp +contextual (disch := omega) only [↓AM, ↓AV, AP, CQ, CN, i64, hin]
    refine (c_digit (i := L.length) (la.rd.keepW w fm nNo) (by omega)).use ?_
    rintro _ hA w2 ⟨rfl, rfl⟩
    rw [hpD]
    simp +contextual (disch := omega) only [↓AM, ↓AV, AP, CQ, CN, i64]
    refine (c_digit (i := L.length) (lb.rd.keepW w fm nNo) (by omega)).use ?_
    rintro _ hB w2 ⟨rfl, rfl⟩
    rw [hq]
    have step : ∀ dd bo : Nat, dd < 1000000000 → bo ≤ 1 → dd + q + bor = p + 1000000000 * bo → vL B9 (L ++ [dd]) + vL B9 (Y.take (L ++ [dd]).length) = vL B9 (X.take (L ++ [dd]).length) + B9 ^ (L ++ [dd]).length * bo := by
      intro dd bo h1 h2 h3
      have e : (L ++ [dd]).length = L.length + 1 := by simp
      rw [e, vL_snoc, htx, hty, Nat.pow_succ, Nat.mul_assoc]
      have e1 : B9 ^ L.length * (dd + q + bor) = B9 ^ L.length * (p + 1000000000 * bo) := by rw [h3]
      rw [Nat.mul_add, Nat.mul_add, Nat.mul_add] at e1
      show _ + B9 ^ L.length * dd + (_ + B9 ^ L.length * q) = _ + B9 ^ L.length * p + B9 ^ L.length * (1000000000 * bo)
      omega
    by_cases hneg : (p : Int) - (q : Int) - (bor : Int) < 0
    · obtain ⟨dd, hdd⟩ : ∃ dd : Nat, (p : Int) - (q : Int) - (bor : Int) + 1000000000 = (dd : Int) := ⟨_, (Int.toNat_of_nonneg (by omega)).symm⟩
      simp +contextual (disch := omega) only [↓AM, ↓AV, AP, CQ, CN, i64, hneg, hdd]
      refine ow.push (m := 1) w2 rfl ?_ fun oa' cap' h2 o2 w3 f2 n2 => ?_
      · omega
      obtain ⟨g1, g2⟩ := grown fm nw f2 n2
      simp +contextual (disch := omega) only [↓AM, ↓AV, AP, CQ, CN, i64]
      refine ⟨_, ?_, w3, g1, L ++ [dd], oa', cap', 1, by simp; omega, rfl, by decide, ?_, g2, ?_, step dd 1 (by omega) (by decide) (by omega), by simp⟩
      · simp; omega
      · intro z hz
        rcases List.mem_append.1 hz with hz | hz
        · exact hLd z hz
        · rw [List.mem_singleton.1 hz]; show dd < 1000000000; omega
      · rw [i3_app, List.length_append]; exact o2
    · obtain ⟨dd, hdd⟩ : ∃ dd : Nat, (p : Int) - (q : Int) - (bor : Int) = (dd : Int) := ⟨_, (Int.toNat_of_nonneg (by omega)).symm⟩
      rw [hdd] at hneg
      simp +contextual (disch := omega) only [↓AM, ↓AV, AP, CQ, CN, i64, hdd, hneg]
      refine ow.push (m := 1) w2 rfl ?_ fun oa' cap' h2 o2 w3 f2 n2 => ?_
      · omega
      obtain ⟨g1, g2⟩ := grown fm nw f2 n2
      simp +contextual (disch := omega) only [↓AM, ↓AV, AP, CQ, CN, i64]
      refine ⟨_, ?_, w3, g1, L ++ [dd], oa', cap', 0, by simp; omega, rfl, by decide, ?_, g2, ?_, step dd 0 (by omega) (by decide) (by omega), by simp⟩
      · simp; omega
      · intro z hz
        rcases List.mem_append.1 hz with hz | hz
        · exact hLd z hz
        · rw [List.mem_singleton.1 hz]; show dd < 1000000000; omega
      · rw [i3_app, List.length_append]; exact o2
  · have hn : L.length = X.length := by omega
    simp +contextual (disch := omega) only [↓AM, ↓AV, AP, CQ, CN, i64, hin]
    have dm : Dm h1 oa L.length cap L := ⟨ow.rd, ow.le, hLd⟩
    refine (c_trimmed dm (by omega) ?_ ow.nil).use ?_
    · rintro ad rfl
      obtain ⟨_, _, _, _, _, _, hs⟩ := ow.at_ _ rfl
      rcases hs with hs | ⟨hs, _⟩ <;> rw [hs] <;> rfl
    rintro _ _ w2 ⟨⟨oa', cc, rfl, l, hS⟩, rfl⟩
    rw [List.take_of_length_le (l := Y) (by omega), List.take_of_length_le (l := X) (by omega)] at hv
    have hval := bor_end (n := L.length) rfl hLd hb hv (by omega)
    rw [xval, yval] at hval
    rw [hval] at l
    simp +contextual (disch := omega) only [↓AM, ↓AV, AP, CQ, CN, i64]
    rw [hval]
    exact ⟨⟨_, _, rfl, l, fun z hz => nw z (hS z hz)⟩, fm⟩
end Go.Proofs.Ytbfbgkhlngkifaa.Nu

/- The document's quotient. Plain theorems over the abstract machine.
   Conditions: none. -/
namespace Go.Proofs.Ytbfbgkhlngkifaa.Nu
open Go Go.RowKit Go.Proofs.Ytbfbgkhlngkifaa.Am Go.Proofs.Ytbfbgkhlngkifaa.Af Go.Proofs.Ytbfbgkhlngkifaa.Md
set_option linter.unusedVariables false
set_option linter.unusedSimpArgs false
set_option linter.defProp false
set_option maxRecDepth 20000
set_option maxHeartbeats 2000000

theorem DmW.keep {S : Nat → Prop} {h h' : Hp} {v : Value} {x : Nat} (l : DmW S h v x) (w : Wf h) (fm : Fm No h h') : DmW S h' v x := by
  obtain ⟨oa, c, e, l, hS⟩ := l
  exact ⟨oa, c, e, ⟨l.rd.keepW w fm nNo, l.le, l.dl⟩, hS⟩
theorem dc_app {x d y : Nat} (hy : y < x) (hd : d < 1000000000) (hx : x < B9 ^ 100) : (dc y).length ≤ 100 := dc_len (Nat.lt_trans hy hx)
theorem cmp_le {u s : Nat} : ((if u < s then (-1 : Int) else if u = s then 0 else 1) ≤ 0) = (u ≤ s) := by
  by_cases h1 : u < s
  · rw [if_pos h1]; simp; omega
  · rw [if_neg h1]
    by_cases h2 : u = s
    · rw [if_pos h2]; simp; omega
    · rw [if_neg h2]; simp; omega
theorem search_end {lo y s : Nat} (hy : 0 < y) (h1 : y * lo ≤ s) (h2 : s < y * (lo + 1)) : lo = s / y ∧ s - y * lo = s % y := by
  have e : s / y = lo := by
    rw [Nat.mul_comm] at h1 h2
    exact Nat.div_eq_of_lt_le h1 h2
  refine ⟨e.symm, ?_⟩
  have := Nat.mod_add_div s y
  rw [e] at this
  omega
end Go.Proofs.Ytbfbgkhlngkifaa.Nu

/- The document's fractions. Plain theorems over the abstract machine.
   Conditions: none. -/
namespace Go.Proofs.Ytbfbgkhlngkifaa.Nu
open Go Go.RowKit Go.Proofs.Ytbfbgkhlngkifaa.Am Go.Proofs.Ytbfbgkhlngkifaa.Af Go.Proofs.Ytbfbgkhlngkifaa.Md
set_option linter.unusedVariables false
set_option linter.unusedSimpArgs false
set_option linter.defProp false
set_option maxRecDepth 20000
set_option maxHeartbeats 2000000

/-- A fraction of the document. -/
def RatV (h : Hp) (r : Value) (p q : Nat) : Prop := ∃ u v, r = .agg #[.bool false, u, v] ∧ DmV h u p ∧ DmV h v q
theorem RatV.keep {h h' : Hp} {r : Value} {p q : Nat} (l : RatV h r p q) (w : Wf h) (fm : Fm No h h') : RatV h' r p q := by
  obtain ⟨u, v, e, l1, l2⟩ := l
  exact ⟨u, v, e, l1.keep w fm, l2.keep w fm⟩
theorem rd_nn {h : Hp} {o o' : Ob} {i : Nat} : ((h.new o).new o').rd h.size i = o.cs[i]? := by
  rw [rd_keep (get_new (Nat.lt_succ_self _)), rnew]
theorem DmW.put {S : Nat → Prop} {h : Hp} {v : Value} {x p : Nat} {o : Ob} (l : DmW S h v x) (w : Wf h) (hp : ¬ S p) : DmW S (h.put p o) v x := by
  obtain ⟨oa, c, e, l, hS⟩ := l
  exact ⟨oa, c, e, ⟨l.rd.keep (F := fun z => z = p) w (Fm.put Fm.refl fun _ => rfl) (fun z hz e => hp (e ▸ hS z hz)), l.le, l.dl⟩, hS⟩
theorem rd_n3 {h : Hp} {a b c : Value} {md : Md} : (h.new ⟨[a, b, c], md⟩).rdN h.size 0 3 = some [a, b, c] := rdN_new rfl
theorem rdp_n3 {h : Hp} {p : Nat} {a b c : Value} {md : Md} : (h.put p ⟨[a, b, c], md⟩).rdN p 0 3 = some [a, b, c] := by
  rw [rdN_mk gput (Nat.le_refl 3)]; rfl
theorem c_RatOf {h : Hp} {p q : Nat} (hp : (p : Int) ≤ 9223372036854775807) (hq : (q : Int) ≤ 9223372036854775807) :
    ACalls Try.prog 35 [.agg #[.int .i64 (p : Int), .int .i64 (q : Int)]] h fun r h' => RatV h' r p q ∧ Fm No h h' := by
  refine dioramaref02_RatOf_ok.snd hm rfl fun w => ?_
  rw [WF_eq, dioramaref02_RatOf]
  obtain ⟨p2, hp2⟩ : ∃ b, (h.new ⟨[.int .i64 (p : Int), .int .i64 (q : Int)], .own⟩).size = b := ⟨_, rfl⟩
  have h12 : h.size < p2 := by rw [← hp2]; exact Nat.lt_succ_self _
  have e0 : ((p : Int) < 0) = False := by simp
  have fm0 : Fm No h ((h.new ⟨[.int .i64 (p : Int), .int .i64 (q : Int)], .own⟩).new ⟨[.bool false, .slice none 0 0, .slice none 0 0], .own⟩) := Fm.new (Fm.new Fm.refl)
  have w0 : Wf ((h.new ⟨[.int .i64 (p : Int), .int .i64 (q : Int)], .own⟩).new ⟨[.bool false, .slice none 0 0, .slice none 0 0], .own⟩) := w.new.new
  have g1 : ((h.new ⟨[.int .i64 (p : Int), .int .i64 (q : Int)], .own⟩).new ⟨[.bool false, .slice none 0 0, .slice none 0 0], .own⟩).get h.size = some ⟨[.int .i64 (p : Int), .int .i64 (q : Int)], .own⟩ := (get_new (Nat.lt_succ_self _)).trans gnew
  have g2 : ((h.new ⟨[.int .i64 (p : Int), .int .i64 (q : Int)], .own⟩).new ⟨[.bool false, .slice none 0 0, .slice none 0 0], .own⟩).get p2 = some ⟨[.bool false, .slice none 0 0, .slice none 0 0], .own⟩ := by rw [← hp2]; exact gnew
  simp +contextual (disch := omega) only [↓AM, ↓AV, AP, CQ, rd_nn, i64, e0]
  refine (c_size hp).use ?_
  rintro _ h1 w1 ⟨lu, fm1⟩
  have lu0 := lu
  obtain ⟨ua, uc, rfl, -, -⟩ := lu
  have g1a := fm1.keep w0 g1 (fun f => f)
  have r0 := rd_mk g1a (i := 0)
  have r1 := rd_mk g1a (i := 1)
  simp only [List.getElem?_cons_zero, List.getElem?_cons_succ] at r0 r1
  simp +contextual (disch := omega) only [↓AM, ↓AV, AP, CQ, rd_nn, i64, r0, r1]
  refine (c_Of hq).use ?_
  rintro _ h3 w3 ⟨lv, fm3⟩
  have lv0 := lv
  obtain ⟨va, vc, rfl, -, -⟩ := lv
  have g1b := fm3.keep w1 g1a (fun f => f)
  have g2b := fm3.keep w1 (fm1.keep w0 g2 (fun f => f)) (fun f => f)
  have r0 := rd_mk g1b (i := 0)
  have r1 := rd_mk g1b (i := 1)
  simp only [List.getElem?_cons_zero, List.getElem?_cons_succ] at r0 r1
  simp +contextual (disch := omega) only [↓AM, ↓AV, AP, CQ, rd_nn, i64, r0, r1, hp2, g2b, rdp_n3]
  have ed : decide ((p : Int) < 0) = false := by simp
  rw [ed]
  have l2b := w3.lt g2b
  have n1 : ¬ ((h.new ⟨[.int .i64 (p : Int), .int .i64 (q : Int)], .own⟩).new ⟨[.bool false, .slice none 0 0, .slice none 0 0], .own⟩).size ≤ p2 := by rw [← hp2]; simp only [size_new]; omega
  have n2 : ¬ h1.size ≤ p2 := by have := w1.lt (fm1.keep w0 g2 (fun f => f)); omega
  exact ⟨⟨_, _, rfl, (((lu0.keep w1 fm3).put w3 n1).v), ((lv0.put w3 n2).v)⟩, ((fm0.trans fm1 fun _ _ f => f).trans fm3 fun _ _ f => f).put fun hlt => absurd hlt (by omega)⟩
end Go.Proofs.Ytbfbgkhlngkifaa.Nu

/- Plain arithmetic of time codes: how many numbers stand ahead of a minute, and the way from a number to its code and back.
   Conditions: none. -/
namespace Go.Proofs.Ytbfbgkhlngkifaa.Ma
open Go.RowKit

theorem w64 {x : Int} (h0 : -9223372036854775808 ≤ x) (h1 : x ≤ 9223372036854775807) : wrap64 x = x := by unfold wrap64; omega
theorem dm {n q b r : Int} (h : n = q * b + r) (h0 : 0 ≤ r) (h1 : r < b) : n / b = q ∧ n % b = r := by
  have hb : b ≠ 0 := by omega
  constructor
  · rw [h, Int.add_comm, Int.add_mul_ediv_right _ _ hb, Int.ediv_eq_zero_of_lt h0 h1]; omega
  · rw [h, Int.add_comm, Int.add_mul_emod_self_right, Int.emod_eq_of_lt h0 h1]
theorem tdm {n q b r : Int} (h : n = q * b + r) (hq : 0 ≤ q) (h0 : 0 ≤ r) (h1 : r < b) : Int.tdiv n b = q ∧ Int.tmod n b = r := by
  have hn : 0 ≤ n := by
    have : 0 ≤ q * b := Int.mul_nonneg hq (by omega)
    omega
  rw [Int.tdiv_eq_ediv_of_nonneg hn, Int.tmod_eq_emod_of_nonneg hn]
  exact dm h h0 h1

/-- A rate that is valid. -/
def ok (F : Int) (D : Bool) : Bool := decide (1 ≤ F) && (decide (F ≤ 60) && (!D || (decide (F = 30) || decide (F = 60))))
/-- How many numbers are dropped. -/
def dv (F : Int) (D : Bool) : Int := if D = true then F / 15 else 0
theorem ok_iff {F : Int} {D : Bool} : ok F D = true ↔ 1 ≤ F ∧ F ≤ 60 ∧ (D = false ∨ F = 30 ∨ F = 60) := by
  cases D <;> simp [ok]
theorem dv_bd {F : Int} {D : Bool} (h : ok F D = true) : 0 ≤ dv F D ∧ dv F D ≤ 4 ∧ dv F D ≤ F ∧ (D = false → dv F D = 0) := by
  obtain ⟨h1, h2, h3⟩ := ok_iff.1 h
  unfold dv
  cases D
  · simp; omega
  · simp at h3
    simp; omega
/-- What a minute misses. -/
def ms (d : Int) (m : Nat) : Int := if m % 10 = 0 then 0 else d
/-- How many numbers stand ahead of a minute of the day. -/
def pre (c d : Int) : Nat → Int
  | 0 => 0
  | T + 1 => pre c d T + (c - ms d T)
theorem pre_form (c d : Int) (a b : Nat) (hb : b < 10) : pre c d (10 * a + b) = a * (10 * c - 9 * d) + (if b = 0 then 0 else (b * c - (b - 1) * d)) := by
  have step : ∀ (b : Nat), b < 10 → pre c d (10 * a) = a * (10 * c - 9 * d) → pre c d (10 * a + b) = a * (10 * c - 9 * d) + (if b = 0 then 0 else (b * c - (b - 1) * d)) := by
    intro b
    induction b with
    | zero => intro _ h; simpa using h
    | succ b ih =>
      intro hb h
      have e := ih (by omega) h
      show pre c d (10 * a + b) + (c - ms d (10 * a + b)) = _
      rw [e]
      unfold ms
      have e1 : (10 * a + b) % 10 = b := by omega
      rw [e1]
      by_cases h0 : b = 0
      · subst h0; simp
      · rw [if_neg h0, if_neg h0, if_neg (by omega)]
        have : ((b + 1 : Nat) : Int) = b + 1 := by omega
        rw [this]; grind
  have base : ∀ a : Nat, pre c d (10 * a) = a * (10 * c - 9 * d) := by
    intro a
    induction a with
    | zero => simp [pre]
    | succ a ih =>
      have e : 10 * (a + 1) = 10 * a + 10 := by omega
      rw [e]
      simp only [pre, ih, ms]
      have q : ∀ j, j < 10 → (10 * a + j) % 10 = j := fun j hj => by omega
      have q0 : (10 * a) % 10 = 0 := by omega
      rw [q 1 (by omega), q 2 (by omega), q 3 (by omega), q 4 (by omega), q 5 (by omega), q 6 (by omega), q 7 (by omega), q 8 (by omega), q 9 (by omega), q0]
      simp
      grind
  exact step b hb (base a)
theorem pre_mono {c d : Int} (hd : 0 ≤ d) (hc : d ≤ c) (T : Nat) : ∀ U, T ≤ U → pre c d T ≤ pre c d U := by
  intro U h
  induction U with
  | zero => obtain rfl : T = 0 := by omega
            exact Int.le_refl _
  | succ U ih =>
    rcases Nat.lt_or_ge U T with h1 | h1
    · obtain rfl : T = U + 1 := by omega
      exact Int.le_refl _
    · have := ih h1
      have e : pre c d (U + 1) = pre c d U + (c - ms d U) := rfl
      unfold ms at e
      split at e <;> omega
theorem pre_find {c d n : Int} (h0 : 0 ≤ n) : ∀ N : Nat, n < pre c d N → ∃ T, T < N ∧ pre c d T ≤ n ∧ n < pre c d T + (c - ms d T) := by
  intro N
  induction N with
  | zero => intro h; simp [pre] at h; omega
  | succ N ih =>
    intro h
    by_cases h1 : n < pre c d N
    · obtain ⟨T, hT, h2⟩ := ih h1
      exact ⟨T, by omega, h2⟩
    · exact ⟨N, by omega, by omega, h⟩
theorem pre_day (c d : Int) : pre c d 1440 = 144 * (10 * c - 9 * d) := by
  have := pre_form c d 144 0 (by omega)
  simpa using this
theorem pre_hour (c d : Int) : pre c d 60 = 6 * (10 * c - 9 * d) := by
  have := pre_form c d 6 0 (by omega)
  simpa using this
theorem pre_hours (c d : Int) (H M : Nat) : pre c d (60 * H + M) = H * pre c d 60 + pre c d M := by
  have e1 : 60 * H + M = 10 * (6 * H + M / 10) + M % 10 := by omega
  have e2 : M = 10 * (M / 10) + M % 10 := by omega
  rw [e1, pre_form c d _ _ (Nat.mod_lt _ (by omega)), pre_hour]
  conv => rhs; rw [e2, pre_form c d _ _ (Nat.mod_lt _ (by omega))]
  have : ((6 * H + M / 10 : Nat) : Int) = 6 * H + (M / 10 : Nat) := by omega
  rw [this]
  grind
/-- The numbers of one day, by their minute T and their place y in it (numbers that are missing counted). -/
theorem find {c d n : Int} (h0 : 0 ≤ n) (h1 : n < 144 * (10 * c - 9 * d)) : ∃ (T : Nat) (y : Int), T < 1440 ∧ n = pre c d T + (y - ms d T) ∧ ms d T ≤ y ∧ y < c := by
  obtain ⟨T, hT, h2, h3⟩ := pre_find h0 1440 (by rw [pre_day]; exact h1)
  exact ⟨T, n - pre c d T + ms d T, hT, by omega, by omega, by omega⟩
/-- The closed form by which the program goes from a number to its place. -/
theorem place {c d : Int} (hd : 0 ≤ d) (hc : d < c) {T : Nat} {y : Int} (h0 : ms d T ≤ y) (h1 : y < c) :
    (pre c d T + (y - ms d T)) / (10 * c - 9 * d) = T / 10 ∧
    (if T % 10 = 0 then (pre c d T + (y - ms d T)) % (10 * c - 9 * d) < c ∧ pre c d T + (y - ms d T) + (T / 10) * 9 * d = c * T + y
      else c ≤ (pre c d T + (y - ms d T)) % (10 * c - 9 * d) ∧ ((pre c d T + (y - ms d T)) % (10 * c - 9 * d) - c) / (c - d) = ((T % 10 - 1 : Nat) : Int) ∧
        0 ≤ ((pre c d T + (y - ms d T)) % (10 * c - 9 * d) - c) ∧ pre c d T + (y - ms d T) + (T / 10) * 9 * d + d * (1 + ((T % 10 - 1 : Nat) : Int)) = c * T + y) := by
  have e1 : T = 10 * (T / 10) + T % 10 := by omega
  obtain ⟨a, ha⟩ : ∃ a, a = T / 10 := ⟨_, rfl⟩
  obtain ⟨b, hb⟩ : ∃ b, b = T % 10 := ⟨_, rfl⟩
  have hb10 : b < 10 := by omega
  have hm : ms d T = if b = 0 then 0 else d := by unfold ms; rw [hb]
  have hT : (T : Int) = 10 * (a : Int) + b := by omega
  have hp := pre_form c d a b hb10
  rw [← ha, ← hb] at e1
  rw [← e1] at hp
  have hTa : ((T : Int) / 10) = a := by omega
  rw [hTa, ← hb, hp]
  rw [hm] at h0 ⊢
  by_cases h : b = 0
  · subst h
    simp only [if_true] at h0 ⊢
    obtain ⟨q1, q2⟩ := dm (n := (a : Int) * (10 * c - 9 * d) + 0 + (y - 0)) (q := a) (b := 10 * c - 9 * d) (r := y) (by omega) h0 (by omega)
    rw [q1, q2]
    refine ⟨rfl, h1, ?_⟩
    rw [hT]; grind
  · simp only [if_neg h] at h0 ⊢
    have hbd : 0 ≤ (b : Int) - 1 := by omega
    have k1 : 0 ≤ ((b : Int) - 1) * (c - d) := Int.mul_nonneg hbd (by omega)
    have k2 : ((b : Int) - 1) * (c - d) ≤ 8 * (c - d) := Int.mul_le_mul_of_nonneg_right (by omega) (by omega)
    have k3 : (b : Int) * c - (b - 1) * d = c + (b - 1) * (c - d) := by grind
    obtain ⟨q1, q2⟩ := dm (n := (a : Int) * (10 * c - 9 * d) + ((b : Int) * c - (b - 1) * d) + (y - d)) (q := a) (b := 10 * c - 9 * d) (r := c + (b - 1) * (c - d) + (y - d)) (by rw [k3]; omega) (by omega) (by omega)
    rw [q1, q2]
    have hbn : ((b - 1 : Nat) : Int) = (b : Int) - 1 := by omega
    obtain ⟨q3, _⟩ := dm (n := c + ((b : Int) - 1) * (c - d) + (y - d) - c) (q := (b : Int) - 1) (b := c - d) (r := y - d) (by omega) (by omega) (by omega)
    refine ⟨rfl, by omega, by rw [hbn]; exact q3, by omega, ?_⟩
    rw [hT, hbn]; grind
end Go.Proofs.Ytbfbgkhlngkifaa.Ma

/- Numbers of codes, in memory. Plain theorems over the abstract machine.
   Conditions: none. -/
namespace Go.Proofs.Ytbfbgkhlngkifaa.Nu
open Go Go.RowKit Go.Proofs.Ytbfbgkhlngkifaa.Am Go.Proofs.Ytbfbgkhlngkifaa.Af Go.Proofs.Ytbfbgkhlngkifaa.Md
set_option linter.unusedVariables false
set_option linter.unusedSimpArgs false
set_option linter.defProp false
set_option maxRecDepth 20000
set_option maxHeartbeats 2000000

abbrev codeV (H M S f : Int) : Value := .agg #[.int .i64 H, .int .i64 M, .int .i64 S, .int .i64 f]
def okC (F H M S f : Int) : Prop := ((0 ≤ H ∧ H ≤ 23) ∧ (0 ≤ M ∧ M ≤ 59)) ∧ ((0 ≤ S ∧ S ≤ 59) ∧ (0 ≤ f ∧ f ≤ F - 1))
instance (F H M S f : Int) : Decidable (okC F H M S f) := by unfold okC; infer_instance
def drC (F : Int) (D : Bool) (M S f : Int) : Prop := S = 0 ∧ (¬ M % 10 = 0 ∧ f < missN F D)
instance (F : Int) (D : Bool) (M S f : Int) : Decidable (drC F D M S f) := by unfold drC; infer_instance
def rErr (F : Int) (D : Bool) (H M S f : Int) : Int := if okC F H M S f then (if drC F D M S f then 200 else 0) else 1
def cErr (F : Int) (D : Bool) (H M S f : Int) : Int := if okR F D then rErr F D H M S f else 1
theorem e200 : EqI 200 0 = False := by simp [EqI]
theorem c_right {h : Hp} {F H M S f : Int} {D : Bool} (hF : 1 ≤ F ∧ F ≤ 60) :
    ACalls Try.prog 70 [rateV F D, codeV H M S f] h fun v h' => v = .int .i64 (rErr F D H M S f) ∧ Fm No h h' := by
  refine code_steps__right_ok.snd hm rfl fun w => ?_
  rw [WF_eq, code_steps__right, rateV, codeV]
  obtain ⟨hA, hhA⟩ : ∃ g, h.new ⟨[.int .i64 F, .bool D], .own⟩ = g := ⟨_, rfl⟩
  obtain ⟨hB, hhB⟩ : ∃ g, hA.new ⟨[.int .i64 H, .int .i64 M, .int .i64 S, .int .i64 f], .own⟩ = g := ⟨_, rfl⟩
  have wA : Wf hA := hhA ▸ w.new
  have wB : Wf hB := hhB ▸ wA.new
  have fmA : Fm No h hA := hhA ▸ Fm.new Fm.refl
  have fmB : Fm No hA hB := hhB ▸ Fm.new Fm.refl
  have gA : hA.get h.size = some ⟨[.int .i64 F, .bool D], .own⟩ := hhA ▸ gnew
  have gB : hB.get hA.size = some ⟨[.int .i64 H, .int .i64 M, .int .i64 S, .int .i64 f], .own⟩ := hhB ▸ gnew
  have gA := fmB.keep wA gA (fun f => f)
  have fm := fmA.trans fmB fun _ _ f => f
  have u0 := rd_mk gA (i := 0)
  have v0 := rd_mk gB (i := 0)
  have v1 := rd_mk gB (i := 1)
  have v2 := rd_mk gB (i := 2)
  have v3 := rd_mk gB (i := 3)
  simp only [List.getElem?_cons_zero, List.getElem?_cons_succ] at u0 v0 v1 v2 v3
  have uN : hB.rdN h.size 0 2 = some [.int .i64 F, .bool D] := rdN_mk gA (Nat.le_refl 2)
  simp +contextual (disch := omega) only [↓AM, ↓AV, AP, CQ, i64, hhA, hhB, v0]
  refine c_cwithin.use ?_
  rintro _ hC w1 ⟨rfl, e⟩
  subst e
  by_cases h1 : 0 ≤ H ∧ H ≤ 23
  case neg =>
    simp +contextual (disch := omega) only [↓AM, ↓AV, AP, CQ, i64, h1]
    exact ⟨by simp [rErr, okC, h1], fm⟩
  simp +contextual (disch := omega) only [↓AM, ↓AV, AP, CQ, i64, hhA, hhB, h1, v1]
  refine c_cwithin.use ?_
  rintro _ hC w1 ⟨rfl, e⟩
  subst e
  by_cases h2 : 0 ≤ M ∧ M ≤ 59
  case neg =>
    simp +contextual (disch := omega) only [↓AM, ↓AV, AP, CQ, i64, h2]
    exact ⟨by simp [rErr, okC, h2], fm⟩
  simp +contextual (disch := omega) only [↓AM, ↓AV, AP, CQ, i64, hhA, hhB, h2, v2]
  refine c_cwithin.use ?_
  rintro _ hC w1 ⟨rfl, e⟩
  subst e
  by_cases h3 : 0 ≤ S ∧ S ≤ 59
  case neg =>
    simp +contextual (disch := omega) only [↓AM, ↓AV, AP, CQ, i64, h3]
    exact ⟨by simp [rErr, okC, h3], fm⟩
  simp +contextual (disch := omega) only [↓AM, ↓AV, AP, CQ, i64, hhA, hhB, h3, v3, u0]
  refine c_cwithin.use ?_
  rintro _ hC w1 ⟨rfl, e⟩
  subst e
  by_cases h4 : 0 ≤ f ∧ f ≤ F - 1
  case neg =>
    simp +contextual (disch := omega) only [↓AM, ↓AV, AP, CQ, i64, h4]
    exact ⟨by simp [rErr, okC, h4], fm⟩
  have hok : okC F H M S f := ⟨⟨h1, h2⟩, h3, h4⟩
  have em : M.tmod 10 = M % 10 := Int.tmod_eq_emod_of_nonneg (by omega)
  by_cases h5 : S = 0
  case neg =>
    have e5 : EqI S 0 = False := eq_false h5
    simp +contextual (disch := omega) only [↓AM, ↓AV, AP, CQ, i64, hhA, hhB, h4, v2, e5]
    exact ⟨by simp [rErr, hok, drC, h5], fm⟩
  have e5 : EqI S 0 = True := eq_true h5
  by_cases h6 : M % 10 = 0
  · have e6 : EqI (M % 10) 0 = True := eq_true h6
    simp +contextual (disch := omega) only [↓AM, ↓AV, AP, CQ, i64, hhA, hhB, h4, v1, v2, e5, em, e6]
    exact ⟨by decide, by simp [rErr, hok, drC, h6], fm⟩
  · have e6 : EqI (M % 10) 0 = False := eq_false h6
    simp +contextual (disch := omega) only [↓AM, ↓AV, AP, CQ, i64, hhA, hhB, h4, v1, v2, v3, uN, e5, em, e6]
    refine ⟨by decide, ?_⟩
    refine (c_dropped hF).use ?_
    rintro _ hD w5 ⟨rfl, fm5⟩
    have gA := fm5.keep wB gA (fun f => f)
    have gB := fm5.keep wB gB (fun f => f)
    have u0 := rd_mk gA (i := 0)
    have v0 := rd_mk gB (i := 0)
    have v1 := rd_mk gB (i := 1)
    have v2 := rd_mk gB (i := 2)
    have v3 := rd_mk gB (i := 3)
    simp only [List.getElem?_cons_zero, List.getElem?_cons_succ] at u0 v0 v1 v2 v3
    have uN : hD.rdN h.size 0 2 = some [.int .i64 F, .bool D] := rdN_mk gA (Nat.le_refl 2)
    have fm' := fm.trans fm5 fun _ _ f => f
    by_cases h7 : f < missN F D
    · simp +contextual (disch := omega) only [↓AM, ↓AV, AP, CQ, i64, hhA, hhB, v1, v2, v3, uN, e5, e6, h7]
      exact ⟨by rw [rErr, if_pos hok, if_pos ⟨h5, h6, h7⟩], fm'⟩
    · simp +contextual (disch := omega) only [↓AM, ↓AV, AP, CQ, i64, hhA, hhB, v1, v2, v3, uN, e5, e6, h7]
      exact ⟨by simp [rErr, hok, drC, h7], fm'⟩
theorem c_checked {h : Hp} {F H M S f : Int} {D : Bool} :
    ACalls Try.prog 29 [rateV F D, codeV H M S f] h fun v h' => v = .int .i64 (cErr F D H M S f) ∧ Fm No h h' := by
  refine code_checked_ok.snd hm rfl fun w => ?_
  rw [WF_eq, code_checked, rateV, codeV]
  obtain ⟨hA, hhA⟩ : ∃ g, h.new ⟨[.int .i64 F, .bool D], .own⟩ = g := ⟨_, rfl⟩
  obtain ⟨hB, hhB⟩ : ∃ g, hA.new ⟨[.int .i64 H, .int .i64 M, .int .i64 S, .int .i64 f], .own⟩ = g := ⟨_, rfl⟩
  have wA : Wf hA := hhA ▸ w.new
  have wB : Wf hB := hhB ▸ wA.new
  have fmA : Fm No h hA := hhA ▸ Fm.new Fm.refl
  have fmB : Fm No hA hB := hhB ▸ Fm.new Fm.refl
  have gA : hA.get h.size = some ⟨[.int .i64 F, .bool D], .own⟩ := hhA ▸ gnew
  have gB : hB.get hA.size = some ⟨[.int .i64 H, .int .i64 M, .int .i64 S, .int .i64 f], .own⟩ := hhB ▸ gnew
  have gA := fmB.keep wA gA (fun f => f)
  have fm := fmA.trans fmB fun _ _ f => f
  have uN : hB.rdN h.size 0 2 = some [.int .i64 F, .bool D] := rdN_mk gA (Nat.le_refl 2)
  simp +contextual (disch := omega) only [↓AM, ↓AV, AP, CQ, i64, hhA, hhB, uN]
  refine c_chk.use ?_
  rintro _ hC wC ⟨rfl, fmC⟩
  have fm' := fm.trans fmC fun _ _ f => f
  by_cases hok : okR F D
  case neg =>
    have e1 : chkR F D = 1 := if_neg hok
    simp +contextual (disch := omega) only [↓AM, ↓AV, AP, CQ, i64, e1]
    exact ⟨by simp [cErr, hok], fm'⟩
  have e1 : chkR F D = 0 := if_pos hok
  have gA := fmC.keep wB gA (fun f => f)
  have gB := fmC.keep wB gB (fun f => f)
  have uN : hC.rdN h.size 0 2 = some [.int .i64 F, .bool D] := rdN_mk gA (Nat.le_refl 2)
  have vN : hC.rdN hA.size 0 4 = some [.int .i64 H, .int .i64 M, .int .i64 S, .int .i64 f] := rdN_mk gB (Nat.le_refl 4)
  simp +contextual (disch := omega) only [↓AM, ↓AV, AP, CQ, i64, hhA, hhB, uN, vN, e1]
  refine (c_right hok.1).use ?_
  rintro _ hD wD ⟨rfl, fmD⟩
  simp +contextual (disch := omega) only [↓AM, ↓AV, AP, CQ, i64]
  exact ⟨by simp [cErr, hok], fm'.trans fmD fun _ _ f => f⟩
def cntZ (F : Int) (D : Bool) (H M S f : Int) : Int := (((H * 60 + M) * 60 + S) * F + f) - missN F D * ((H * 60 + M) - (H * 60 + M) / 10)
theorem c_count {h : Hp} {F H M S f : Int} {D : Bool} (hF : 1 ≤ F ∧ F ≤ 60) (hok : okC F H M S f) :
    ACalls Try.prog 32 [rateV F D, codeV H M S f] h fun v h' => v = .int .i64 (cntZ F D H M S f) ∧ Fm No h h' := by
  refine code_steps__count_ok.snd hm rfl fun w => ?_
  rw [WF_eq, code_steps__count, rateV, codeV]
  obtain ⟨hA, hhA⟩ : ∃ g, h.new ⟨[.int .i64 F, .bool D], .own⟩ = g := ⟨_, rfl⟩
  obtain ⟨hB, hhB⟩ : ∃ g, hA.new ⟨[.int .i64 H, .int .i64 M, .int .i64 S, .int .i64 f], .own⟩ = g := ⟨_, rfl⟩
  have wA : Wf hA := hhA ▸ w.new
  have wB : Wf hB := hhB ▸ wA.new
  have fmA : Fm No h hA := hhA ▸ Fm.new Fm.refl
  have fmB : Fm No hA hB := hhB ▸ Fm.new Fm.refl
  have gA : hA.get h.size = some ⟨[.int .i64 F, .bool D], .own⟩ := hhA ▸ gnew
  have gB : hB.get hA.size = some ⟨[.int .i64 H, .int .i64 M, .int .i64 S, .int .i64 f], .own⟩ := hhB ▸ gnew
  have gA := fmB.keep wA gA (fun f => f)
  have fm := fmA.trans fmB fun _ _ f => f
  have u0 := rd_mk gA (i := 0)
  have v0 := rd_mk gB (i := 0)
  have v1 := rd_mk gB (i := 1)
  have v2 := rd_mk gB (i := 2)
  have v3 := rd_mk gB (i := 3)
  simp only [List.getElem?_cons_zero, List.getElem?_cons_succ] at u0 v0 v1 v2 v3
  have uN : hB.rdN h.size 0 2 = some [.int .i64 F, .bool D] := rdN_mk gA (Nat.le_refl 2)
  obtain ⟨⟨h1, h2⟩, h3, h4⟩ := hok
  have et : (H * 60 + M).tdiv 10 = (H * 60 + M) / 10 := Int.tdiv_eq_ediv_of_nonneg (by omega)
  have b1 : 0 ≤ ((H * 60 + M) * 60 + S) * F := Int.mul_nonneg (by omega) (by omega)
  have b2 : ((H * 60 + M) * 60 + S) * F ≤ 86400 * 60 := Int.mul_le_mul (by omega) hF.2 (by omega) (by omega)
  have hd := miss_b D hF
  have b3 : 0 ≤ missN F D * ((H * 60 + M) - (H * 60 + M) / 10) := Int.mul_nonneg hd.1 (by omega)
  have b4 : missN F D * ((H * 60 + M) - (H * 60 + M) / 10) ≤ 4 * 1440 := Int.mul_le_mul hd.2 (by omega) (by omega) (by omega)
  simp +contextual (disch := omega) only [↓AM, ↓AV, AP, CQ, i64, hhA, hhB, v0, v1, v2, v3, u0, uN, et]
  refine ⟨by decide, ?_⟩
  refine (c_dropped hF).use ?_
  rintro _ hD w5 ⟨rfl, fm5⟩
  have gA := fm5.keep wB gA (fun f => f)
  have gB := fm5.keep wB gB (fun f => f)
  have u0 := rd_mk gA (i := 0)
  have v2 := rd_mk gB (i := 2)
  have v3 := rd_mk gB (i := 3)
  simp only [List.getElem?_cons_zero, List.getElem?_cons_succ] at u0 v2 v3
  have e1 : IntKind.i64.wrap (((H * 60 + M) * 60 + S) * F) = ((H * 60 + M) * 60 + S) * F := i64 (by omega)
  have e2 : IntKind.i64.wrap (missN F D * (H * 60 + M - (H * 60 + M) / 10)) = missN F D * (H * 60 + M - (H * 60 + M) / 10) := i64 (by omega)
  have e3 : IntKind.i64.wrap (((H * 60 + M) * 60 + S) * F + f) = ((H * 60 + M) * 60 + S) * F + f := i64 (by omega)
  have e4 : IntKind.i64.wrap (((H * 60 + M) * 60 + S) * F + f - missN F D * (H * 60 + M - (H * 60 + M) / 10)) = ((H * 60 + M) * 60 + S) * F + f - missN F D * (H * 60 + M - (H * 60 + M) / 10) := i64 (by omega)
  simp +contextual (disch := omega) only [↓AM, ↓AV, AP, CQ, i64, hhA, hhB, v2, v3, u0, et, e1, e2, e3, e4]
  exact ⟨rfl, fm.trans fm5 fun _ _ f => f⟩
theorem hourN_eq {F d : Int} : ∀ i : Nat, hourN F d i = 60 * F * (i : Int) - d * ((i : Int) - ((i : Int) + 9) / 10)
  | 0 => by simp [hourN]
  | i + 1 => by
    rw [hourN, hourN_eq i]
    by_cases h : (i : Int) % 10 = 0
    · rw [if_pos h, show ((i + 1 : Nat) : Int) - (((i + 1 : Nat) : Int) + 9) / 10 = (i : Int) - ((i : Int) + 9) / 10 by omega, show ((i + 1 : Nat) : Int) = (i : Int) + 1 from rfl]
      grind
    · rw [if_neg h, show ((i + 1 : Nat) : Int) - (((i + 1 : Nat) : Int) + 9) / 10 = ((i : Int) - ((i : Int) + 9) / 10) + 1 by omega, show ((i + 1 : Nat) : Int) = (i : Int) + 1 from rfl]
      grind
theorem cnt_same {F H S f : Int} {D : Bool} {m : Nat} (hH : 0 ≤ H) : H * (3600 * F - 54 * missN F D) + hourN F (missN F D) m + S * F + f - (if (m : Int) % 10 = 0 then 0 else missN F D) = cntZ F D H m S f := by
  rw [hourN_eq, cntZ]
  generalize missN F D = d
  by_cases h : (m : Int) % 10 = 0
  · rw [if_pos h]
    have e1 : (m : Int) - ((m : Int) + 9) / 10 = (m : Int) - (m : Int) / 10 := by omega
    have e2 : (H * 60 + (m : Int)) / 10 = H * 6 + (m : Int) / 10 := by omega
    rw [e1, e2]
    generalize (m : Int) / 10 = q
    grind
  · rw [if_neg h]
    have e1 : (m : Int) - ((m : Int) + 9) / 10 = (m : Int) - (m : Int) / 10 - 1 := by omega
    have e2 : (H * 60 + (m : Int)) / 10 = H * 6 + (m : Int) / 10 := by omega
    rw [e1, e2]
    generalize (m : Int) / 10 = q
    grind
end Go.Proofs.Ytbfbgkhlngkifaa.Nu

/- Numbers of codes by the document's answer. Plain theorems over the abstract machine.
   Conditions: none. -/
namespace Go.Proofs.Ytbfbgkhlngkifaa.Nu
open Go Go.RowKit Go.Proofs.Ytbfbgkhlngkifaa.Am Go.Proofs.Ytbfbgkhlngkifaa.Af Go.Proofs.Ytbfbgkhlngkifaa.Md
set_option linter.unusedVariables false
set_option linter.unusedSimpArgs false
set_option linter.defProp false
set_option maxRecDepth 20000
set_option maxHeartbeats 2000000

end Go.Proofs.Ytbfbgkhlngkifaa.Nu

/- Codes of numbers, in memory. Plain theorems over the abstract machine.
   Conditions: none. -/
namespace Go.Proofs.Ytbfbgkhlngkifaa.Nu
open Go Go.RowKit Go.Proofs.Ytbfbgkhlngkifaa.Am Go.Proofs.Ytbfbgkhlngkifaa.Af Go.Proofs.Ytbfbgkhlngkifaa.Md Go.Proofs.Ytbfbgkhlngkifaa.Ma
set_option linter.unusedVariables false
set_option linter.unusedSimpArgs false
set_option linter.defProp false
set_option maxRecDepth 20000
set_option maxHeartbeats 2000000

theorem rdp_n4 {h : Hp} {p : Nat} {a b c d : Value} {md : Md} : (h.put p ⟨[a, b, c, d], md⟩).rdN p 0 4 = some [a, b, c, d] := by
  rw [rdN_mk gput (Nat.le_refl 4)]; rfl
theorem split_eq {F : Int} (h1 : 1 ≤ F) {T : Nat} {y : Int} (h0 : 0 ≤ y) (hy : y < 60 * F) :
    (60 * F * T + y) / F = 60 * T + y / F ∧ (60 * F * T + y) % F = y % F ∧ 0 ≤ y / F ∧ y / F < 60 ∧ 0 ≤ y % F ∧ y % F < F := by
  have e : 60 * F * T + y = y + (60 * T) * F := by grind
  have b0 : 0 ≤ y / F := Int.ediv_nonneg h0 (by omega)
  have b1 : y / F < 60 := Int.ediv_lt_of_lt_mul (by omega) hy
  refine ⟨?_, ?_, b0, b1, Int.emod_nonneg _ (by omega), Int.emod_lt_of_pos _ (by omega)⟩
  · rw [e, Int.add_mul_ediv_right _ _ (by omega)]; omega
  · rw [e, Int.add_mul_emod_self_right]
theorem ms_b {d : Int} (h : 0 ≤ d) (T : Nat) : 0 ≤ ms d T ∧ ms d T ≤ d := by unfold ms; split <;> omega
theorem num_b {F d : Int} (hF : 1 ≤ F ∧ F ≤ 60) (hd : 0 ≤ d ∧ d ≤ 4) {T : Nat} {y : Int} (hT : T < 1440) (hm : ms d T ≤ y) (hy : y < 60 * F) :
    0 ≤ pre (60 * F) d T + (y - ms d T) ∧ pre (60 * F) d T + (y - ms d T) < 144 * (600 * F - 9 * d) := by
  have b0 := pre_mono (c := 60 * F) (d := d) hd.1 (by omega) 0 T (by omega)
  have b1 := pre_mono (c := 60 * F) (d := d) hd.1 (by omega) (T + 1) 1440 (by omega)
  have e : pre (60 * F) d (T + 1) = pre (60 * F) d T + (60 * F - ms d T) := rfl
  have e0 : pre (60 * F) d 0 = 0 := rfl
  rw [pre_day] at b1
  omega
theorem codeFin {F : Int} (hF : 1 ≤ F ∧ F ≤ 60) {T : Nat} {y x : Int} (hT : T < 1440) (h0 : 0 ≤ y) (hy : y < 60 * F) (hx : x = 60 * F * T + y) :
    IntKind.i64.wrap (x.tdiv F) = 60 * (T : Int) + y / F ∧ x.tmod F = y % F ∧ 0 ≤ y / F ∧ y / F < 60 ∧ 0 ≤ y % F ∧ y % F < F := by
  obtain ⟨q1, q2, q3, q4, q5, q6⟩ := split_eq (T := T) hF.1 h0 hy
  have hx0 : 0 ≤ x := by
    have : 0 ≤ 60 * F * (T : Int) := Int.mul_nonneg (by omega) (by omega)
    omega
  refine ⟨?_, ?_, q3, q4, q5, q6⟩
  · rw [Int.tdiv_eq_ediv_of_nonneg hx0, hx, q1, i64 (by omega)]
  · rw [Int.tmod_eq_emod_of_nonneg hx0, hx, q2]
abbrev codV (F : Int) (T : Nat) (y : Int) : Value := codeV ((T / 60 : Nat) : Int) ((T % 60 : Nat) : Int) (y / F) (y % F)
theorem c_code {h : Hp} {F : Int} {D : Bool} {T : Nat} {y n : Int} (hF : 1 ≤ F ∧ F ≤ 60) (hT : T < 1440) (hm0 : ms (missN F D) T ≤ y) (hy : y < 60 * F) (hn : pre (60 * F) (missN F D) T + (y - ms (missN F D) T) = n) :
    ACalls Try.prog 28 [rateV F D, .int .i64 n] h fun v h' => v = codV F T y ∧ Fm No h h' := by
  refine code_steps__code_ok.snd hm rfl fun w => ?_
  rw [WF_eq, code_steps__code, rateV]
  have hd := miss_b D hF
  have hms := ms_b hd.1 T
  have hnb := num_b hF hd hT hm0 hy
  obtain ⟨p1, p2⟩ := place (c := 60 * F) (d := missN F D) hd.1 (by omega) hm0 hy
  rw [hn] at p1 p2 hnb
  have htt : 10 * (60 * F) - 9 * missN F D = 600 * F - 9 * missN F D := by omega
  rw [htt] at p1 p2
  obtain ⟨hA, hhA⟩ : ∃ g, h.new ⟨[.int .i64 F, .bool D], .own⟩ = g := ⟨_, rfl⟩
  obtain ⟨hB, hhB⟩ : ∃ g, hA.new ⟨[.int .i64 0, .int .i64 0, .int .i64 0, .int .i64 0], .own⟩ = g := ⟨_, rfl⟩
  have wA : Wf hA := hhA ▸ w.new
  have wB : Wf hB := hhB ▸ wA.new
  have fmA : Fm No h hA := hhA ▸ Fm.new Fm.refl
  have fmB : Fm No hA hB := hhB ▸ Fm.new Fm.refl
  have gA : hA.get h.size = some ⟨[.int .i64 F, .bool D], .own⟩ := hhA ▸ gnew
  have gB : hB.get hA.size = some ⟨[.int .i64 0, .int .i64 0, .int .i64 0, .int .i64 0], .own⟩ := hhB ▸ gnew
  have gA := fmB.keep wA gA (fun f => f)
  have sA := fmA.size
  have fm := fmA.trans fmB fun _ _ f => f
  obtain ⟨zA, hzA⟩ : ∃ z, hA.size = z := ⟨_, rfl⟩
  rw [hzA] at gB sA
  have rds : ∀ g : Hp, Fm No hB g → (g.rd h.size 0 = some (.int .i64 F) ∧ g.rdN h.size 0 2 = some [.int .i64 F, .bool D]) ∧ g.get zA = some ⟨[.int .i64 0, .int .i64 0, .int .i64 0, .int .i64 0], .own⟩ := fun g fg => by
    have k1 := fg.keep wB gA (fun f => f)
    exact ⟨⟨rd_mk k1, rdN_mk k1 (Nat.le_refl 2)⟩, fg.keep wB gB (fun f => f)⟩
  obtain ⟨⟨u0, uN⟩, gZ⟩ := rds hB Fm.refl
  have r0 : 0 ≤ n % (600 * F - 9 * missN F D) := Int.emod_nonneg _ (by omega)
  have r1 : n % (600 * F - 9 * missN F D) < 600 * F - 9 * missN F D := Int.emod_lt_of_pos _ (by omega)
  have a0 : 0 ≤ (T : Int) / 10 * 9 * missN F D := Int.mul_nonneg (by omega) hd.1
  have a1 : (T : Int) / 10 * 9 * missN F D ≤ 1296 * 4 := Int.mul_le_mul (by omega) hd.2 hd.1 (by omega)
  have t1 : n.tdiv (600 * F - 9 * missN F D) = (T : Int) / 10 := by rw [Int.tdiv_eq_ediv_of_nonneg hnb.1]; exact p1
  have t2 : n.tmod (600 * F - 9 * missN F D) = n % (600 * F - 9 * missN F D) := Int.tmod_eq_emod_of_nonneg hnb.1
  have t0 : (600 * F - 9 * missN F D = 0) = False := eq_false (by omega)
  simp +contextual (disch := omega) only [↓AM, ↓AV, AP, CQ, i64, hhA, hhB, hzA, uN]
  refine (c_ten hF).use ?_
  rintro _ h1 w1 ⟨rfl, fm1⟩
  obtain ⟨⟨u0, uN⟩, gZ⟩ := rds h1 fm1
  simp +contextual (disch := omega) only [↓AM, ↓AV, AP, CQ, i64, hhA, hhB, hzA, uN, t1, t0]
  refine ⟨⟨_, rfl, rfl⟩, ?_⟩
  refine (c_ten hF).use ?_
  rintro _ h2 w2 ⟨rfl, fm2⟩
  have f2 := fm1.trans fm2 fun _ _ f => f
  obtain ⟨⟨u0, uN⟩, gZ⟩ := rds h2 f2
  simp +contextual (disch := omega) only [↓AM, ↓AV, AP, CQ, i64, hhA, hhB, hzA, u0, uN, t1, t2, t0]
  refine (c_dropped hF).use ?_
  rintro _ h3 w3 ⟨rfl, fm3⟩
  have f3 := f2.trans fm3 fun _ _ f => f
  obtain ⟨⟨u0, uN⟩, gZ⟩ := rds h3 f3
  have e9 : IntKind.i64.wrap ((T : Int) / 10 * 9) = (T : Int) / 10 * 9 := i64 (by omega)
  have e10 : IntKind.i64.wrap ((T : Int) / 10 * 9 * missN F D) = (T : Int) / 10 * 9 * missN F D := i64 (by omega)
  have e11 : IntKind.i64.wrap (n + (T : Int) / 10 * 9 * missN F D) = n + (T : Int) / 10 * 9 * missN F D := i64 (by omega)
  have ew : IntKind.i64.wrap ((T : Int) / 10) = (T : Int) / 10 := i64 (by omega)
  simp +contextual (disch := omega) only [↓AM, ↓AV, AP, CQ, i64, hhA, hhB, hzA, u0, uN, ew, e9]
  refine (c_dropped hF).use ?_
  rintro _ h4 w4 ⟨rfl, fm4⟩
  have f4 := f3.trans fm4 fun _ _ f => f
  obtain ⟨⟨u0, uN⟩, gZ⟩ := rds h4 f4
  have fne : (F = 0) = False := eq_false (by omega)
  have fin : ∀ (g : Hp) (x : Int), Fm No hB g → x = 60 * F * T + y →
      ¬F = 0 ∧ ¬(3600 : Int) = 0 ∧ ¬(60 : Int) = 0 ∧ ¬(60 : Int) = 0 ∧ ¬(60 : Int) = 0 ∧ ¬F = 0 ∧
      (Value.agg #[.int .i64 (IntKind.i64.wrap ((IntKind.i64.wrap (x.tdiv F)).tdiv 3600)), .int .i64 ((IntKind.i64.wrap ((IntKind.i64.wrap (x.tdiv F)).tdiv 60)).tmod 60), .int .i64 ((IntKind.i64.wrap (x.tdiv F)).tmod 60), .int .i64 (x.tmod F)]) = codV F T y ∧
      Fm No h (g.put zA ⟨[.int .i64 (IntKind.i64.wrap ((IntKind.i64.wrap (x.tdiv F)).tdiv 3600)), .int .i64 ((IntKind.i64.wrap ((IntKind.i64.wrap (x.tdiv F)).tdiv 60)).tmod 60), .int .i64 ((IntKind.i64.wrap (x.tdiv F)).tmod 60), .int .i64 (x.tmod F)], .own⟩) := by
    intro g x fg hx
    obtain ⟨c1, c2, c3, c4, -, -⟩ := codeFin hF hT (by omega) hy hx
    refine ⟨by omega, by decide, by decide, by decide, by decide, by omega, ?_, (fm.trans fg fun _ _ f => f).put fun hlt => absurd hlt (by omega)⟩
    rw [c1, c2]
    have q0 : (60 * (T : Int) + y / F).tdiv 60 = (60 * (T : Int) + y / F) / 60 := Int.tdiv_eq_ediv_of_nonneg (by omega)
    have q1 : IntKind.i64.wrap ((60 * (T : Int) + y / F).tdiv 3600) = ((T / 60 : Nat) : Int) := by
      rw [Int.tdiv_eq_ediv_of_nonneg (by omega), i64 (by omega)]; omega
    have q2 : (IntKind.i64.wrap ((60 * (T : Int) + y / F).tdiv 60)).tmod 60 = ((T % 60 : Nat) : Int) := by
      rw [q0, i64 (by omega), Int.tmod_eq_emod_of_nonneg (by omega)]; omega
    have q3 : (60 * (T : Int) + y / F).tmod 60 = y / F := by
      rw [Int.tmod_eq_emod_of_nonneg (by omega)]; omega
    rw [q1, q2, q3]
  by_cases hb : T % 10 = 0
  · rw [if_pos hb] at p2
    have e12 : ¬ 60 * F ≤ n % (600 * F - 9 * missN F D) := by omega
    simp +contextual (disch := omega) only [↓AM, ↓AV, AP, CQ, i64, hhA, hhB, hzA, u0, uN, ew, e9, e10, e11, e12, gZ, rdp_n4]
    exact fin h4 _ f4 p2.2
  · rw [if_neg hb] at p2
    obtain ⟨p3, p4, p5, p6⟩ := p2
    have m0 : 0 ≤ missN F D * (1 + ((T % 10 - 1 : Nat) : Int)) := Int.mul_nonneg hd.1 (by omega)
    have m1 : missN F D * (1 + ((T % 10 - 1 : Nat) : Int)) ≤ 4 * 10 := Int.mul_le_mul hd.2 (by omega) (by omega) (by omega)
    have t3 : (n % (600 * F - 9 * missN F D) - 60 * F).tdiv (60 * F - missN F D) = ((T % 10 - 1 : Nat) : Int) := by rw [Int.tdiv_eq_ediv_of_nonneg p5]; exact p4
    have t4 : (60 * F - missN F D = 0) = False := eq_false (by omega)
    have t5 : IntKind.i64.wrap ((T % 10 - 1 : Nat) : Int) = ((T % 10 - 1 : Nat) : Int) := i64 (by omega)
    have t6 : IntKind.i64.wrap (1 + ((T % 10 - 1 : Nat) : Int)) = 1 + ((T % 10 - 1 : Nat) : Int) := i64 (by omega)
    have t7 : IntKind.i64.wrap (missN F D * (1 + ((T % 10 - 1 : Nat) : Int))) = missN F D * (1 + ((T % 10 - 1 : Nat) : Int)) := i64 (by omega)
    have t8 : IntKind.i64.wrap (n + (T : Int) / 10 * 9 * missN F D + missN F D * (1 + ((T % 10 - 1 : Nat) : Int))) = n + (T : Int) / 10 * 9 * missN F D + missN F D * (1 + ((T % 10 - 1 : Nat) : Int)) := i64 (by omega)
    have t9 : IntKind.i64.wrap (n % (600 * F - 9 * missN F D) - 60 * F) = n % (600 * F - 9 * missN F D) - 60 * F := i64 (by omega)
    simp +contextual (disch := omega) only [↓AM, ↓AV, AP, CQ, i64, hhA, hhB, hzA, u0, uN, ew, e9, e10, e11, p3, t3, t4, t5, t6, t9]
    refine (c_dropped hF).use ?_
    rintro _ h5 w5 ⟨rfl, fm5⟩
    have f5 := f4.trans fm5 fun _ _ f => f
    obtain ⟨⟨u0, uN⟩, gZ⟩ := rds h5 f5
    simp +contextual (disch := omega) only [↓AM, ↓AV, AP, CQ, i64, hhA, hhB, hzA, u0, uN, ew, e9, e10, e11, p3, t3, t4, t5, t6, t7, t8, t9, gZ, rdp_n4]
    exact fin h5 _ f5 p6
theorem ms_mod {d : Int} (H M : Nat) : ms d (60 * H + M) = ms d M := by unfold ms; rw [show (60 * H + M) % 10 = M % 10 by omega]
theorem msI (d : Int) (m : Nat) : (if (m : Int) % 10 = 0 then 0 else d) = ms d m := by
  unfold ms
  by_cases h : m % 10 = 0
  · rw [if_pos h, if_pos (by omega)]
  · rw [if_neg h, if_neg (by omega)]
end Go.Proofs.Ytbfbgkhlngkifaa.Nu

/- The same time of day at another rate. Plain theorems over the abstract machine.
   Conditions: none. -/
namespace Go.Proofs.Ytbfbgkhlngkifaa.Nu
open Go Go.RowKit Go.Proofs.Ytbfbgkhlngkifaa.Am Go.Proofs.Ytbfbgkhlngkifaa.Af Go.Proofs.Ytbfbgkhlngkifaa.Md Go.Proofs.Ytbfbgkhlngkifaa.Ma
set_option linter.unusedVariables false
set_option linter.unusedSimpArgs false
set_option linter.defProp false
set_option maxRecDepth 20000
set_option maxHeartbeats 2000000

theorem cntZ_b {F H M S f : Int} {D : Bool} (hF : 1 ≤ F ∧ F ≤ 60) (hok : okC F H M S f) : 0 ≤ cntZ F D H M S f ∧ cntZ F D H M S f ≤ 6000000 := by
  obtain ⟨⟨h1, h2⟩, h3, h4⟩ := hok
  obtain ⟨m, rfl⟩ : ∃ m : Nat, M = (m : Int) := ⟨M.toNat, by omega⟩
  have hd := miss_b D hF
  rw [← cnt_same h1.1]
  have bH : 0 ≤ H * (3600 * F - 54 * missN F D) ∧ H * (3600 * F - 54 * missN F D) ≤ 23 * 216000 := ⟨Int.mul_nonneg h1.1 (by omega), Int.mul_le_mul h1.2 (by omega) (by omega) (by omega)⟩
  have bS : 0 ≤ S * F ∧ S * F ≤ 59 * 60 := ⟨Int.mul_nonneg h3.1 (by omega), Int.mul_le_mul h3.2 hF.2 (by omega) (by omega)⟩
  have bh := hourN_b hF hd m
  by_cases e : (m : Int) % 10 = 0
  · rw [if_pos e]; omega
  · rw [if_neg e]
    obtain ⟨k, rfl⟩ : ∃ k, m = k + 1 := ⟨m - 1, by omega⟩
    have bk := hourN_b hF hd k
    have : hourN F (missN F D) (k + 1) ≥ 56 := by unfold hourN; split <;> omega
    omega
theorem div_cross {a b c d : Nat} (hb : 0 < b) (hd : 0 < d) (h : a * d = c * b) : a / b = c / d := by
  have e1 : a * d / (b * d) = a / b := Nat.mul_div_mul_right a b hd
  have e2 : c * b / (d * b) = c / d := Nat.mul_div_mul_right c d hb
  rw [← e1, h, Nat.mul_comm b d, e2]
theorem red (a b : Nat) : a = Nat.gcd a b * (a / Nat.gcd a b) ∧ b = Nat.gcd a b * (b / Nat.gcd a b) :=
  ⟨(Nat.mul_div_cancel' (Nat.gcd_dvd_left a b)).symm, (Nat.mul_div_cancel' (Nat.gcd_dvd_right a b)).symm⟩
theorem up_pos {F : Nat} {D : Bool} (hF : 1 ≤ F ∧ F ≤ 60) : 0 < upN F D ∧ upN F D ≤ 60000 := by unfold upN; split <;> omega
theorem dn_pos {D : Bool} : 0 < dnN D ∧ dnN D ≤ 1001 := by unfold dnN; split <;> omega
def cvN (n F : Nat) (D : Bool) (G : Nat) (E : Bool) : Nat := n * dnN D * upN G E / (1 * upN F D * dnN E)
theorem cv_same {n F G : Nat} {D E : Bool} (hF : 1 ≤ F ∧ F ≤ 60) (hG : 1 ≤ G ∧ G ≤ 60) {A B C K g2 p q g4 : Nat} (hA : A = upN F D / rtG F D) (hB : B = dnN D / rtG F D) (hC : C = upN G E / rtG G E) (hK : K = dnN E / rtG G E)
    (hg2 : g2 = Nat.gcd (n * B) (1 * A)) (hp : p = n * B / g2) (hq : q = 1 * A / g2) (hg4 : g4 = Nat.gcd (p * C) (q * K)) : (p * C / g4) / (q * K / g4) = cvN n F D G E := by
  obtain ⟨r1, r2⟩ := red (upN F D) (dnN D)
  obtain ⟨r3, r4⟩ := red (upN G E) (dnN E)
  obtain ⟨r5, r6⟩ := red (n * B) (1 * A)
  obtain ⟨r7, r8⟩ := red (p * C) (q * K)
  rw [← hg4] at r7 r8
  rw [← hg2, ← hp] at r5
  rw [← hg2, ← hq] at r6
  have u1 := up_pos (D := D) hF
  have u2 := up_pos (D := E) hG
  have d1 := dn_pos (D := D)
  have d2 := dn_pos (D := E)
  have r1 : upN F D = rtG F D * A := by rw [hA]; exact r1
  have r2 : dnN D = rtG F D * B := by rw [hB]; exact r2
  have r3 : upN G E = rtG G E * C := by rw [hC]; exact r3
  have r4 : dnN E = rtG G E * K := by rw [hK]; exact r4
  have hA0 : 0 < A := Nat.pos_of_ne_zero fun e => by rw [e, Nat.mul_zero] at r1; omega
  have hK0 : 0 < K := Nat.pos_of_ne_zero fun e => by rw [e, Nat.mul_zero] at r4; omega
  have hq0 : 0 < q := Nat.pos_of_ne_zero fun e => by rw [e, Nat.mul_zero] at r6; omega
  have hqK : 0 < q * K := Nat.mul_pos hq0 hK0
  have hg40 : 0 < g4 := by rw [hg4]; exact Nat.gcd_pos_of_pos_right _ hqK
  have e1 : (p * C / g4) / (q * K / g4) = (p * C) / (q * K) := by
    refine div_cross ?_ hqK ?_
    · exact Nat.pos_of_ne_zero fun e => by rw [e, Nat.mul_zero] at r8; omega
    · conv => lhs; rw [r8]
      conv => rhs; rw [r7]
      generalize p * C / g4 = x
      generalize q * K / g4 = z
      ac_rfl
  rw [e1, cvN]
  refine div_cross hqK (Nat.mul_pos (by omega) (by omega)) ?_
  rw [r1, r2, r3, r4]
  have e2 : n * (rtG F D * B) * (rtG G E * C) * (q * K) = n * B * (rtG F D * rtG G E * C * q * K) := by ac_rfl
  have e3 : p * C * (1 * (rtG F D * A) * (rtG G E * K)) = (1 * A) * (rtG F D * rtG G E * C * p * K) := by ac_rfl
  rw [e2, e3, r5, r6]
  ac_rfl
theorem nb_find {F : Int} {D : Bool} {N : Int} (hF : 1 ≤ F ∧ F ≤ 60) (h0 : 0 ≤ N) (h1 : N < 144 * (600 * F - 9 * missN F D)) : ∃ (T : Nat) (y : Int), T < 1440 ∧ ms (missN F D) T ≤ y ∧ y < 60 * F ∧ pre (60 * F) (missN F D) T + (y - ms (missN F D) T) = N := by
  obtain ⟨T, y, a, b, c, d⟩ := find (c := 60 * F) (d := missN F D) h0 (by omega)
  exact ⟨T, y, a, c, d, b.symm⟩
end Go.Proofs.Ytbfbgkhlngkifaa.Nu

/- Codes of numbers, further codes, the code at a movie time: the program's, without drop. Plain theorems over the abstract machine.
   Conditions: none. -/
namespace Go.Proofs.Ytbfbgkhlngkifaa.Mv
open Go Go.RowKit Go.Proofs.Ytbfbgkhlngkifaa.Am Go.Proofs.Ytbfbgkhlngkifaa.Af Go.Proofs.Ytbfbgkhlngkifaa.Md Go.Proofs.Ytbfbgkhlngkifaa.Nu
set_option linter.unusedVariables false
set_option linter.unusedSimpArgs false
set_option linter.defProp false
set_option maxRecDepth 20000
set_option maxHeartbeats 4000000

theorem pre0 (c : Int) : ∀ T : Nat, Ma.pre c 0 T = c * T
  | 0 => by show (0 : Int) = c * ((0 : Nat) : Int); simp
  | T + 1 => by
    show Ma.pre c 0 T + (c - Ma.ms 0 T) = _
    rw [pre0 c T]
    have : Ma.ms 0 T = 0 := by unfold Ma.ms; split <;> rfl
    rw [this, Int.natCast_add, Int.mul_add]
    simp
theorem miss0 (F : Int) : missN F false = 0 := rfl
/-- The code of a number. -/
def CodN (F n : Int) (v : Value) : Prop := ∃ (T : Nat) (y : Int), T < 1440 ∧ 0 ≤ y ∧ y < 60 * F ∧ 60 * F * T + y = n ∧ v = codV F T y
theorem CodN.inj {F n : Int} {v v' : Value} (hF : 1 ≤ F) (a : CodN F n v) (b : CodN F n v') : v = v' := by
  obtain ⟨T, y, h1, h2, h3, h4, rfl⟩ := a
  obtain ⟨U, z, k1, k2, k3, k4, rfl⟩ := b
  have key : ∀ (T U : Nat) (y z : Int), 0 ≤ y → y < 60 * F → 0 ≤ z → T < U → 60 * F * T + y < 60 * F * U + z := by
    intro T U y z hy0 hy hz hlt
    have : 60 * F * ((T + 1 : Nat) : Int) ≤ 60 * F * (U : Int) := Int.mul_le_mul_of_nonneg_left (by omega) (by omega)
    rw [Int.natCast_add, Int.mul_add] at this
    have e : 60 * F * ((1 : Nat) : Int) = 60 * F := by simp
    omega
  rcases Nat.lt_trichotomy T U with h | h | h
  · have := key T U y z h2 h3 k2 h; omega
  · subst h
    have : y = z := by omega
    subst this
    rfl
  · have := key U T z y k2 k3 h2 h; omega
theorem c_codeN {h : Hp} {F n : Int} (hF : 1 ≤ F ∧ F ≤ 60) (hn : 0 ≤ n ∧ n < 86400 * F) :
    ACalls Try.prog 28 [rateV F false, .int .i64 n] h fun v h' => CodN F n v ∧ Fm No h h' := by
  obtain ⟨T, y, h1, h2, h3, h4⟩ := nb_find (D := false) (N := n) hF hn.1 (by rw [miss0]; omega)
  refine (c_code (D := false) hF h1 h2 h3 h4).mono ?_
  rintro v h' ⟨rfl, f⟩
  rw [miss0, pre0] at h4
  rw [miss0] at h2
  have m0 : Ma.ms 0 T = 0 := by unfold Ma.ms; split <;> rfl
  rw [m0] at h2 h4
  exact ⟨⟨T, y, h1, h2, h3, by omega, rfl⟩, f⟩
theorem c_Code0 {h : Hp} {F n : Int} (hF : 1 ≤ F ∧ F ≤ 60) (hn : 0 ≤ n ∧ n < 86400 * F) :
    ACalls Try.prog 12 [rateV F false, .int .i64 n] h fun v h' => (∃ c, v = .tuple #[c, .int .i64 0] ∧ CodN F n c) ∧ Fm No h h' := by
  refine code_Code_ok.snd hm rfl fun w => ?_
  rw [WF_eq, code_Code, rateV]
  obtain ⟨hA, eA⟩ : ∃ g, h.new ⟨[.int .i64 F, .bool false], .own⟩ = g := ⟨_, rfl⟩
  obtain ⟨hB, eB⟩ : ∃ g, hA.new ⟨[.int .i64 0, .int .i64 0, .int .i64 0, .int .i64 0], .own⟩ = g := ⟨_, rfl⟩
  have sA : hA.size = h.size + 1 := by rw [← eA]; rfl
  have sB : hB.size = hA.size + 1 := by rw [← eB]; rfl
  have wA : Wf hA := eA ▸ w.new
  have wB : Wf hB := eB ▸ wA.new
  have fA : Fm No h hA := eA ▸ Fm.new Fm.refl
  have fB : Fm No hA hB := eB ▸ Fm.new Fm.refl
  have fAB := fA.trans fB fun _ _ f => f
  have gA : hA.get h.size = some ⟨[.int .i64 F, .bool false], .own⟩ := eA ▸ gnew
  have gB : hB.get hA.size = some ⟨[.int .i64 0, .int .i64 0, .int .i64 0, .int .i64 0], .own⟩ := eB ▸ gnew
  have gAB := fB.keep wA gA (fun f => f)
  have u1 : ∀ g, Fm No hB g → g.rdN h.size 0 2 = some [.int .i64 F, .bool false] := fun g fg => rdN_mk (fg.keep wB gAB (fun f => f)) (Nat.le_refl 2)
  have u := u1 hB Fm.refl
  simp +contextual (disch := omega) only [↓AM, ↓AV, AP, CQ, eA, eB, u]
  refine (c_chk (F := F) (D := false)).use ?_
  rintro _ h1 w1 ⟨rfl, f1⟩
  have e1 : chkR F false = 0 := if_pos ⟨hF, fun q => by cases q⟩
  have u := u1 h1 f1
  have gB1 := f1.keep wB gB (fun f => f)
  obtain ⟨hC, eC⟩ : ∃ g, h1.new ⟨[.int .i64 F, .bool false], .own⟩ = g := ⟨_, rfl⟩
  have wC : Wf hC := eC ▸ w1.new
  have fC : Fm No h1 hC := eC ▸ Fm.new Fm.refl
  have gC : hC.get h1.size = some ⟨[.int .i64 F, .bool false], .own⟩ := eC ▸ gnew
  have uC : ∀ g, Fm No hC g → g.rdN h1.size 0 2 = some [.int .i64 F, .bool false] := fun g fg => rdN_mk (fg.keep wC gC (fun f => f)) (Nat.le_refl 2)
  have u2 := uC hC Fm.refl
  have hn0 : ¬ n < 0 := by omega
  simp +contextual (disch := omega) only [↓AM, ↓AV, AP, CQ, eA, eB, eC, u, u2, e1, hn0]
  refine (c_day (F := F) (D := false) hF).use ?_
  rintro _ h2 w2 ⟨rfl, f2⟩
  have hday : 144 * (600 * F - 9 * missN F false) = 86400 * F := by rw [miss0]; omega
  have hn1 : ¬ 86400 * F ≤ n := by omega
  have u2 := uC h2 f2
  rw [hday]
  simp +contextual (disch := omega) only [↓AM, ↓AV, AP, CQ, eA, eB, eC, u, u2, e1, hn0, hn1]
  refine (c_codeN hF hn).use ?_
  rintro v h3 w3 ⟨cn, f3⟩
  have f13 := (fC.trans f2 fun _ _ f => f).trans f3 fun _ _ f => f
  have gB3 := f13.keep w1 gB1 (fun f => f)
  have cn' := cn
  obtain ⟨T, y, -, -, -, -, rfl⟩ := cn'
  simp +contextual (disch := omega) only [↓AM, ↓AV, AP, CQ, gB3, rdp_n4, codV, codeV]
  exact ⟨⟨_, rfl, cn⟩, ((fAB.trans f1 fun _ _ f => f).trans f13 fun _ _ f => f).put fun hlt => absurd hlt (by omega)⟩
end Go.Proofs.Ytbfbgkhlngkifaa.Mv

/- A code further on, and the code at a movie time: the program's, without drop. Plain theorems over the abstract machine.
   Conditions: none. -/
namespace Go.Proofs.Ytbfbgkhlngkifaa.Mv
open Go Go.RowKit Go.Proofs.Ytbfbgkhlngkifaa.Am Go.Proofs.Ytbfbgkhlngkifaa.Af Go.Proofs.Ytbfbgkhlngkifaa.Md Go.Proofs.Ytbfbgkhlngkifaa.Nu
set_option linter.unusedVariables false
set_option linter.unusedSimpArgs false
set_option linter.defProp false
set_option maxRecDepth 20000
set_option maxHeartbeats 4000000

theorem day0 (F : Int) : 144 * (600 * F - 9 * missN F false) = 86400 * F := by rw [miss0]; omega
theorem c_around0 {h : Hp} {F n : Int} (hF : 1 ≤ F ∧ F ≤ 60) (hn : 0 ≤ n ∧ n ≤ 2199023255552) :
    ACalls Try.prog 31 [rateV F false, .int .i64 n] h fun v h' => v = .int .i64 (n % (86400 * F)) ∧ Fm No h h' := by
  refine code_steps__around_ok.snd hm rfl fun w => ?_
  rw [WF_eq, code_steps__around, rateV]
  obtain ⟨hA, eA⟩ : ∃ g, h.new ⟨[.int .i64 F, .bool false], .own⟩ = g := ⟨_, rfl⟩
  have wA : Wf hA := eA ▸ w.new
  have fA : Fm No h hA := eA ▸ Fm.new Fm.refl
  have gA : hA.get h.size = some ⟨[.int .i64 F, .bool false], .own⟩ := eA ▸ gnew
  have uA : ∀ g, Fm No hA g → g.rdN h.size 0 2 = some [.int .i64 F, .bool false] := fun g fg => rdN_mk (fg.keep wA gA (fun f => f)) (Nat.le_refl 2)
  obtain ⟨D, hD⟩ : ∃ D, 86400 * F = D := ⟨_, rfl⟩
  have hDb : 86400 ≤ D ∧ D ≤ 5184000 := by omega
  have u := uA hA Fm.refl
  simp +contextual (disch := omega) only [↓AM, ↓AV, AP, CQ, eA, u]
  refine (c_day (F := F) (D := false) hF).use ?_
  rintro _ h1 w1 ⟨rfl, f1⟩
  rw [day0, hD]
  have e1 : n.tmod D = n % D := Int.tmod_eq_emod_of_nonneg hn.1
  have b1 : 0 ≤ n % D ∧ n % D < D := ⟨Int.emod_nonneg _ (by omega), Int.emod_lt_of_pos _ (by omega)⟩
  have nz : ¬ D = 0 := by omega
  have nzE : EqI D 0 = False := eq_false nz
  have u1 := uA h1 f1
  simp +contextual (disch := omega) only [↓AM, ↓AV, AP, CQ, eA, u1, e1, nz, nzE]
  refine ⟨⟨_, rfl, rfl⟩, ⟨_, rfl, rfl⟩, ?_⟩
  refine (c_day (F := F) (D := false) hF).use ?_
  rintro _ h2 w2 ⟨rfl, f2⟩
  rw [day0, hD]
  have f02 := f1.trans f2 fun _ _ f => f
  have u2 := uA h2 f02
  simp +contextual (disch := omega) only [↓AM, ↓AV, AP, CQ, eA, u2, e1, nz, nzE]
  refine ⟨⟨_, rfl, rfl⟩, ?_⟩
  refine (c_day (F := F) (D := false) hF).use ?_
  rintro _ h3 w3 ⟨rfl, f3⟩
  rw [day0, hD]
  have e2 : (n % D + D).tmod D = n % D := by
    rw [Int.tmod_eq_emod_of_nonneg (by omega), Int.add_emod_right]
    exact Int.emod_emod_of_dvd _ (Int.dvd_refl _)
  have e3 : IntKind.i64.wrap (n % D + D) = n % D + D := i64 (by omega)
  simp +contextual (disch := omega) only [↓AM, ↓AV, AP, CQ, eA, e1, e3, e2, nz, nzE, ne_eq, not_false_eq_true, true_and]
  exact (fA.trans f02 fun _ _ f => f).trans f3 fun _ _ f => f
theorem okC_cod {F : Int} {T : Nat} {y : Int} (hF : 1 ≤ F) (hT : T < 1440) (h0 : 0 ≤ y) (hy : y < 60 * F) : okC F ((T / 60 : Nat) : Int) ((T % 60 : Nat) : Int) (y / F) (y % F) := by
  obtain ⟨-, -, h3, h4, h5, h6⟩ := split_eq (T := T) hF h0 hy
  unfold okC
  have : T / 60 ≤ 23 := by omega
  have : T % 60 ≤ 59 := by omega
  omega
theorem cnt_cod {F : Int} {T : Nat} {y : Int} : cntZ F false ((T / 60 : Nat) : Int) ((T % 60 : Nat) : Int) (y / F) (y % F) = 60 * F * T + y := by
  unfold cntZ
  rw [miss0, Int.zero_mul, Int.sub_zero]
  have e1 : ((T / 60 : Nat) : Int) * 60 + ((T % 60 : Nat) : Int) = (T : Int) := by omega
  rw [e1, Int.add_mul, Int.add_assoc]
  have e2 : y / F * F + y % F = y := by rw [Int.mul_comm]; exact Int.mul_ediv_add_emod y F
  rw [e2]
  grind
theorem c_Add0 {h : Hp} {F n k : Int} {c : Value} (hF : 1 ≤ F ∧ F ≤ 60) (cn : CodN F n c) (hn : 0 ≤ n ∧ n < 86400 * F) (hk : 0 ≤ k ∧ k ≤ 1000000) :
    ACalls Try.prog 13 [rateV F false, c, .int .i64 k] h fun v h' => (∃ c', v = .tuple #[c', .int .i64 0] ∧ CodN F ((n + k) % (86400 * F)) c') ∧ Fm No h h' := by
  refine code_Add_ok.snd hm rfl fun w => ?_
  rw [WF_eq, code_Add]
  obtain ⟨T, y, hT, hy0, hy1, hTy, rfl⟩ := cn
  have hok := okC_cod hF.1 hT hy0 hy1
  have hcnt := cnt_cod (F := F) (T := T) (y := y)
  rw [hTy] at hcnt
  simp only [codV]
  generalize ((T / 60 : Nat) : Int) = H at *
  generalize ((T % 60 : Nat) : Int) = M at *
  generalize y / F = S at *
  generalize y % F = f at *
  obtain ⟨hA, eA⟩ : ∃ g, h.new ⟨[.int .i64 F, .bool false], .own⟩ = g := ⟨_, rfl⟩
  obtain ⟨hB, eB⟩ : ∃ g, hA.new ⟨[.int .i64 H, .int .i64 M, .int .i64 S, .int .i64 f], .own⟩ = g := ⟨_, rfl⟩
  obtain ⟨hC, eC⟩ : ∃ g, hB.new ⟨[.int .i64 0, .int .i64 0, .int .i64 0, .int .i64 0], .own⟩ = g := ⟨_, rfl⟩
  have sA : hA.size = h.size + 1 := by rw [← eA]; rfl
  have sB : hB.size = hA.size + 1 := by rw [← eB]; rfl
  have wA : Wf hA := eA ▸ w.new
  have wB : Wf hB := eB ▸ wA.new
  have wC : Wf hC := eC ▸ wB.new
  have fA : Fm No h hA := eA ▸ Fm.new Fm.refl
  have fB : Fm No hA hB := eB ▸ Fm.new Fm.refl
  have fC : Fm No hB hC := eC ▸ Fm.new Fm.refl
  have fh : Fm No h hC := (fA.trans fB fun _ _ f => f).trans fC fun _ _ f => f
  have gA : hA.get h.size = some ⟨[.int .i64 F, .bool false], .own⟩ := eA ▸ gnew
  have gB : hB.get hA.size = some ⟨[.int .i64 H, .int .i64 M, .int .i64 S, .int .i64 f], .own⟩ := eB ▸ gnew
  have gC : hC.get hB.size = some ⟨[.int .i64 0, .int .i64 0, .int .i64 0, .int .i64 0], .own⟩ := eC ▸ gnew
  have gA' := (fB.trans fC fun _ _ f => f).keep wA gA (fun f => f)
  have gB' := fC.keep wB gB (fun f => f)
  have u1 : ∀ g, Fm No hC g → g.rdN h.size 0 2 = some [.int .i64 F, .bool false] ∧ g.rdN hA.size 0 4 = some [.int .i64 H, .int .i64 M, .int .i64 S, .int .i64 f] := fun g fg => ⟨rdN_mk (fg.keep wC gA' (fun f => f)) (Nat.le_refl 2), rdN_mk (fg.keep wC gB' (fun f => f)) (Nat.le_refl 4)⟩
  have u := u1 hC Fm.refl
  simp +contextual (disch := omega) only [↓AM, ↓AV, AP, CQ, eA, eB, eC, u, codeV]
  refine (c_checked (F := F) (H := H) (M := M) (S := S) (f := f) (D := false)).use ?_
  rintro _ h1 w1 ⟨rfl, f1⟩
  have e1 : cErr F false H M S f = 0 := by
    unfold cErr rErr
    rw [if_pos ⟨hF, fun q => by cases q⟩, if_pos hok, if_neg (fun q => by have := q.2.2; rw [miss0] at this; have := hok.2.2; omega)]
  rw [e1]
  have u := u1 h1 f1
  simp +contextual (disch := omega) only [↓AM, ↓AV, AP, CQ, eA, eB, eC, u, codeV]
  refine c_cwithin.use ?_
  rintro _ g9 w9 ⟨rfl, e9⟩
  subst g9
  have k1 : (-1099511627776 ≤ k ∧ k ≤ 1099511627776) := by omega
  obtain ⟨hD, eD⟩ : ∃ g, h1.new ⟨[.int .i64 F, .bool false], .own⟩ = g := ⟨_, rfl⟩
  have wD : Wf hD := eD ▸ w1.new
  have fD : Fm No h1 hD := eD ▸ Fm.new Fm.refl
  have gD : hD.get h1.size = some ⟨[.int .i64 F, .bool false], .own⟩ := eD ▸ gnew
  have f1D := f1.trans fD fun _ _ f => f
  have u := u1 hD f1D
  have uD : ∀ g, Fm No hD g → g.rdN h1.size 0 2 = some [.int .i64 F, .bool false] := fun g fg => rdN_mk (fg.keep wD gD (fun f => f)) (Nat.le_refl 2)
  have u2 := uD hD Fm.refl
  have uu := u1 h1 f1
  simp +contextual (disch := omega) only [↓AM, ↓AV, AP, CQ, eA, eB, eC, eD, u, uu, u2, k1, codeV]
  refine (c_count (F := F) (H := H) (M := M) (S := S) (f := f) (D := false) hF hok).use ?_
  rintro _ h2 w2 ⟨rfl, f2⟩
  rw [hcnt]
  have u2 := uD h2 f2
  simp +contextual (disch := omega) only [↓AM, ↓AV, AP, CQ, eA, eB, eC, eD, u2, codeV, i64]
  refine ⟨⟨_, rfl, rfl⟩, ⟨_, rfl, rfl⟩, ?_⟩
  refine (c_around0 (F := F) (n := n + k) hF (by omega)).use ?_
  rintro _ h3 w3 ⟨rfl, f3⟩
  have f23 := f2.trans f3 fun _ _ f => f
  have u2 := uD h3 f23
  simp +contextual (disch := omega) only [↓AM, ↓AV, AP, CQ, eA, eB, eC, eD, u2, codeV, i64]
  refine ⟨⟨_, rfl, rfl⟩, ?_⟩
  refine (c_codeN hF ⟨Int.emod_nonneg _ (by omega), Int.emod_lt_of_pos _ (by omega)⟩).use ?_
  rintro v h4 w4 ⟨cn, f4⟩
  have f14 := (fD.trans f23 fun _ _ f => f).trans f4 fun _ _ f => f
  have fC4 := f1.trans f14 fun _ _ f => f
  have gC4 := fC4.keep wC gC (fun f => f)
  have cn' := cn
  obtain ⟨T', y', -, -, -, -, rfl⟩ := cn'
  simp +contextual (disch := omega) only [↓AM, ↓AV, AP, CQ, gC4, rdp_n4, codV, codeV]
  exact ⟨⟨_, rfl, cn⟩, (fh.trans fC4 fun _ _ f => f).put fun hlt => absurd hlt (by omega)⟩
end Go.Proofs.Ytbfbgkhlngkifaa.Mv

/- The code at a movie time, where a track has no edits and no drop and all is valid: the program's. Plain theorems over the abstract machine.
   Conditions: none. -/
namespace Go.Proofs.Ytbfbgkhlngkifaa.Mv
open Go Go.RowKit Go.Proofs.Ytbfbgkhlngkifaa.Am Go.Proofs.Ytbfbgkhlngkifaa.Af Go.Proofs.Ytbfbgkhlngkifaa.Md Go.Proofs.Ytbfbgkhlngkifaa.Nu
set_option linter.unusedVariables false
set_option linter.unusedSimpArgs false
set_option linter.defProp false
set_option maxRecDepth 20000
set_option maxHeartbeats 4000000

def AtP (F n : Int) (u : Value) : Prop := ∃ c, u = .tuple #[c, .bool true, .int .i64 0] ∧ CodN F n c
theorem c_At0 {h : Hp} {m : Mov} {v1 v2 v3 v4 : Value} (a1 : SlV h trkK m.trks v1) (a2 : SlV h ednK m.edns v2) (a3 : SlV h tagK m.tags v3) (a4 : SlV h filK m.fils v4) (hn : MovW m)
    {id : Int} {z d : Nat} (hc : chkE m = 0) (hz : z ≤ 1000000) (hd : 1 ≤ d ∧ d ≤ 1000) {i : Nat} {x : Trk} (hi : findT m.trks id = (i : Int)) (hx : m.trks[i]? = some x)
    (he : x.edits = []) {sc : Nat} (hsc : x.scale = (sc : Int)) (hsc2 : 1 ≤ sc ∧ sc ≤ 1000) (hl : x.smps.length ≤ 1000) (hS : ∀ s ∈ x.smps, SmpS s)
    (hb : byB x.setup) (hdb : ∀ s ∈ x.smps, byB s.data) (hnE : numE x = 0) {F : Nat} (hF : (rateF x).1 = (F : Int)) (hDf : (rateF x).2 = false) (hF2 : 1 ≤ F ∧ F ≤ 60)
    {k : Nat} (hk : bstI (z : Int) d x.scale x.smps x.smps.length = (k : Int)) {y : Smp} (hy : x.smps[k]? = some y) {nm : Int} (hnm : (numL x)[k]? = some nm) (hnb : 0 ≤ nm ∧ nm ≤ 100000000)
    {N : Nat} (hN : ((z : Int) * sc - y.pts * d) * (upN F (rateF x).2 : Nat) + nm * ((d * sc * dnN (rateF x).2 : Nat) : Int) = (N : Int)) (hN2 : N < B32 ^ 4) :
    ACalls Try.prog 11 [.agg #[.int .i64 m.scale, .string m.title, v1, v2, v3, v4], .int .i64 id, .agg #[.int .i64 (z : Int), .int .i64 (d : Int)]] h fun u h' =>
      AtP (F : Int) (((N / (d * sc * dnN (rateF x).2) : Nat) : Int) % (86400 * (F : Int))) u ∧ Fm No h h' := by
  refine code_At_ok.snd hm rfl fun w => ?_
  rw [WF_eq, code_At]
  have hnt := hn.trks
  obtain ⟨ta, tc, rfl⟩ := a1.val
  obtain ⟨da, dc, rfl⟩ := a2.val
  obtain ⟨ga, gc, rfl⟩ := a3.val
  obtain ⟨fa, fc, rfl⟩ := a4.val
  obtain ⟨hB, eB⟩ : ∃ g, h.new ⟨[.int .i64 m.scale, .string m.title, .slice ta m.trks.length tc, .slice da m.edns.length dc, .slice ga m.tags.length gc, .slice fa m.fils.length fc], .own⟩ = g := ⟨_, rfl⟩
  have sB : hB.size = h.size + 1 := by rw [← eB]; rfl
  have wB : Wf hB := eB ▸ w.new
  have f0 : Fm No h hB := eB ▸ Fm.new Fm.refl
  have gB : hB.get h.size = some ⟨[.int .i64 m.scale, .string m.title, .slice ta m.trks.length tc, .slice da m.edns.length dc, .slice ga m.tags.length gc, .slice fa m.fils.length fc], .own⟩ := eB ▸ gnew
  obtain ⟨hC, eC⟩ : ∃ g, hB.new ⟨[.int .i64 (z : Int), .int .i64 (d : Int)], .own⟩ = g := ⟨_, rfl⟩
  have sC : hC.size = hB.size + 1 := by rw [← eC]; rfl
  have wC : Wf hC := eC ▸ wB.new
  have fC : Fm No hB hC := eC ▸ Fm.new Fm.refl
  have gC : hC.get hB.size = some ⟨[.int .i64 (z : Int), .int .i64 (d : Int)], .own⟩ := eC ▸ gnew
  obtain ⟨hD, eD⟩ : ∃ g, hC.new ⟨[.int .i64 0, .int .i64 0, .int .i64 0, .int .i64 0], .own⟩ = g := ⟨_, rfl⟩
  have sD : hD.size = hC.size + 1 := by rw [← eD]; rfl
  have wD : Wf hD := eD ▸ wC.new
  have fD : Fm No hC hD := eD ▸ Fm.new Fm.refl
  have gD : hD.get hC.size = some ⟨[.int .i64 0, .int .i64 0, .int .i64 0, .int .i64 0], .own⟩ := eD ▸ gnew
  have gBD := (fC.trans fD fun _ _ f => f).keep wB gB (fun f => f)
  have gCD := fD.keep wC gC (fun f => f)
  have f0D := (f0.trans fC fun _ _ f => f).trans fD fun _ _ f => f
  have rds : ∀ g, Fm No hD g → g.rdN h.size 0 6 = some [.int .i64 m.scale, .string m.title, .slice ta m.trks.length tc, .slice da m.edns.length dc, .slice ga m.tags.length gc, .slice fa m.fils.length fc] ∧ (g.rdN hB.size 0 2 = some [.int .i64 (z : Int), .int .i64 (d : Int)] ∧ (g.rd hB.size 0 = some (.int .i64 (z : Int)) ∧ g.rd hB.size 1 = some (.int .i64 (d : Int)))) := fun g fg => by
    refine ⟨?_, ?_, rd_mk (fg.keep wD gCD (fun f => f)), rd_mk (fg.keep wD gCD (fun f => f))⟩
    · rw [rdN_mk (fg.keep wD gBD (fun f => f)) (Nat.le_refl 6)]; rfl
    · rw [rdN_mk (fg.keep wD gCD (fun f => f)) (Nat.le_refl 2)]; rfl
  have u := rds hD Fm.refl
  simp +contextual (disch := omega) only [↓AM, ↓AV, AP, CQ, eB, eC, eD, u]
  refine (c_Shown0 (a1.keep w f0D) (a2.keep w f0D) (a3.keep w f0D) (a4.keep w f0D) hn hc (by omega) hi hx he (by omega) hl hS).use ?_
  rintro _ h1 w1 ⟨rfl, f1⟩
  have f01 := f0D.trans f1 fun _ _ f => f
  have u := rds h1 f1
  simp +contextual (disch := omega) only [↓AM, ↓AV, AP, CQ, eB, eC, eD, u]
  refine (c_newReader (a1.keep w f01) (a2.keep w f01) (a3.keep w f01) (a4.keep w f01) hnt hi hx hb hl hdb).use ?_
  rintro uu h2 w2 ⟨rp, f2⟩
  have f12 := f1.trans f2 fun _ _ f => f
  unfold RdrP at rp
  rw [if_pos hnE] at rp
  obtain ⟨b, v, e, r, s, oz, cz, rfl, gR, r5, r9, r10, r11, rn⟩ := rp
  obtain ⟨oe, ce, rfl⟩ := r9.val
  have hel : x.edits.length = 0 := by rw [he]; rfl
  rw [hel] at gR
  have u := rds h2 f12
  simp +contextual (disch := omega) only [↓AM, ↓AV, AP, CQ, eB, eC, eD, u]
  refine (c_cratio (z := (z : Int)) (d := d) (by omega) (by omega) (by omega)).use ?_
  rintro _ h3 w3 ⟨b3, rfl, hb3, q3, f3⟩
  have f13 := f12.trans f3 fun _ _ f => f
  have gR3 := f3.keep w2 gR (fun f => f)
  simp +contextual (disch := omega) only [↓AM, ↓AV, AP, CQ, eB, eC, eD, u]
  refine (c_at0 gR3 (r11.keep w2 f3) (rn.keep w2 f3 (fun _ _ f => f)) hl hS hF hF2 hsc hsc2 q3 hz hd.2 hk hy hnm hnb hN hN2).use ?_
  rintro _ h4 w4 ⟨rfl, f4⟩
  rw [hDf, day0]
  have f14 := f13.trans f4 fun _ _ f => f
  have gR4 := f4.keep w3 gR3 (fun f => f)
  have u17 : h4.rdN b 17 2 = some [.int .i64 (F : Int), .bool false] := by rw [rdN_mk gR4 (show 17 + 2 ≤ 20 by decide)]; show some [Value.int .i64 (rateF x).1, .bool (rateF x).2] = _; rw [hF, hDf]
  simp +contextual (disch := omega) only [↓AM, ↓AV, AP, CQ, eB, eC, eD, u17]
  refine (c_codeN (F := (F : Int)) (by omega) ⟨Int.emod_nonneg _ (by omega), Int.emod_lt_of_pos _ (by omega)⟩).use ?_
  rintro vv h5 w5 ⟨cn, f5⟩
  have f15 := f14.trans f5 fun _ _ f => f
  have gD5 := f15.keep wD gD (fun f => f)
  have cn' := cn
  obtain ⟨T', y', -, -, -, -, rfl⟩ := cn'
  simp +contextual (disch := omega) only [↓AM, ↓AV, AP, CQ, gD5, rdp_n4, codV, codeV]
  exact ⟨⟨_, rfl, cn⟩, (f0D.trans f15 fun _ _ f => f).put fun hlt => absurd hlt (by omega)⟩
end Go.Proofs.Ytbfbgkhlngkifaa.Mv

/- Tracks of codes checked: the whole. Plain theorems over the abstract machine.
   Conditions: none. -/
namespace Go.Proofs.Ytbfbgkhlngkifaa.Md
open Go Go.RowKit Go.Proofs.Ytbfbgkhlngkifaa.Am Go.Proofs.Ytbfbgkhlngkifaa.Af
set_option linter.unusedVariables false
set_option linter.unusedSimpArgs false
set_option linter.defProp false
set_option maxRecDepth 20000
set_option maxHeartbeats 2000000

theorem drop_el {α : Type} {xs : List α} {i : Nat} {x : α} (h : xs[i]? = some x) : xs.drop i = x :: xs.drop (i + 1) := by
  obtain ⟨h1, h2⟩ := List.getElem?_eq_some_iff.1 h
  rw [List.drop_eq_getElem_cons h1, h2]
theorem wE_step {xs : List Sp} {i : Nat} {x : Sp} (h : xs[i]? = some x) : wE (prevP xs i) (xs.drop i) = if sE (prevP xs i) x = 0 then wE (prevP xs (i + 1)) (xs.drop (i + 1)) else sE (prevP xs i) x := by
  rw [drop_el h, show prevP xs (i + 1) = some x.1 by simp [prevP, h]]
  rfl
theorem SpA.ex {h h' : Hp} {x : Sp} {cs : List Value} (x0 : Ex h h') (a : SpA h x cs) : SpA h' x cs := by
  obtain ⟨b, e, g⟩ := a
  exact ⟨b, e, x0 _ _ g⟩
theorem nNo {h : Hp} : ∀ x, x < h.size → ¬ No x := fun _ _ f => f
theorem c_mtrack {h : Hp} {id sc : Int} {sa qa : Option Addr} {n qc : Nat} {xs : List Sp} {qr : List Value} (rd : Rd h 6 qa n qr) (row : AKd.Row (SpA h) xs qr) (hl : xs.length = n) (hn : n ≤ 1000000) :
    ACalls Try.prog 23 [.agg (trC id sc sa qa n qc).toArray] h fun v h' => v = .int .i64 (trE id sc xs) ∧ Fm No h h' := by
  refine model_CheckTrack_ok.snd hm rfl fun w => ?_
  rw [WF_eq, model_CheckTrack, trC]
  simp +contextual (disch := omega) only [↓AM, ↓AV, AP, CQ, i64]
  refine c_mwithin.use ?_
  rintro _ _ w1 ⟨rfl, rfl⟩
  have fm : Fm No h (h.new ⟨trC id sc sa qa n qc, .own⟩) := Fm.new Fm.refl
  by_cases h1 : 1 ≤ id ∧ id ≤ 1000
  case neg =>
    simp +contextual (disch := omega) only [↓AM, ↓AV, AP, CQ, i64, h1]
    exact ⟨by simp [trE, h1], fm⟩
  have d6 : ((1 : Int) ≤ 6 ∧ (6 : Int) ≤ 7) = True := by simp
  have d0 : ((0 : Int) ≤ 1099511627776) = True := by simp
  simp +contextual (disch := omega) only [↓AM, ↓AV, AP, CQ, i64, h1]
  refine c_mwithin.use ?_
  rintro _ _ w1 ⟨rfl, rfl⟩
  simp +contextual (disch := omega) only [↓AM, ↓AV, AP, CQ, i64, d6]
  refine c_l1.use ?_
  rintro _ _ w1 ⟨rfl, rfl⟩
  simp +contextual (disch := omega) only [↓AM, ↓AV, AP, CQ, i64]
  refine c_mwithin.use ?_
  rintro _ _ w1 ⟨rfl, rfl⟩
  by_cases h2 : 1 ≤ sc ∧ sc ≤ 1000000
  case neg =>
    simp +contextual (disch := omega) only [↓AM, ↓AV, AP, CQ, i64, h2]
    exact ⟨by simp [trE, h2], fm⟩
  simp +contextual (disch := omega) only [↓AM, ↓AV, AP, CQ, i64, h2]
  refine c_l2.use ?_
  rintro _ _ w1 ⟨rfl, rfl⟩
  simp +contextual (disch := omega) only [↓AM, ↓AV, AP, CQ, i64]
  refine c_l3.use ?_
  rintro _ _ w1 ⟨rfl, rfl⟩
  simp +contextual (disch := omega) only [↓AM, ↓AV, AP, CQ, i64]
  refine c_mwithin.use ?_
  rintro _ _ w1 ⟨rfl, rfl⟩
  simp +contextual (disch := omega) only [↓AM, ↓AV, AP, CQ, i64, d0]
  have e00 : ((0 : Int) < (((0 : Nat) : Int))) = False := by simp
  refine WL.mk (fun k t h' => h' = h.new ⟨trC id sc sa qa n qc, .own⟩ ∧ t = [(1, some (.pointer (some ⟨h.size, 0, none⟩))), (53, some (.slice none 0 0)), (54, some (.int .i64 ((0 : Nat) : Int))), (55, some (.int .i64 0))])
    ⟨0, rfl, rfl⟩ ?_
  rintro k t _ ⟨rfl, rfl⟩
  by_cases h4 : (400 : Int) < (n : Int)
  · simp +contextual (disch := omega) only [↓AM, ↓AV, AP, CQ, CR, i64, e00, trC, h4]
    exact ⟨by simp [trE, h1, h2, show 400 < xs.length by omega], fm⟩
  simp +contextual (disch := omega) only [↓AM, ↓AV, AP, CQ, CR, i64, e00, trC, h4]
  refine WL.mk (fun k t h' => h' = h.new ⟨trC id sc sa qa n qc, .own⟩ ∧ t = [(1, some (.pointer (some ⟨h.size, 0, none⟩))), (5, some (.int .i64 0)), (87, some (.slice none 0 0)), (88, some (.int .i64 ((0 : Nat) : Int))), (89, some (.int .i64 0))])
    ⟨0, rfl, rfl⟩ ?_
  rintro k t _ ⟨rfl, rfl⟩
  have e40 : ((1099511627776 : Int) < 0) = False := by simp
  simp +contextual (disch := omega) only [↓AM, ↓AV, AP, CQ, CR, i64, e00, e40, trC]
  have hE : trE id sc xs = wE (prevP xs 0) (xs.drop 0) := by simp [trE, h1, h2, show ¬ 400 < xs.length by omega, prevP]
  refine WL.mk (fun k t h' => Wf h' ∧ Fm No (h.new ⟨trC id sc sa qa n qc, .own⟩) h' ∧ ∃ i : Nat, i ≤ n ∧ k = n - i ∧ trE id sc xs = wE (prevP xs i) (xs.drop i) ∧
      t = [(1, some (.pointer (some ⟨h.size, 0, none⟩))), (140, some (.slice qa n qc)), (141, some (.int .i64 (n : Int))), (142, some (.int .i64 i))])
    ⟨n, w.new, Fm.refl, 0, by omega, rfl, hE, rfl⟩ ?_
  rintro k t hL ⟨wL, fm1, i, hi, rfl, hE, rfl⟩
  have hg := fm1.keep w.new gnew (fun f => f)
  have hr : hL.rdN h.size 0 11 = some (trC id sc sa qa n qc) := rdN_mk hg (Nat.le_refl 11)
  have fm2 := fm.trans fm1 (fun _ _ f => f)
  by_cases hin : i < n
  · obtain ⟨b1, o1, s1, y, c, rfl, f1, hy, ⟨b2, rfl, g2⟩, r1, r2⟩ := row_el (A := SpA h) (fun x cs a => a.len) (rd.keepW w fm2 (fun _ _ f => f)) row hl hin
    simp only [spC] at r1
    simp only [trC] at hr
    have hr2 : ∀ o, (hL.new o).rdN h.size 0 11 = some (trC id sc sa (some ⟨b1, o1, s1⟩) n qc) := fun o => by rw [rdN_keep (get_new (wL.lt hg))]; exact hr
    simp only [trC] at hr2
    simp +contextual (disch := omega) only [↓AM, ↓AV, AP, CQ, CR, i64, hin, f1, r1, hr2]
    have fm3 : Fm No h (hL.new ⟨spC y b2, .own⟩) := Fm.new fm2
    refine (c_chkS (b := b2) (i := i) (rd.keepW w fm3 nNo) (row.mono fun x cs a => a.ex (fm3.exF w nNo)) hl hy hn).use ?_
    rintro _ h2 w2 ⟨rfl, fm4⟩
    rw [wE_step hy] at hE
    have fm5 := fm3.trans fm4 fun _ _ f => f
    by_cases he : sE (prevP xs i) y = 0
    · simp +contextual (disch := omega) only [↓AM, ↓AV, AP, CQ, CR, i64, he]
      rw [if_pos he] at hE
      exact ⟨_, by omega, w2, (Fm.new fm1).trans fm4 fun _ _ f => f, i + 1, by omega, rfl, hE, rfl⟩
    · rw [if_neg he] at hE
      have he' : EqI (sE (prevP xs i) y) 0 = False := eq_false he
      simp +contextual (disch := omega) only [↓AM, ↓AV, AP, CQ, CR, i64, he']
      exact ⟨by rw [hE], fm5⟩
  · simp +contextual (disch := omega) only [↓AM, ↓AV, AP, CQ, CR, i64, hin]
    have : xs.drop i = [] := List.drop_eq_nil_of_le (by omega)
    rw [this] at hE
    exact ⟨by rw [hE]; rfl, fm2⟩
end Go.Proofs.Ytbfbgkhlngkifaa.Md

/- Tracks of codes made. Plain theorems over the abstract machine.
   Conditions: none. -/
namespace Go.Proofs.Ytbfbgkhlngkifaa.Md
open Go Go.RowKit Go.Proofs.Ytbfbgkhlngkifaa.Am Go.Proofs.Ytbfbgkhlngkifaa.Af
set_option linter.unusedVariables false
set_option linter.unusedSimpArgs false
set_option linter.defProp false
set_option maxRecDepth 20000
set_option maxHeartbeats 2000000

def zC : List Value := [.int .i64 0, .int .i64 0, .string ⟨#[]⟩, .int .i64 0, .slice none 0 0, .string ⟨#[]⟩, .string ⟨#[]⟩, .int .i64 0, .slice none 0 0, .slice none 0 0, .slice none 0 0]
def dayN (F : Int) (D : Bool) : Int := 144 * (600 * F - 9 * missN F D)
def gE (day : Int) : List Smp → Int
  | [] => 0
  | s :: ss => if s.dts < 0 ∨ day ≤ s.dts then 1 else if 0 < s.data.length then 4 else gE day ss
def xsOf (ss : List Smp) : List Sp := ss.map fun s => (s.pts, s.dur, s.dts)
def dropI (D : Bool) : Int := if D then 1 else 0
def TE (F : Int) (D : Bool) (id sc : Int) (ss : List Smp) : Int := if okR F D then (if gE (dayN F D) ss = 0 then trE id sc (xsOf ss) else gE (dayN F D) ss) else 1
def TrPost (F : Int) (D : Bool) (id sc : Int) (ss : List Smp) (h : Hp) (v : Value) (h' : Hp) : Prop :=
  ∃ cs e, v = .tuple #[.agg cs.toArray, .int .i64 e] ∧ e = TE F D id sc ss ∧ Fm No h h' ∧ (e ≠ 0 → cs = zC) ∧
    (e = 0 → ∃ sa qa qc qr, cs = trC id sc sa qa ss.length qc ∧ Rd h' 1 sa 2 ([F, dropI D].map (Value.int .u8)) ∧ Rd h' 6 qa ss.length qr ∧ ss.length ≤ qc ∧ AKd.Row (SpA h') (xsOf ss) qr)
theorem TrPost.no {F : Int} {D : Bool} {id sc : Int} {ss : List Smp} {h h' : Hp} {e : Int} (he : e = TE F D id sc ss) (hn : e ≠ 0) (fm : Fm No h h') : TrPost F D id sc ss h (.tuple #[.agg zC.toArray, .int .i64 e]) h' :=
  ⟨zC, e, rfl, he, fm, fun _ => rfl, fun h => absurd h hn⟩
def SpB (h : Hp) (oa : Option Addr) (x : Sp) (cs : List Value) : Prop := ∃ b, cs = spC x b ∧ h.get b = some ⟨(dataN x.2.2).map (Value.int .u8), .own⟩ ∧ ¬ At oa b
theorem SpB.a {h : Hp} {oa : Option Addr} {x : Sp} {cs : List Value} (a : SpB h oa x cs) : SpA h x cs := by
  obtain ⟨b, h1, h2, _⟩ := a
  exact ⟨b, h1, h2⟩
theorem gE_step {day : Int} {ss : List Smp} {i : Nat} {s : Smp} (h : ss[i]? = some s) : gE day (ss.drop i) = if s.dts < 0 ∨ day ≤ s.dts then 1 else if 0 < s.data.length then 4 else gE day (ss.drop (i + 1)) := by
  rw [drop_el h]; rfl
theorem shr_24 {n : Int} (h : 0 ≤ n) : n.fdiv (2 ^ min 24 IntKind.i64.bits) = n / 16777216 := by
  show n.fdiv 16777216 = _
  rw [Int.fdiv_eq_ediv_of_nonneg _ (by omega)]
theorem shr_16 {n : Int} (h : 0 ≤ n) : n.fdiv (2 ^ min 16 IntKind.i64.bits) = n / 65536 := by
  show n.fdiv 65536 = _
  rw [Int.fdiv_eq_ediv_of_nonneg _ (by omega)]
theorem shr_8 {n : Int} (h : 0 ≤ n) : n.fdiv (2 ^ min 8 IntKind.i64.bits) = n / 256 := by
  show n.fdiv 256 = _
  rw [Int.fdiv_eq_ediv_of_nonneg _ (by omega)]
theorem u8_mod {v : Int} : IntKind.u8.wrap v = v % 256 := by rw [IntKind.wrap_u8]
theorem rdp_n11 {h : Hp} {p : Nat} {a b c d e f g i j k l : Value} {md : Md} : (h.put p ⟨[a, b, c, d, e, f, g, i, j, k, l], md⟩).rdN p 0 11 = some [a, b, c, d, e, f, g, i, j, k, l] := by
  rw [rdN_mk gput (Nat.le_refl 11)]; rfl
theorem c_Track {h : Hp} {F : Int} {D : Bool} {id sc : Int} {a : Option Addr} {n c : Nat} {ss : List Smp} {r : List Value} (rd : Rd h 6 a n r) (row : AKd.Row (smpK.A h) ss r) (hl : ss.length = n) (hn : n ≤ 1000) :
    ACalls Try.prog 10 [rateV F D, .int .i64 id, .int .i64 sc, .slice a n c] h fun v h' => TrPost F D id sc ss h v h' := by
  refine code_Track_ok.snd hm rfl fun w => ?_
  rw [WF_eq, code_Track, rateV]
  obtain ⟨p8, hp8⟩ : ∃ p, (h.new ⟨[.int .i64 F, .bool D], .own⟩).size = p := ⟨_, rfl⟩
  have h8 : h.size ≤ p8 := by rw [← hp8]; exact Nat.le_succ _
  have h48 : h.size ≠ p8 := by rw [← hp8]; exact Nat.ne_of_lt (Nat.lt_succ_self _)
  have rd_b : ((h.new ⟨[.int .i64 F, .bool D], .own⟩).new ⟨zC, .own⟩).rdN h.size 0 2 = some [.int .i64 F, .bool D] := by
    rw [rdN_keep (get_new (Nat.lt_succ_self _))]; exact rdN_new rfl
  simp only [zC] at rd_b
  simp +contextual (disch := omega) only [↓AM, ↓AV, AP, CQ, i64, hp8, rd_b]
  refine c_chk.use ?_
  rintro _ h1 w1 ⟨rfl, fm1⟩
  have fm : Fm No h h1 := (Fm.new (Fm.new Fm.refl)).trans fm1 fun _ _ f => f
  have g4 := fm1.keep w.new.new ((get_new (Nat.lt_succ_self _)).trans gnew) (fun f => f)
  have g8 := fm1.keep w.new.new gnew (fun f => f)
  rw [hp8] at g8
  have s8 := w1.lt g8
  clear rd_b
  by_cases hok : okR F D
  case neg =>
    have e1 : chkR F D = 1 := if_neg hok
    simp +contextual (disch := omega) only [↓AM, ↓AV, AP, CQ, i64, hp8, e1, g8, rdp_n11]
    exact TrPost.no (by simp [TE, hok]) (by decide) (fm.put fun hlt => absurd hlt (by omega))
  have e1 : chkR F D = 0 := if_pos hok
  have hF := hok.1
  have r4 := rd_mk g4 (i := 0)
  have r4' := rd_mk g4 (i := 1)
  have eF : IntKind.u8.wrap F = F := u8 (by omega)
  simp only [List.getElem?_cons_zero, List.getElem?_cons_succ] at r4 r4'
  simp +contextual (disch := omega) only [↓AM, ↓AV, AP, CQ, i64, hp8, e1]
  refine WC.mk (fun t' h' => h' = h1 ∧ t' = [(1, some (.int .i64 id)), (2, some (.int .i64 sc)), (3, some (.slice a n c)), (4, some (.pointer (some ⟨h.size, 0, none⟩))), (8, some (.pointer (some ⟨p8, 0, none⟩))), (11, some (.int .u8 (dropI D)))]) ?_ ?_
  · cases D <;> simp +contextual (disch := omega) only [↓AM, ↓AV, AP, CQ, i64, hp8, r4'] <;> rfl
  rintro t hA ⟨rfl, rfl⟩
  obtain ⟨p12, hp12⟩ : ∃ p, (hA.new ⟨[.int .u8 F, .int .u8 (dropI D)], .own⟩).size = p := ⟨_, rfl⟩
  simp +contextual (disch := omega) only [↓AM, ↓AV, AP, CQ, i64, hp8, r4, eF]
  simp only [hp12]
  have hday : ∀ x, x < h.size → ¬ At (none : Option Addr) x := fun x _ => At.none
  have sA : hA.size < p12 := by rw [← hp12]; exact Nat.lt_succ_self _
  have g12 : ((hA.new ⟨[.int .u8 F, .int .u8 (dropI D)], .own⟩).new ⟨trC id sc (some ⟨hA.size, 0, none⟩) none 0 0, .own⟩).get p12 = some ⟨trC id sc (some ⟨hA.size, 0, none⟩) none 0 0, .own⟩ := by rw [← hp12]; exact gnew
  have gk : ∀ x o o', x < hA.size → ((hA.new o).new o').get x = hA.get x := fun x o o' hx => (get_new (Nat.lt_succ_of_lt hx)).trans (get_new hx)
  refine WL.mk (fun k t h' => Wf h' ∧ Fm No h h' ∧ h'.get h.size = some ⟨[.int .i64 F, .bool D], .own⟩ ∧ h'.get p8 = some ⟨zC, .own⟩ ∧ h'.get hA.size = some ⟨[F, dropI D].map (Value.int .u8), .own⟩ ∧
      ∃ i : Nat, i ≤ n ∧ k = n - i ∧ gE (dayN F D) ss = gE (dayN F D) (ss.drop i) ∧ ∃ qa qc qr, h'.get p12 = some ⟨trC id sc (some ⟨hA.size, 0, none⟩) qa i qc, .own⟩ ∧ (∀ x, At qa x → p12 < x) ∧ Ow h' 6 qa i qc qr ∧ AKd.Row (SpB h' qa) ((xsOf ss).take i) qr ∧
      t = [(4, some (.pointer (some ⟨h.size, 0, none⟩))), (8, some (.pointer (some ⟨p8, 0, none⟩))), (12, some (.pointer (some ⟨p12, 0, none⟩))), (33, some (.slice a n c)), (34, some (.int .i64 (n : Int))), (35, some (.int .i64 i))])
    ⟨n, w1.new.new, fm.new.new, (gk _ _ _ (by omega)).trans g4, (gk _ _ _ s8).trans g8, (get_new (Nat.lt_succ_self _)).trans gnew, 0, by omega, rfl, rfl, none, 0, [], g12, fun x hx => absurd hx At.none, Ow.mk0, rfl, rfl⟩ ?_
  rintro k t hL ⟨wL, fmL, g4, g8, gS, i, hi, rfl, hgE, qa, qc, qr, g12, hq, ow, rows, rfl⟩
  have l4 := wL.lt g4
  have l8 := wL.lt g8
  have l12 := wL.lt g12
  have g8n : ∀ o, (hL.new o).get p8 = some ⟨zC, .own⟩ := fun o => (get_new l8).trans g8
  have r4n : ∀ o, (hL.new o).rdN h.size 0 2 = some [.int .i64 F, .bool D] := fun o => by rw [rdN_keep (get_new l4)]; exact rdN_mk g4 (Nat.le_refl 2)
  simp only [zC] at g8n
  by_cases hin : i < n
  · obtain ⟨b1, o1, s1, y, cy, rfl, f1, hy, ay, r1, r2⟩ := row_el (A := smpK.A h) (z := 6) (fun x cs a => smpK.alen a) (rd.keepW w fmL nNo) row hl hin
    obtain ⟨pa, pc, da, dc, rfl, -, -, -, -⟩ := smp_open ay
    rw [gE_step hy] at hgE
    by_cases hneg : y.dts < 0
    · simp +contextual (disch := omega) only [↓AM, ↓AV, AP, CQ, CR, i64, hin, f1, r1, hneg, g8n, rdp_n11]
      rw [if_pos (Or.inl hneg)] at hgE
      exact TrPost.no (by simp [TE, hok, hgE]) (by decide) (fmL.new.put fun hlt => absurd hlt (by omega))
    simp +contextual (disch := omega) only [↓AM, ↓AV, AP, CQ, CR, i64, hin, f1, r1, hneg, r4n]
    refine (c_day hF).use ?_
    rintro _ h3 w3 ⟨rfl, fm3⟩
    rw [show 144 * (600 * F - 9 * missN F D) = dayN F D from rfl]
    have g14 := fm3.keep wL.new gnew (fun f => f)
    have g8' := fm3.keep wL.new (g8n _) (fun f => f)
    have fmh3 : Fm No h h3 := fmL.new.trans fm3 fun _ _ f => f
    by_cases hbig : dayN F D ≤ y.dts
    · simp +contextual (disch := omega) only [↓AM, ↓AV, AP, CQ, CR, i64, hbig, g8', rdp_n11]
      rw [if_pos (Or.inr hbig)] at hgE
      exact TrPost.no (by simp [TE, hok, hgE]) (by decide) (fmh3.put fun hlt => absurd hlt (by omega))
    have q5 := rd_mk g14 (i := 5)
    have q1 := rd_mk g14 (i := 1)
    have q2 := rd_mk g14 (i := 2)
    simp only [List.getElem?_cons_zero, List.getElem?_cons_succ] at q5 q1 q2
    by_cases hdat : (0 : Int) < (y.data.length : Int)
    · simp +contextual (disch := omega) only [↓AM, ↓AV, AP, CQ, CR, i64, hbig, hdat, q5, g8', rdp_n11]
      rw [if_neg (by omega), if_pos (by omega)] at hgE
      exact TrPost.no (by simp [TE, hok, hgE]) (by decide) (fmh3.put fun hlt => absurd hlt (by omega))
    rw [if_neg (by omega), if_neg (by omega)] at hgE
    have fm3L : Fm No hL h3 := (Fm.new Fm.refl).trans fm3 fun _ _ f => f
    have g12' := fm3L.keep wL g12 (fun f => f)
    have q10 := rd_mk g12' (i := 10)
    simp only [trC, List.getElem?_cons_zero, List.getElem?_cons_succ] at q10
    simp +contextual (disch := omega) only [↓AM, ↓AV, AP, CQ, CR, i64, hbig, hdat, q5, q1, q2, q10, shr_24, shr_16, shr_8, u8_mod]
    have gD : ∀ v : List Value, (h3.new ⟨v, .own⟩).get h3.size = some ⟨v, .own⟩ := fun v => gnew
    have s3 : hL.size ≤ h3.size := fm3L.size
    refine (ow.keep (F := No) wL fm3L.new (fun _ _ f => f)).push (m := 1) w3.new rfl ?_ fun oa' cap' h6 o6 w6 f6 n6 => ?_
    · omega
    have nq : ∀ x, x ≤ p12 → ¬ At qa x := fun x hx ha => absurd (hq x ha) (by omega)
    have g12n := f6.keep w3.new ((get_new (by omega)).trans g12') (nq _ (Nat.le_refl _))
    simp only [trC] at g12n
    simp +contextual (disch := omega) only [↓AM, ↓AV, AP, CQ, CR, i64, g12n]
    have fmK : ∀ x o, x < hL.size → ¬ At qa x → x ≠ p12 → hL.get x = some o → ∀ o', (h6.put p12 o').get x = some o := fun x o hx ha hp hg o' =>
      (get_put hp).trans (f6.keep w3.new ((get_new (by omega)).trans (fm3L.keep wL hg (fun f => f))) ha)
    have nq' : ∀ x, At oa' x → At qa x ∨ h3.size < x := fun x hx => (n6 x hx).imp (fun f => f) fun hs => hs
    refine ⟨_, by omega, w6.put (w6.lt g12n), ?_, fmK _ _ l4 (nq _ (by omega)) (by omega) g4 _, fmK _ _ l8 (nq _ (by omega)) (by omega) g8 _, fmK _ _ (wL.lt gS) (nq _ (by omega)) (by omega) gS _, i + 1, by omega, rfl, hgE, oa', cap', qr ++ spC (y.pts, y.dur, y.dts) h3.size, rfl, ?_, ?_, ?_, rfl⟩
    · exact ((fmh3.new).trans f6 fun x hx ha => absurd ha (nq x (by omega))).put fun hlt => absurd hlt (by omega)
    · intro x hx
      rcases nq' x hx with ha | hs
      · exact hq x ha
      · omega
    · refine o6.keep (F := fun x => x = p12) w6 (Fm.put Fm.refl fun _ => rfl) ?_
      rintro x hx rfl
      rcases nq' _ hx with ha | hs
      · exact nq _ (Nat.le_refl _) ha
      · omega
    · have hxs : (xsOf ss).take (i + 1) = (xsOf ss).take i ++ [(y.pts, y.dur, y.dts)] := by
        rw [List.take_add_one]; simp [xsOf, hy]
      rw [hxs]
      refine row_snoc (rows.mono ?_) ?_
      · rintro x cs ⟨b, rfl, hb, hnb⟩
        have hlt := wL.lt hb
        refine ⟨b, rfl, fmK b _ hlt hnb ?_ hb _, ?_⟩
        · rintro rfl
          rw [g12] at hb
          cases hb
        · intro hx
          rcases nq' b hx with ha | hs
          · exact hnb ha
          · omega
      · refine ⟨h3.size, rfl, (get_put (by omega)).trans (f6.keep w3.new gnew ?_), ?_⟩
        · intro ha
          have := ow.lt wL _ ha
          omega
        · intro hx
          rcases nq' _ hx with ha | hs
          · have := ow.lt wL _ ha
            omega
          · omega
  · have r12 := rdN_mk g12 (off := 0) (m := 11) (Nat.le_refl 11)
    have r12 : hL.rdN p12 0 11 = some (trC id sc (some ⟨hA.size, 0, none⟩) qa i qc) := r12
    have : i = n := by omega
    subst this
    have hx : (xsOf ss).take i = xsOf ss := List.take_of_length_le (by simp [xsOf]; omega)
    rw [hx] at rows
    simp only [trC] at r12
    simp +contextual (disch := omega) only [↓AM, ↓AV, AP, CQ, CR, i64, hin, r12]
    refine (c_mtrack ow.rd (rows.mono fun x cs a => a.a) (by simp [xsOf]; omega) (by omega)).use ?_
    rintro _ h4 w4 ⟨rfl, fm4⟩
    have g8' := fm4.keep wL g8 (fun f => f)
    have g12' := fm4.keep wL g12 (fun f => f)
    simp only [zC] at g8'
    have fmh := fmL.trans fm4 fun _ _ f => f
    have hTE : trE id sc (xsOf ss) = TE F D id sc ss := by
      rw [List.drop_eq_nil_of_le (by omega)] at hgE
      simp only [TE, if_pos hok, hgE]
      rfl
    by_cases he : trE id sc (xsOf ss) = 0
    · have r12' : h4.rdN p12 0 11 = some (trC id sc (some ⟨hA.size, 0, none⟩) qa i qc) := rdN_mk g12' (off := 0) (m := 11) (Nat.le_refl 11)
      simp only [trC] at r12'
      simp +contextual (disch := omega) only [↓AM, ↓AV, AP, CQ, CR, i64, he, r12', g8', rdp_n11]
      have fmF := fmh.put (o := ⟨trC id sc (some ⟨hA.size, 0, none⟩) qa i qc, .own⟩) (b := p8) fun hlt => absurd hlt (by omega)
      have keepA : ∀ {x o}, hL.get x = some o → x ≠ p8 → ∀ o', (h4.put p8 o').get x = some o := fun hg hx o' => (get_put hx).trans (fm4.keep wL hg (fun f => f))
      refine ⟨trC id sc (some ⟨hA.size, 0, none⟩) qa i qc, 0, rfl, by rw [← hTE, he], fmF, fun h => absurd rfl h, fun _ => ⟨some ⟨hA.size, 0, none⟩, qa, qc, qr, by rw [hl], ?_, ?_, by have := ow.le; omega, ?_⟩⟩
      · exact Rd.of rfl (rdN_mk (keepA gS (by omega) _) (Nat.le_refl 2))
      · rw [hl]
        refine (ow.rd.keepW wL fm4 nNo).keep (F := fun x => x = p8) w4 (Fm.put Fm.refl fun _ => rfl) ?_
        rintro x hx rfl
        have := hq _ hx
        omega
      · refine rows.mono ?_
        rintro x cs ⟨b, rfl, hb, _⟩
        refine ⟨b, rfl, keepA hb ?_ _⟩
        rintro rfl
        rw [g8] at hb
        cases hb
    · have he' : EqI (trE id sc (xsOf ss)) 0 = False := eq_false he
      simp +contextual (disch := omega) only [↓AM, ↓AV, AP, CQ, CR, i64, he', g8', rdp_n11]
      exact TrPost.no hTE he (fmh.put fun hlt => absurd hlt (by omega))
end Go.Proofs.Ytbfbgkhlngkifaa.Md

/- A movie of one track of codes with one start, plain. Plain theorems.
   Conditions: none. -/
namespace Go.Proofs.Ytbfbgkhlngkifaa.Mv
open Go Go.RowKit Go.Proofs.Ytbfbgkhlngkifaa.Am Go.Proofs.Ytbfbgkhlngkifaa.Af Go.Proofs.Ytbfbgkhlngkifaa.Md Go.Proofs.Ytbfbgkhlngkifaa.Nu
set_option linter.unusedVariables false
set_option linter.unusedSimpArgs false
set_option linter.defProp false
set_option maxRecDepth 20000
set_option maxHeartbeats 4000000

abbrev undB : ByteArray := ⟨#[117, 110, 100]⟩
abbrev sN (n : Int) : Smp := (0, 0, 1000, true, [], dataN n)
abbrev xN (F n : Int) : Trk := (1, 6, tmcB, 100, [F, 0], undB, em, 0, [], [], [sN n])
abbrev mN (F n : Int) : Mov := (10, em, [xN F n], [], [], [])
theorem dataN_by {n : Int} : byB (dataN n) := by
  intro b hb
  have hb : b = n / 16777216 % 256 ∨ b = n / 65536 % 256 ∨ b = n / 256 % 256 ∨ b = n % 256 := by
    unfold dataN at hb
    rcases List.mem_cons.1 hb with h | hb
    · exact .inl h
    · rcases List.mem_cons.1 hb with h | hb
      · exact .inr (.inl h)
      · rcases List.mem_cons.1 hb with h | hb
        · exact .inr (.inr (.inl h))
        · exact .inr (.inr (.inr (List.mem_singleton.1 hb)))
  omega
theorem dataN_num {n : Int} (h : 0 ≤ n ∧ n < 4294967296) : numB (dataN n) = n := by
  show (((0 * 256 + n / 16777216 % 256) * 256 + n / 65536 % 256) * 256 + n / 256 % 256) * 256 + n % 256 = n
  omega
theorem fld_N {F n : Int} : fldP (xN F n) := by
  refine ⟨by show (1 : Int) ≤ 1 ∧ (1 : Int) ≤ 1000; omega, by show (1 : Int) ≤ 6 ∧ (6 : Int) ≤ 7; omega, ?_, by show (1 : Int) ≤ 100 ∧ (100 : Int) ≤ 1000000; omega, ?_, ?_, by show (0 : Int) ≤ 0 ∧ (0 : Int) ≤ 1099511627776; omega⟩
  · show ltrB tmcB = true
    decide
  · show lngB undB = true
    decide
  · show nameB em = true
    decide
theorem smE_N {n : Int} : smE [sN n] 0 (sN n) = 0 := by
  unfold smE smpE
  rw [if_neg (by
    intro q
    refine q ⟨?_, ?_, ?_⟩
    · show tk 0; unfold tk; omega
    · show tk 0; unfold tk; omega
    · show (0 : Int) ≤ 1000 ∧ (1000 : Int) ≤ 1099511627776; omega)]
  rw [if_neg (by show ¬ (65536 < 4 ∨ 4 < 0); omega), if_neg (by show ¬ ((0 : Int) < ((0 : Nat) : Int) ∧ _); omega), if_neg (by show ¬ (_ ∧ 0 < 0); omega)]
  rfl
theorem trkE_N {F n : Int} : trkE (xN F n) = 0 := by
  unfold trkE
  rw [if_neg (fun q => q ⟨fld_N, rfl⟩), if_neg (by intro q; exact q ⟨by show 2 ≤ 1000; omega, by show 0 ≤ 20; omega, by show 0 ≤ 8; omega, by show 1 ≤ 400; omega⟩), if_neg (by show ¬ edsB [] = false; decide)]
  show (if smE [sN n] 0 (sN n) = 0 then _ else _) = _
  rw [if_pos smE_N]
  rfl
theorem find_N {F n : Int} : findT (mN F n).trks 1 = ((0 : Nat) : Int) := rfl
theorem chkE_N {F n : Int} : chkE (mN F n) = 0 := by
  have h1 : headP (mN F n) := ⟨by show (1 : Int) ≤ 10 ∧ (10 : Int) ≤ 1000000; omega, by show nameB em = true; decide⟩
  have h2 : mlimP (mN F n) := ⟨by show 1 ≤ 8; omega, by show 0 ≤ 4; omega, by show 0 ≤ 20; omega, by show 0 ≤ 6; omega⟩
  have h3 : tksE (mN F n).trks = 0 := by
    show (if trkE (xN F n) = 0 then tksE [] else trkE (xN F n)) = 0
    rw [if_pos trkE_N]
    rfl
  have h4 : UQ (mN F n).trks ∧ RF (mN F n).trks := by
    constructor
    · intro i x hx
      match i, hx with
      | 0, hx => cases hx; rfl
      | i + 1, hx => cases hx
    · intro i x hx r hr
      match i, hx with
      | 0, hx => cases hx; cases hr
      | i + 1, hx => cases hx
  have h5 : ednE (ednB [] [] (mN F n).edns) = 0 := rfl
  have h6 : restE (mN F n) (chapsM (mN F n)) = 0 := restE_ok ⟨rfl, fun t ht => by cases ht⟩
  unfold chkE
  rw [if_neg (fun q => q h1), if_neg (fun q => q h2), if_neg (fun q => q h3), if_neg (fun q => q h4), if_neg (fun q => q h5), if_neg (fun q => q h6), if_neg (by show ¬ 524288 < 4; omega)]
theorem rateE_N {F n : Int} (hF : 1 ≤ F ∧ F ≤ 60) : rateE (xN F n) = 0 := by
  unfold rateE
  rw [if_neg (by rintro (q | q); exact q rfl; exact q rfl)]
  show (if 1 < (0 : Int) then 4 else chkR F (decide ((0 : Int) = 1))) = 0
  rw [if_neg (by omega)]
  exact if_pos ⟨hF, fun q => by simp at q⟩
theorem rateF_N {F n : Int} (hF : 1 ≤ F ∧ F ≤ 60) : rateF (xN F n) = (F, false) := by
  show (if rateE (xN F n) = 0 then (F, decide ((0 : Int) = 1)) else (0, false)) = _
  rw [if_pos (rateE_N hF)]
  rfl
theorem nums_N {F n : Int} (hF : 1 ≤ F ∧ F ≤ 60) (hn : 0 ≤ n ∧ n < 86400 * F) : numsB (dayX (xN F n)) [] (xN F n).smps = some [n] := by
  have hd : dayX (xN F n) = 86400 * F := by
    unfold dayX
    rw [rateF_N hF, miss0]
    show 144 * (600 * F - 9 * 0) = _
    omega
  show (if dayX (xN F n) ≤ numB (dataN n) then none else some [numB (dataN n)]) = _
  rw [hd, dataN_num (by omega), if_neg (by omega)]
theorem numE_N {F n : Int} (hF : 1 ≤ F ∧ F ≤ 60) (hn : 0 ≤ n ∧ n < 86400 * F) : numE (xN F n) = 0 := by
  unfold numE
  rw [if_neg (fun q => q (rateE_N hF)), if_neg (by show ¬ has4 [sN n] = true; show ¬ (decide ((4 : Nat) ≠ 4) || false) = true; decide), nums_N hF hn]
theorem numL_N {F n : Int} (hF : 1 ≤ F ∧ F ≤ 60) (hn : 0 ≤ n ∧ n < 86400 * F) : numL (xN F n) = [n] := by
  unfold numL
  rw [nums_N hF hn]
  rfl
theorem bst_N {n : Int} {t : Nat} (ht : t < 1000) : bstI (t : Int) 100 100 [sN n] 1 = ((0 : Nat) : Int) := by
  rw [bstI_step (s := sN n) rfl, if_pos]
  refine ⟨⟨?_, ?_⟩, .inl (by show (-1 : Int) < 0; omega)⟩
  · show (0 : Int) * ((100 : Nat) : Int) ≤ (t : Int) * 100
    omega
  · show (t : Int) * 100 < (0 + 1000) * ((100 : Nat) : Int)
    omega
theorem movW_N {F n : Int} : MovW (mN F n) where
  title := by show 0 ≤ 140737488351232; omega
  trks := by show 1 ≤ 140737488351232; omega
  trkw t ht := by
    have ht : t = xN F n := List.mem_singleton.1 ht
    subst ht
    exact {
      codec := by show 4 ≤ 140737488351232; omega
      lang := by show 3 ≤ 140737488351232; omega
      name := by show 0 ≤ 140737488351232; omega
      setup := by show 2 ≤ 140737488351232; omega
      edits := by show 0 ≤ 140737488351232; omega
      refs := by show 0 ≤ 140737488351232; omega
      refw := fun r hr => by cases hr
      smps := by show 1 ≤ 140737488351232; omega
      smpw := fun s hs => by
        have hs : s = sN n := List.mem_singleton.1 hs
        subst hs
        exact ⟨by show 0 ≤ 140737488351232; omega, by show 4 ≤ 140737488351232; omega⟩ }
  edns := by show 0 ≤ 140737488351232; omega
  ednw e he := by cases he
  tags := by show 0 ≤ 140737488351232; omega
  tagw t ht := by cases ht
  fils := by show 0 ≤ 140737488351232; omega
  filw f hf := by cases hf
end Go.Proofs.Ytbfbgkhlngkifaa.Mv

/- The law CodeRuns: a track that is made of a start has, at any time behind it, the code as many numbers on as there are in that time. The walk over the abstract machine.
   Conditions: none. -/
namespace Go.Proofs.Ytbfbgkhlngkifaa.LCodeRuns
open Go Go.RowKit Go.Proofs.Ytbfbgkhlngkifaa.Am Go.Proofs.Ytbfbgkhlngkifaa.Af Go.Proofs.Ytbfbgkhlngkifaa.Nu Go.Proofs.Ytbfbgkhlngkifaa.Mv Go.Proofs.Ytbfbgkhlngkifaa.Md
set_option linter.unusedVariables false
set_option linter.unusedSimpArgs false
set_option maxRecDepth 20000
set_option maxHeartbeats 4000000

theorem sl_nil {α : Type} {h : Hp} {d : AKd α} : SlV h d [] (.slice none 0 0) := ⟨none, 0, [], rfl, Ow.mk0.rd, rfl, Nat.le_refl _⟩
theorem sp_smp {h : Hp} {n : Int} {cs : List Value} (a : SpA h (0, 1000, n) cs) : Mv.smpK.A h (sN n) cs := by
  obtain ⟨b, rfl, g⟩ := a
  refine smp_close (x := sN n) sl_nil ?_
  have r : Rd h 1 (some ⟨b, 0, none⟩) (dataN n).length ((dataN n).map (Value.int .u8)) := Rd.of rfl (rdN_mk g (Nat.le_refl 4))
  exact SlV.ofInts (xs := dataN n) r (Nat.le_refl 4)
theorem sl_one_el {α : Type} {h : Hp} {d : AKd α} {x : α} {cs : List Value} {oa : Option Addr} {c : Nat} (r : Rd h d.sz oa 1 cs) (a : d.A h x cs) (hc : 1 ≤ c) : SlV h d [x] (.slice oa 1 c) := by
  refine ⟨oa, c, cs, rfl, r, ?_, hc⟩
  exact ⟨cs, [], (List.append_nil cs).symm, a, rfl⟩
theorem walk {h : Hp} (x0 : (Int × Bool)) (cs0 : List Value) (x1 : Int) (x2 : Int) (A0 : (AKd.pair (AKd.int .i64) AKd.bool).A h x0 cs0) (w0 : ((Lit.int .i64 x0.1).wf = true) ∧ (True)) (w1 : (Lit.int .i64 x1).wf = true) (w2 : (Lit.int .i64 x2).wf = true) : ACalls Try.prog 4 [.agg cs0.toArray, .int .i64 x1, .int .i64 x2] h fun v h' => v = .bool true := by
  obtain ⟨F, D⟩ := x0
  obtain ⟨c1, c2, rfl, a1, a2⟩ := A0
  have a1 : c1 = [.int .i64 F] := a1
  have a2 : c2 = [.bool D] := a2
  subst a1 a2
  clear w0 w1 w2
  generalize x1 = n
  generalize x2 = t
  refine dioramalaw20_CodeRuns_ok.snd hm rfl fun w => ?_
  show WF _ dioramalaw20_CodeRuns [.agg #[.int .i64 F, .bool D], .int .i64 n, .int .i64 t] h _
  rw [WF_eq, dioramalaw20_CodeRuns]
  obtain ⟨hA, eA⟩ : ∃ g, h.new ⟨[.int .i64 F, .bool D], .own⟩ = g := ⟨_, rfl⟩
  have wA : Wf hA := eA ▸ w.new
  have fA : Fm No h hA := eA ▸ Fm.new Fm.refl
  have gA : hA.get h.size = some ⟨[.int .i64 F, .bool D], .own⟩ := eA ▸ gnew
  have uA : ∀ g, Fm No hA g → g.rdN h.size 0 2 = some [.int .i64 F, .bool D] ∧ (g.rd h.size 0 = some (.int .i64 F) ∧ g.rd h.size 1 = some (.bool D)) := fun g fg => by
    have k := fg.keep wA gA (fun f => f)
    exact ⟨rdN_mk k (Nat.le_refl 2), rd_mk k, rd_mk k⟩
  have u := uA hA Fm.refl
  cases D with
  | true =>
    simp +contextual (disch := omega) only [↓AM, ↓AV, AP, CQ, eA, u]
    refine c_awake.use ?_
    rintro _ h9 w9 ⟨rfl, e9⟩
    simp +contextual (disch := omega) only [↓AM, ↓AV, AP, CQ]
  | false =>
  by_cases t0 : t < 0
  · simp +contextual (disch := omega) only [↓AM, ↓AV, AP, CQ, eA, u, t0]
    refine c_awake.use ?_
    rintro _ h9 w9 ⟨rfl, e9⟩
    simp +contextual (disch := omega) only [↓AM, ↓AV, AP, CQ]
  by_cases t1 : 1000 ≤ t
  · simp +contextual (disch := omega) only [↓AM, ↓AV, AP, CQ, eA, u, t0, t1]
    refine c_awake.use ?_
    rintro _ h9 w9 ⟨rfl, e9⟩
    simp +contextual (disch := omega) only [↓AM, ↓AV, AP, CQ]
  obtain ⟨tn, rfl⟩ : ∃ tn : Nat, t = (tn : Int) := ⟨t.toNat, by omega⟩
  obtain ⟨hB, eB⟩ : ∃ g, hA.new ⟨[.int .i64 n, .int .i64 0, .int .i64 1000, .bool false, .slice none 0 0, .slice none 0 0], .own⟩ = g := ⟨_, rfl⟩
  have wB : Wf hB := eB ▸ wA.new
  have fB : Fm No hA hB := eB ▸ Fm.new Fm.refl
  have gB : hB.get hA.size = some ⟨[.int .i64 n, .int .i64 0, .int .i64 1000, .bool false, .slice none 0 0, .slice none 0 0], .own⟩ := eB ▸ gnew
  have rB : Rd hB 6 (some ⟨hA.size, 0, none⟩) 1 [.int .i64 n, .int .i64 0, .int .i64 1000, .bool false, .slice none 0 0, .slice none 0 0] := Rd.of rfl (rdN_mk gB (Nat.le_refl 6))
  have row : AKd.Row (Md.smpK.A hB) [(n, 0, 1000, false, [], [])] [.int .i64 n, .int .i64 0, .int .i64 1000, .bool false, .slice none 0 0, .slice none 0 0] :=
    ⟨_, [], rfl, smp_close (x := (n, 0, 1000, false, [], [])) sl_nil sl_nil, rfl⟩
  simp +contextual (disch := omega) only [↓AM, ↓AV, AP, CQ, eA, eB, u, t0, t1]
  refine (c_Track (F := F) (D := false) (id := 1) (sc := 100) (c := 1) rB row rfl (by omega)).use ?_
  rintro _ h1 w1 ⟨cs, e, rfl, he, f1, he1, he0⟩
  by_cases k1 : e = 0
  case neg =>
    have e1 : EqI e 0 = False := eq_false k1
    have hz := he1 k1
    subst hz
    simp only [zC]
    simp +contextual (disch := omega) only [↓AM, ↓AV, AP, CQ, e1]
    refine c_awake.use ?_
    rintro _ h9 w9 ⟨rfl, e9⟩
    simp +contextual (disch := omega) only [↓AM, ↓AV, AP, CQ]
  obtain ⟨sa, qa, qc, qr, rfl, rs, rq, lq, rowq⟩ := he0 k1
  have hTE := he
  rw [k1] at hTE
  subst k1
  have hok : okR F false := Classical.byContradiction fun q => by unfold TE at hTE; rw [if_neg q] at hTE; cases hTE
  have hF := hok.1
  have hday : dayN F false = 86400 * F := by unfold dayN; rw [miss0]; omega
  have hn : 0 ≤ n ∧ n < 86400 * F := by
    refine Classical.byContradiction fun q => ?_
    unfold TE at hTE
    have hg : gE (dayN F false) [(n, 0, 1000, false, [], [])] = 1 := by
      show (if n < 0 ∨ dayN F false ≤ n then 1 else _) = _
      rw [if_pos (by rw [hday]; omega)]
    rw [if_pos hok, hg, if_neg (by decide)] at hTE
    cases hTE
  obtain ⟨fN, rfl⟩ : ∃ fN : Nat, F = (fN : Int) := ⟨F.toNat, by omega⟩
  have hf2 : 1 ≤ fN ∧ fN ≤ 60 := by omega
  simp only [trC]
  obtain ⟨hC, eC⟩ : ∃ g, h1.new ⟨[.int .i64 1, .int .i64 6, .string ⟨#[116, 109, 99, 49]⟩, .int .i64 100, .slice sa 2 2, .string ⟨#[117, 110, 100]⟩, .string ⟨#[]⟩, .int .i64 0, .slice none 0 0, .slice none 0 0, .slice qa ([((n, 0, 1000, false, [], []) : Md.Smp)].length) qc], .own⟩ = g := ⟨_, rfl⟩
  have wC : Wf hC := eC ▸ w1.new
  have fC : Fm No h1 hC := eC ▸ Fm.new Fm.refl
  have gC : hC.get h1.size = some ⟨[.int .i64 1, .int .i64 6, .string ⟨#[116, 109, 99, 49]⟩, .int .i64 100, .slice sa 2 2, .string ⟨#[117, 110, 100]⟩, .string ⟨#[]⟩, .int .i64 0, .slice none 0 0, .slice none 0 0, .slice qa ([((n, 0, 1000, false, [], []) : Md.Smp)].length) qc], .own⟩ := eC ▸ gnew
  have uC : hC.rdN h1.size 0 11 = some [.int .i64 1, .int .i64 6, .string ⟨#[116, 109, 99, 49]⟩, .int .i64 100, .slice sa 2 2, .string ⟨#[117, 110, 100]⟩, .string ⟨#[]⟩, .int .i64 0, .slice none 0 0, .slice none 0 0, .slice qa ([((n, 0, 1000, false, [], []) : Md.Smp)].length) qc] := by rw [rdN_mk gC (Nat.le_refl 11)]; rfl
  obtain ⟨hE, eE⟩ : ∃ g, hC.new ⟨[.int .i64 1, .int .i64 6, .string ⟨#[116, 109, 99, 49]⟩, .int .i64 100, .slice sa 2 2, .string ⟨#[117, 110, 100]⟩, .string ⟨#[]⟩, .int .i64 0, .slice none 0 0, .slice none 0 0, .slice qa ([((n, 0, 1000, false, [], []) : Md.Smp)].length) qc], .own⟩ = g := ⟨_, rfl⟩
  have wE : Wf hE := eE ▸ wC.new
  have fE : Fm No hC hE := eE ▸ Fm.new Fm.refl
  have gE' : hE.get hC.size = some ⟨[.int .i64 1, .int .i64 6, .string ⟨#[116, 109, 99, 49]⟩, .int .i64 100, .slice sa 2 2, .string ⟨#[117, 110, 100]⟩, .string ⟨#[]⟩, .int .i64 0, .slice none 0 0, .slice none 0 0, .slice qa ([((n, 0, 1000, false, [], []) : Md.Smp)].length) qc], .own⟩ := eE ▸ gnew
  have f1E := fC.trans fE fun _ _ f => f
  have fAE := ((fB.trans f1 fun _ _ f => f).trans f1E fun _ _ f => f)
  simp +contextual (disch := omega) only [↓AM, ↓AV, AP, CQ, eC, eE, uC]
  have lq : 1 ≤ qc := lq
  have rq : Rd h1 6 qa 1 qr := rq
  obtain ⟨qcs, q2, eq2, aq, rq2⟩ := rowq
  have rq2 : q2 = [] := rq2
  subst rq2
  rw [List.append_nil] at eq2
  subst eq2
  have sS : SlV h1 Mv.smpK [sN n] (.slice qa 1 qc) := sl_one_el rq (sp_smp aq) lq
  have sU : SlV h1 byteK [(fN : Int), 0] (.slice sa 2 2) := SlV.ofInts (xs := [(fN : Int), 0]) rs (Nat.le_refl 2)
  have aT : Mv.trkK.A hE (xN (fN : Int) n) [.int .i64 1, .int .i64 6, .string ⟨#[116, 109, 99, 49]⟩, .int .i64 100, .slice sa 2 2, .string ⟨#[117, 110, 100]⟩, .string ⟨#[]⟩, .int .i64 0, .slice none 0 0, .slice none 0 0, .slice qa 1 qc] :=
    trk_close (x := xN (fN : Int) n) (sU.keep w1 f1E) sl_nil sl_nil (sS.keep w1 f1E)
  have rT : Rd hE Mv.trkK.sz (some ⟨hC.size, 0, none⟩) 1 [.int .i64 1, .int .i64 6, .string ⟨#[116, 109, 99, 49]⟩, .int .i64 100, .slice sa 2 2, .string ⟨#[117, 110, 100]⟩, .string ⟨#[]⟩, .int .i64 0, .slice none 0 0, .slice none 0 0, .slice qa 1 qc] := Rd.of rfl (rdN_mk gE' (Nat.le_refl 11))
  have sT : SlV hE Mv.trkK [xN (fN : Int) n] (.slice (some ⟨hC.size, 0, none⟩) 1 1) := sl_one_el rT aT (Nat.le_refl 1)
  have hup : upN fN (rateF (xN (fN : Int) n)).2 = fN := by rw [rateF_N hF]; rfl
  have hdn : dnN (rateF (xN (fN : Int) n)).2 = 1 := by rw [rateF_N hF]; rfl
  obtain ⟨nN, rfl⟩ : ∃ nN : Nat, n = (nN : Int) := ⟨n.toNat, by omega⟩
  have hN : (((tn : Nat) : Int) * ((100 : Nat) : Int) - (sN (nN : Int)).pts * ((100 : Nat) : Int)) * ((upN fN (rateF (xN (fN : Int) (nN : Int))).2 : Nat) : Int) + (nN : Int) * ((100 * 100 * dnN (rateF (xN (fN : Int) (nN : Int))).2 : Nat) : Int) = ((tn * 100 * fN + nN * 10000 : Nat) : Int) := by
    rw [hup, hdn]
    show (((tn : Nat) : Int) * 100 - 0 * 100) * ((fN : Nat) : Int) + (nN : Int) * 10000 = _
    rw [Int.natCast_add, Int.natCast_mul, Int.natCast_mul, Int.natCast_mul]
    simp
  have htf : tn * 100 * fN ≤ 100000 * 60 := Nat.mul_le_mul (by omega) (by omega)
  have hN2 : tn * 100 * fN + nN * 10000 < B32 ^ 4 := Nat.lt_of_lt_of_le (show tn * 100 * fN + nN * 10000 < B32 ^ 2 from Nat.lt_of_lt_of_le (show tn * 100 * fN + nN * 10000 < 18446744073709551616 by omega) (by decide)) (Nat.pow_le_pow_right (by decide) (by decide))
  have AT := c_At0 (h := hE) (m := mN (fN : Int) (nN : Int)) sT (sl_nil (d := ednK)) (sl_nil (d := tagK)) (sl_nil (d := filK)) movW_N (id := 1) (z := tn) (d := 100) chkE_N (by omega) (by omega) (x := xN (fN : Int) (nN : Int)) find_N rfl
    rfl (sc := 100) rfl (by omega) (by show 1 ≤ 1000; omega) (fun s hs => by
      have hs : s = sN (nN : Int) := List.mem_singleton.1 hs
      subst hs
      exact ⟨by show (-1099511627776 : Int) ≤ 0 ∧ (0 : Int) ≤ 1099511627776; omega, by show (0 : Int) ≤ 1000 ∧ (1000 : Int) ≤ 1099511627776; omega⟩)
    (fun b hb => by
      rcases List.mem_cons.1 hb with h | hb
      · omega
      · have := List.mem_singleton.1 hb; omega)
    (fun s hs => by
      have hs : s = sN (nN : Int) := List.mem_singleton.1 hs
      subst hs
      exact dataN_by)
    (numE_N hF hn) (F := fN) (by rw [rateF_N hF]) (by rw [rateF_N hF]) hf2 (k := 0) (bst_N (by omega)) (y := sN (nN : Int)) rfl (nm := (nN : Int)) (by rw [numL_N hF hn]; rfl) (by omega) (N := tn * 100 * fN + nN * 10000) hN hN2
  rw [hdn] at AT
  have AT : ACalls Try.prog 11 [.agg #[.int .i64 10, .string ⟨#[]⟩, .slice (some ⟨hC.size, 0, none⟩) 1 1, .slice none 0 0, .slice none 0 0, .slice none 0 0], .int .i64 1, .agg #[.int .i64 (tn : Int), .int .i64 100]] hE _ := AT
  refine AT.use ?_
  rintro _ h2 w2 ⟨⟨c, rfl, cn⟩, f2⟩
  have cn1 := cn
  obtain ⟨T1, y1, -, -, -, -, rfl⟩ := cn1
  have hnum : (((tn * 100 * fN + nN * 10000) / (100 * 100 * 1) : Nat) : Int) = (nN : Int) + ((tn * fN / 100 : Nat) : Int) := by
    have e1 : tn * 100 * fN = tn * fN * 100 := by rw [Nat.mul_assoc, Nat.mul_comm 100, ← Nat.mul_assoc]
    rw [e1]
    have e2 : (tn * fN * 100 + nN * 10000) / (100 * 100 * 1) = nN + tn * fN / 100 := by
      generalize tn * fN = q
      omega
    rw [e2]
    rfl
  rw [hnum] at cn
  have k0 : 0 ≤ tn * fN / 100 := Nat.zero_le _
  have hk : tn * fN / 100 ≤ 600 := by
    have : tn * fN ≤ 1000 * 60 := Nat.mul_le_mul (by omega) (by omega)
    omega
  have htk : tn * fN ≤ 60000 := Nat.mul_le_mul (show tn ≤ 1000 by omega) hf2.2
  have eM : IntKind.i64.wrap ((tn : Int) * (fN : Int)) = ((tn * fN : Nat) : Int) := by rw [← Int.natCast_mul]; exact i64 (by omega)
  have eQ : IntKind.i64.wrap (((tn * fN : Nat) : Int).tdiv 100) = ((tn * fN / 100 : Nat) : Int) := by
    rw [Int.tdiv_eq_ediv_of_nonneg (by omega)]
    show IntKind.i64.wrap ((tn * fN / 100 : Nat) : Int) = _
    exact i64 (by omega)
  generalize ((tn * fN / 100 : Nat) : Int) = K at *
  simp only [codV, codeV]
  obtain ⟨hG, eG⟩ : ∃ g, h2.new ⟨[.int .i64 ((T1 / 60 : Nat) : Int), .int .i64 ((T1 % 60 : Nat) : Int), .int .i64 (y1 / (fN : Int)), .int .i64 (y1 % (fN : Int))], .own⟩ = g := ⟨_, rfl⟩
  have wG : Wf hG := eG ▸ w2.new
  have fG : Fm No h2 hG := eG ▸ Fm.new Fm.refl
  have gG : hG.get h2.size = some ⟨[.int .i64 ((T1 / 60 : Nat) : Int), .int .i64 ((T1 % 60 : Nat) : Int), .int .i64 (y1 / (fN : Int)), .int .i64 (y1 % (fN : Int))], .own⟩ := eG ▸ gnew
  have fAG := (fAE.trans f2 fun _ _ f => f).trans fG fun _ _ f => f
  have u := uA hG fAG
  simp +contextual (disch := omega) only [↓AM, ↓AV, AP, CQ, eG, u]
  refine (c_Code0 (F := (fN : Int)) (n := (nN : Int)) hF hn).use ?_
  rintro _ h3 w3 ⟨⟨c1, rfl, cn3⟩, f3⟩
  have cn3' := cn3
  obtain ⟨T3, y3, -, -, -, -, rfl⟩ := cn3'
  obtain ⟨hH, eH⟩ : ∃ g, h3.new ⟨[.int .i64 ((T3 / 60 : Nat) : Int), .int .i64 ((T3 % 60 : Nat) : Int), .int .i64 (y3 / (fN : Int)), .int .i64 (y3 % (fN : Int))], .own⟩ = g := ⟨_, rfl⟩
  have wH : Wf hH := eH ▸ w3.new
  have fH : Fm No h3 hH := eH ▸ Fm.new Fm.refl
  have gH : hH.rdN h3.size 0 4 = some [.int .i64 ((T3 / 60 : Nat) : Int), .int .i64 ((T3 % 60 : Nat) : Int), .int .i64 (y3 / (fN : Int)), .int .i64 (y3 % (fN : Int))] := by rw [← eH]; exact rdN_new rfl
  have fGH := f3.trans fH fun _ _ f => f
  have u := uA hH (fAG.trans fGH fun _ _ f => f)
  simp +contextual (disch := omega) only [↓AM, ↓AV, AP, CQ, eH, u, gH, codV, codeV, eM, eQ]
  have ADD := c_Add0 (h := hH) (F := (fN : Int)) (n := (nN : Int)) (k := K) hF cn3 hn (by omega)
  have ADD : ACalls Try.prog 13 [.agg #[.int .i64 (fN : Int), .bool false], .agg #[.int .i64 ((T3 / 60 : Nat) : Int), .int .i64 ((T3 % 60 : Nat) : Int), .int .i64 (y3 / (fN : Int)), .int .i64 (y3 % (fN : Int))], .int .i64 K] hH _ := ADD
  refine ⟨by decide, ADD.use ?_⟩
  rintro _ h4 w4 ⟨⟨c4, rfl, cn4⟩, f4⟩
  have ec := CodN.inj (by omega) cn4 cn
  subst ec
  have fG4 := fGH.trans f4 fun _ _ f => f
  have rG : ∀ o, (h4.new o).rdN h2.size 0 4 = some [.int .i64 ((T1 / 60 : Nat) : Int), .int .i64 ((T1 % 60 : Nat) : Int), .int .i64 (y1 / (fN : Int)), .int .i64 (y1 % (fN : Int))] := fun o => rdN_mk ((fG4.trans (Fm.new Fm.refl) fun _ _ f => f).keep wG gG (fun f => f)) (Nat.le_refl 4)
  have ec : eqCells [1, 1, 1, 1] [Value.int .i64 ((T1 / 60 : Nat) : Int), .int .i64 ((T1 % 60 : Nat) : Int), .int .i64 (y1 / (fN : Int)), .int .i64 (y1 % (fN : Int))] [Value.int .i64 ((T1 / 60 : Nat) : Int), .int .i64 ((T1 % 60 : Nat) : Int), .int .i64 (y1 / (fN : Int)), .int .i64 (y1 % (fN : Int))] = some true := by simp [eqCells, eqCell]
  simp +contextual (disch := omega) only [↓AM, ↓AV, AP, CQ, codV, codeV, rG, ec, eqI_self]
  refine c_awake.use ?_
  rintro _ h9 w9 ⟨rfl, e9⟩
  simp +contextual (disch := omega) only [↓AM, ↓AV, AP, CQ]
end Go.Proofs.Ytbfbgkhlngkifaa.LCodeRuns
