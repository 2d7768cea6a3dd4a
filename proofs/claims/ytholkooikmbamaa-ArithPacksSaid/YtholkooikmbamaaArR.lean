/- The reference's decoder: numbers. Plain theorems over the abstract machine.
   Conditions: none. -/
import Derived.Test.YtholkooikmbamaaArQ
namespace Go.Proofs.Ytholkooikmbamaa.Ar
open Go Go.RowKit Go.Proofs.Ytholkooikmbamaa.Am Go.Proofs.Ytholkooikmbamaa.Af
set_option linter.unusedVariables false
set_option linter.unusedSimpArgs false
set_option maxRecDepth 20000

/-- The reference's memory while a number is read. -/
structure RNAt (h0 h : Hp) (xb : Nat) (a os : Option Addr) (n c cap : Nat) (bs : List Int) (y : De × List Int) : Prop where
  wf : Wf h
  fm : Fm No h0 h
  dec : h.get xb = some (rO a n c y.1)
  st : Ow h 1 os 32 cap (y.2.map (Value.int .i64))
  rd : Rd h 1 a n (bs.map (Value.int .u8))
  d1 : ¬ At os xb
  d2 : ¬ At a xb
  d3 : ∀ x, At os x → ¬ At a x
  nx : h0.size ≤ xb
  ns : Nw h0 os
theorem RNAt.putD {h0 h : Hp} {xb n c cap : Nat} {a os : Option Addr} {bs : List Int} {y : De × List Int} (X : RNAt h0 h xb a os n c cap bs y) (s : De) : RNAt h0 (h.put xb (rO a n c s)) xb a os n c cap bs (s, y.2) :=
  have fm : Fm (fun x => x = xb) h (h.put xb (rO a n c s)) := Fm.put Fm.refl fun _ => rfl
  ⟨X.wf.put (X.wf.lt X.dec), X.fm.trans fm fun x hx e => by have := X.nx; omega, gput, X.st.keep X.wf fm (fun x hx e => X.d1 (e ▸ hx)), X.rd.keep X.wf fm (fun x hx e => X.d2 (e ▸ hx)), X.d1, X.d2, X.d3, X.nx, X.ns⟩
theorem RNAt.cell {h0 h : Hp} {xb n c cap k : Nat} {a os : Option Addr} {bs : List Int} {y : De × List Int} (X : RNAt h0 h xb a os n c cap bs y) (o : SOk y.2) (hk : k < 32) :
    ∃ bb sp ob, os = some ⟨bb, 0, sp⟩ ∧ flagOk sp = true ∧ h.get bb = some ob ∧ (ob.md = .ro) = False ∧ leIs (k + 1) ob.cs = true ∧ h.rd bb k = some (.int .i64 (y.2.getD k 0)) ∧
      ∀ u, RNAt h0 (h.put bb ⟨spl ob.cs k [.int .i64 u], ob.md⟩) xb a os n c cap bs (y.1, y.2.set k u) := by
  obtain ⟨bb, sp, ob, v, rfl, f1, hg, hmd, hle, hv, r1, hput⟩ := X.st.cell X.wf hk
  have hl := o.len
  have : v = .int .i64 (y.2.getD k 0) := by
    rw [List.getElem?_map, List.getElem?_eq_getElem (by omega)] at hv
    rw [List.getD_eq_getElem?_getD, List.getElem?_eq_getElem (by omega)]
    simpa using hv.symm
  subst this
  refine ⟨bb, sp, ob, rfl, f1, hg, hmd, hle, r1, fun u => ?_⟩
  obtain ⟨_, p2, p3, p4⟩ := hput (.int .i64 u)
  exact ⟨p3, X.fm.trans p4 fun x hx e => by have := X.ns x e; omega, p4.keep X.wf X.dec X.d1, by rw [List.map_set]; exact p2, X.rd.keep X.wf p4 (fun x hx e => X.d3 x e hx), X.d1, X.d2, X.d3, X.nx, X.ns⟩
theorem c_rDNumber {h : Hp} {d n c m lc : Nat} {a la : Option Addr} {bs l : List Int} {s : De} (hd : h.get d = some (rO a n c s)) (r : Rd h 1 a n (bs.map (Value.int .u8))) (hb : Bytes bs) (hn : n ≤ 140737488351232) (hn0 : 0 < n)
    (d6 : ¬ At a d) (g : DGd s bs.length) (hl : Rd h 1 la m (l.map (Value.int .i64))) (hm' : 8 * m ≤ 140737488351232) :
    ACalls Try.prog 57 [.pointer (some ⟨d, 0, none⟩), .slice la m lc] h (NPost (rO a n c) bs.length h d s (numR bs s l)) := by
  refine dioramaref13_Decoder__Number_ok.snd hm rfl fun w => ?_
  rw [WF_eq, dioramaref13_Decoder__Number]
  have ll := hl.ilen
  simp +contextual only [↓AM, ↓AV, AP]
  refine (c_good hl (by omega)).use ?_
  rintro _ h w1 ⟨rfl, rfl⟩
  by_cases hg : goodB l = true
  case neg =>
    have hg' : goodB l = false := by simpa using hg
    simp +contextual only [↓AM, ↓AV, AP, hg']
    exact NPost.err (if_neg hg) hd Fm.refl
  have o := goodB_iff.1 hg
  have hR : numR bs s l = numD bs (s, l) := if_pos hg
  rw [hR, numD_U]
  have hm32 : m = 32 := by rw [← ll]; exact o.len
  subst hm32
  generalize hR' : contU bs (ups bs 21 0 (s, l)) = R
  have rN0 : h.rdN d 0 4 = some [.int .i64 s.code, .int .i64 s.span, .int .i64 s.pos, .slice a n c] := rdN_mk hd (by simp [rO])
  simp +contextual only [↓AM, ↓AV, AP, hg, rN0]
  have e0 : (⟨[.int .i64 s.code, .int .i64 s.span, .int .i64 s.pos, .slice a n c], .own⟩ : Ob) = rO a n c s := rfl
  rw [e0]
  have fm1 : Fm No h (h.new (rO a n c s)) := Fm.new Fm.refl
  have w2 := w1.new (o := rO a n c s)
  have hd1 := fm1.keep w1 hd id
  have hx1 : (h.new (rO a n c s)).get h.size = some (rO a n c s) := gnew
  have r1 := r.keep w1 fm1 (fun _ _ => id)
  have hl1 := hl.keep w1 fm1 (fun _ _ => id)
  have hdl := w1.lt hd
  have hal : ∀ x, At a x → x < h.size := fun x hx => Rd.lt r w1 hn0 hx
  have hsx : h.size < (h.new (rO a n c s)).size := Nat.lt_succ_self _
  refine (c_CopyInts hl1 hm').use ?_
  rintro _ k0 w3 ⟨os, cap, rfl, ow0, nw0, fm2⟩
  have X0 : RNAt h k0 h.size a os n c cap bs (s, l) := ⟨w3, fm1.trans fm2 fun _ _ => id, fm2.keep w2 hx1 id, ow0, r1.keep w2 fm2 (fun _ _ => id), fun hx => by have := nw0 _ hx; omega, fun hx => Nat.lt_irrefl _ (hal _ hx), fun x hx ha => by have := nw0 x hx; have := hal x ha; omega, Nat.le_refl _, fun x hx => Nat.le_trans fm1.size (nw0 x hx)⟩
  have hkd : ∀ k, Fm No h k → k.get d = some (rO a n c s) := fun k fm => fm.keep w1 hd id
  have fin : ∀ {e : Int} {k : Hp}, .error e = R → Fm No h k → NPost (rO a n c) bs.length h d s R (.tuple #[.int .i64 0, .slice none 0 0, .int .i64 e]) k := fun he fm => NPost.err he.symm (hkd _ fm) (fm.mono fun _ _ h => h.elim)
  generalize h.size = xb at X0
  clear fm1 w2 hd1 hx1 r1 hl1 hsx nw0 ow0 w3 fm2
  simp +contextual only [↓AM, ↓AV, AP]
  refine WL.mk (fun m t h' => ∃ j y, j ≤ 20 ∧ m = 21 - j ∧ contU bs (ups bs (21 - j) j y) = R ∧ RNAt h h' xb a os n c cap bs y ∧ DGd y.1 bs.length ∧ SOk y.2 ∧
    t = [(0, some (.pointer (some ⟨d, 0, none⟩))), (7, some (.pointer (some ⟨xb, 0, none⟩))), (8, some (.slice os 32 cap)), (9, some (.int .i64 j))])
    ⟨_, 0, (s, l), by omega, rfl, hR', X0, g, o, rfl⟩ ?_
  clear X0 hR'
  rintro m t k1 ⟨j, y, hj, rfl, hR, X, g, o, rfl⟩
  simp +contextual only [↓AM, ↓AV, AP]
  refine (c_first (by omega)).use ?_
  rintro _ k1 wk1 ⟨rfl, rfl⟩
  have hk : min j 15 < 32 := by omega
  have hst := o.at hk
  obtain ⟨bb, sp, ob, rfl, f1, hgo, hmd, hle, rk, _⟩ := X.cell o hk
  simp +contextual only [↓AM, ↓AV, AP, f1, hk, rk]
  refine (c_rget X.dec X.rd hb hn X.d2 g hst).use ?_
  rintro _ k2 w2 ⟨rfl, e⟩
  subst e
  have X2 := X.putD (gst bs y.1 (y.2.getD (min j 15) 0))
  generalize k1.put xb (rO a n c (gst bs y.1 (y.2.getD (min j 15) 0))) = k2 at X2 w2
  rw [show 21 - j = (20 - j) + 1 by omega, ups] at hR
  by_cases ok : gok bs y.1 (y.2.getD (min j 15) 0) = true
  case neg =>
    have ok' : gok bs y.1 (y.2.getD (min j 15) 0) = false := by simpa using ok
    rw [if_neg ok] at hR
    simp +contextual only [↓AM, ↓AV, AP, ok']
    exact fin hR X2.fm
  obtain ⟨g2, o2⟩ := rbit_ok g hb o (k := min j 15) (by omega) ok
  rw [if_pos ok] at hR
  obtain ⟨bb2, sp2, ob2, e3, f3, hgo2, hmd2, hle2, r2, hp2⟩ := X2.cell o hk
  cases e3
  have X3 := hp2 (stepI (y.2.getD (min j 15) 0) (gbit y.1 (y.2.getD (min j 15) 0)))
  simp +contextual only [↓AM, ↓AV, AP, ok, f1, hk, r2]
  refine (c_rstep hst).use ?_
  rintro _ k2 w2 ⟨rfl, e⟩
  subst e
  have e4 : IntKind.i64.wrap ((j : Int) + 1) = ((j + 1 : Nat) : Int) := by rw [i64 (by omega)]; rfl
  by_cases hz : gbit y.1 (y.2.getD (min j 15) 0) = 0
  case neg =>
    have e3 : EqI (gbit y.1 (y.2.getD (min j 15) 0)) 0 = False := eq_false hz
    rw [if_neg hz] at hR
    by_cases hj20 : j = 20
    · subst hj20
      have e5 : (20 : Int) < ((20 + 1 : Nat) : Int) := by omega
      simp +contextual only [↓AM, ↓AV, AP, f1, hk, hgo2, hmd2, hle2, e3, e4, e5]
      exact fin hR X3.fm
    · have e5 : ¬ (20 : Int) < ((j + 1 : Nat) : Int) := by omega
      simp +contextual only [↓AM, ↓AV, AP, f1, hk, hgo2, hmd2, hle2, e3, e4, e5]
      exact ⟨_, by omega, j + 1, _, by omega, rfl, by rw [show 21 - (j + 1) = 20 - j by omega]; exact hR, X3, g2, o2, rfl⟩
  rw [if_pos hz] at hR
  have hR : endD (downs bs (j + 1) j 0 1 (rbit bs y (min j 15))) = R := hR
  have X4 : RNAt h _ xb a _ n c cap bs (rbit bs y (min j 15)) := X3
  have e3 : EqI (gbit y.1 (y.2.getD (min j 15) 0)) 0 = True := eq_true hz
  have e6 : IntKind.i64.wrap (((j + 1 : Nat) : Int) - 2) = (j : Int) - 1 := by rw [i64 (by omega)]; omega
  simp +contextual only [↓AM, ↓AV, AP, f1, hk, hgo2, hmd2, hle2, e3, e4, e6]
  clear X3 X X2
  generalize rbit bs y (min j 15) = z at hR X4 g2 o2
  generalize k2.put bb ⟨spl ob2.cs (min j 15) [.int .i64 (stepI (y.2.getD (min j 15) 0) (gbit y.1 (y.2.getD (min j 15) 0)))], ob2.md⟩ = k3 at X4
  have e1 : IntKind.i64.wrap (((j + 1 : Nat) : Int) - 1) = (j : Nat) := by rw [i64 (by omega)]; omega
  have e7 : IntKind.i64.wrap (16 + ((min j 15 : Nat) : Int)) = ((16 + min j 15 : Nat) : Int) := by rw [i64 (by omega)]; rfl
  refine WL.mk (fun m t h' => ∃ (i : Nat) (y : De × List Int) (u : Nat), i ≤ j ∧ m = j - i ∧ endD (downs bs (j + 1) (j - i) i u y) = R ∧ RNAt h h' xb a (some ⟨bb, 0, sp⟩) n c cap bs y ∧ DGd y.1 bs.length ∧ SOk y.2 ∧ u < 2 ^ (i + 1) ∧
    t = [(0, some (.pointer (some ⟨d, 0, none⟩))), (7, some (.pointer (some ⟨xb, 0, none⟩))), (8, some (.slice (some ⟨bb, 0, sp⟩) 32 cap)), (9, some (.int .i64 ((j + 1 : Nat) : Int))), (13, some (.int .i64 u)), (14, some (.int .i64 ((j : Int) - 1 - i)))])
    ⟨_, 0, z, 1, by omega, rfl, hR, X4, g2, o2, by decide, by simp⟩ ?_
  clear X4 g2 o2 hR
  rintro m t k3 ⟨i, y, u, hi, rfl, hR, X, g, o, hu, rfl⟩
  have hp : 2 ^ (i + 1) ≤ 2 ^ 21 := Nat.pow_le_pow_right (by decide) (by omega)
  have hp2 : (2 : Nat) ^ 21 = 2097152 := by decide
  by_cases hij : i < j
  case neg =>
    have : i = j := by omega
    subst this
    rw [Nat.sub_self, downs, endD] at hR
    have hge : ¬ (0 : Int) ≤ (i : Int) - 1 - (i : Nat) := by omega
    have e8 : IntKind.i64.wrap ((u : Int) - 1) = (u : Int) - 1 := i64 (by omega)
    by_cases hbig : 1048576 < u
    · have e9 : (1048576 : Int) < (u : Int) := by omega
      rw [if_pos (by omega)] at hR
      simp +contextual only [↓AM, ↓AV, AP, hge, e9]
      exact fin hR X.fm
    · have e9 : ¬ (1048576 : Int) < (u : Int) := by omega
      rw [if_neg (by omega)] at hR
      have rN3 : k3.rdN xb 0 4 = some [.int .i64 y.1.code, .int .i64 y.1.span, .int .i64 y.1.pos, .slice a n c] := rdN_mk X.dec (by simp [rO])
      have hkd3 := hkd _ X.fm
      simp only [rO] at hkd3
      simp +contextual only [↓AM, ↓AV, AP, hge, e9, rN3, hkd3, e8]
      have fmp : Fm (fun x => x = d) k3 (k3.put d (rO a n c y.1)) := Fm.put Fm.refl fun _ => rfl
      refine ⟨fun e he => (by rw [← hR] at he; cases he), fun w' y' he => ?_, (X.fm.mono fun _ _ h => h.elim).put fun _ => rfl⟩
      rw [← hR] at he
      cases he
      exact ⟨_, _, rfl, gput, X.st.keep X.wf fmp (fun x hx e => by have := X.ns x hx; omega), X.ns, g, o⟩
  have hge : (0 : Int) ≤ (j : Int) - 1 - i := by omega
  have hst := o.at (k := 16 + min j 15) (by omega)
  rw [show j - i = (j - (i + 1)) + 1 by omega, downs] at hR
  have e2 : IntKind.i64.wrap (((j + 1 : Nat) : Int) - 2) = (j : Int) - 1 := by rw [i64 (by omega)]; omega
  simp +contextual only [↓AM, ↓AV, AP, hge, e1]
  refine (c_first (by omega)).use ?_
  rintro _ k3 wk3 ⟨rfl, rfl⟩
  have hk : 16 + min j 15 < 32 := by omega
  have e10 : IntKind.i64.wrap (2 * (u : Int)) = 2 * (u : Int) := i64 (by omega)
  have e11 : ∀ bt : Int, bt = 0 ∨ bt = 1 → IntKind.i64.wrap (2 * (u : Int) + bt) = 2 * (u : Int) + bt := fun bt h => i64 (by omega)
  by_cases hi0 : i = 0
  · have e8 : EqI ((j : Int) - 1 - i) ((j : Int) - 1) = True := by simp [EqI]; omega
    rw [if_pos hi0, show j + 1 - 1 = j by omega] at hR
    obtain ⟨b2, s2, ob, q1, f1, hgo, hmd, hle, rk, _⟩ := X.cell o hk
    cases q1
    simp +contextual only [↓AM, ↓AV, AP, e2, e7, e8, f1, hk, rk]
    refine (c_rget X.dec X.rd hb hn X.d2 g hst).use ?_
    rintro _ k2 w2 ⟨rfl, e⟩
    subst e
    have X2 := X.putD (gst bs y.1 (y.2.getD (16 + min j 15) 0))
    generalize k3.put xb (rO a n c (gst bs y.1 (y.2.getD (16 + min j 15) 0))) = k2 at X2 w2
    by_cases ok : gok bs y.1 (y.2.getD (16 + min j 15) 0) = true
    case neg =>
      have ok' : gok bs y.1 (y.2.getD (16 + min j 15) 0) = false := by simpa using ok
      rw [if_neg ok] at hR
      simp +contextual only [↓AM, ↓AV, AP, ok']
      exact fin hR X2.fm
    obtain ⟨g2, o2⟩ := rbit_ok g hb o (k := 16 + min j 15) (by omega) ok
    rw [if_pos ok] at hR
    obtain ⟨bb2, sp2, ob2, e3, f3, hgo2, hmd2, hle2, r2, hp3⟩ := X2.cell o hk
    cases e3
    have X3 : RNAt h _ xb a _ n c cap bs (rbit bs y (16 + min j 15)) := hp3 (stepI (y.2.getD (16 + min j 15) 0) (gbit y.1 (y.2.getD (16 + min j 15) 0)))
    simp +contextual only [↓AM, ↓AV, AP, ok, e2, e8]
    refine (c_rstep hst).use ?_
    rintro _ k2 w2 ⟨rfl, e⟩
    subst e
    have hb01 := gbit_01 y.1 (y.2.getD (16 + min j 15) 0)
    have e12 := e11 _ hb01
    simp +contextual only [↓AM, ↓AV, AP, f1, hk, hgo2, hmd2, hle2, e10, e12]
    obtain ⟨q, hq, hq2⟩ : ∃ q : Nat, 2 * (u : Int) + gbit y.1 (y.2.getD (16 + min j 15) 0) = q ∧ q < 2 ^ (i + 1 + 1) := ⟨(2 * (u : Int) + gbit y.1 (y.2.getD (16 + min j 15) 0)).toNat, by omega, by rw [Nat.pow_succ]; omega⟩
    rw [hq] at hR ⊢
    refine ⟨_, by omega, i + 1, _, q, by omega, rfl, hR, X3, g2, o2, hq2, ?_⟩
    rw [i64 (by omega)]; congr 6; simp; omega
  · have e8 : EqI ((j : Int) - 1 - i) ((j : Int) - 1) = False := by simp [EqI]; omega
    rw [if_neg hi0] at hR
    simp +contextual only [↓AM, ↓AV, AP, e2, e7, e8]
    refine (c_rget X.dec X.rd hb hn X.d2 g st2048).use ?_
    rintro _ k2 w2 ⟨rfl, e⟩
    subst e
    have X2 := X.putD (gst bs y.1 2048)
    generalize k3.put xb (rO a n c (gst bs y.1 2048)) = k2 at X2 w2
    by_cases ok : gok bs y.1 2048 = true
    case neg =>
      have ok' : gok bs y.1 2048 = false := by simpa using ok
      rw [if_neg ok] at hR
      simp +contextual only [↓AM, ↓AV, AP, ok']
      exact fin hR X2.fm
    have g2 := gst_gd g hb st2048 ok
    rw [if_pos ok] at hR
    have hb01 := gbit_01 y.1 2048
    have e12 := e11 _ hb01
    simp +contextual only [↓AM, ↓AV, AP, ok, e2, e8, e10, e12]
    obtain ⟨q, hq, hq2⟩ : ∃ q : Nat, 2 * (u : Int) + gbit y.1 2048 = q ∧ q < 2 ^ (i + 1 + 1) := ⟨(2 * (u : Int) + gbit y.1 2048).toNat, by omega, by rw [Nat.pow_succ]; omega⟩
    rw [hq] at hR ⊢
    refine ⟨_, by omega, i + 1, _, q, by omega, rfl, hR, X2, g2, o, hq2, ?_⟩
    rw [i64 (by omega)]; congr 6; simp; omega
end Go.Proofs.Ytholkooikmbamaa.Ar
