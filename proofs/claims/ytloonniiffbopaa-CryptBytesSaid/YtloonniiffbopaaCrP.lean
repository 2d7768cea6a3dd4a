/- Bytes protected by the document's text. Plain theorems over the abstract machine.
   Conditions: none. -/
import Derived.Test.YtloonniiffbopaaCrO
namespace Go.Proofs.Ytloonniiffbopaa.Cr
open Go Go.RowKit Go.Proofs.Ytloonniiffbopaa.Am Go.Proofs.Ytloonniiffbopaa.Af
set_option linter.unusedVariables false
set_option linter.unusedSimpArgs false
set_option maxRecDepth 20000

/-- The key, if it is there. -/
def keyO (ks : List (List Int)) (k : Int) : Option (List Int) := if hasB ks k then some (ks.getD (k - 1).toNat []) else none
/-- A byte with its mark; without a key it is zero. -/
def xfunR (ko : Option (List Int)) (nonce : Int) (x m : Int) : Int := if m < 0 then x else match ko with
  | some key => xorI x (ksb key nonce m.toNat)
  | none => 0
theorem xfunR_neg {ko : Option (List Int)} {nonce x m : Int} (h : m < 0) : xfunR ko nonce x m = x := if_pos h
theorem xfunR_no {nonce x m : Int} (h : ¬ m < 0) : xfunR none nonce x m = 0 := if_neg h
theorem xfunR_yes {key : List Int} {nonce x m : Int} (h : ¬ m < 0) : xfunR (some key) nonce x m = xorI x (ksb key nonce m.toNat) := if_neg h
theorem xfunR_some (key : List Int) (nonce : Int) : xfunR (some key) nonce = xfun key nonce := by
  funext x m
  simp [xfunR, xfun]
theorem zip_at {f : Int → Int → Int} {D M : List Int} {i : Nat} {x : Int} (h : D.length = M.length) (hx : M[i]? = some x) : (List.zipWith f D M)[i]? = some (f (D.getD i 0) x) := by
  have hi : i < M.length := (List.getElem?_eq_some_iff.1 hx).1
  rw [List.getElem?_zipWith, hx, List.getElem?_eq_getElem (by omega), List.getD_eq_getElem?_getD, List.getElem?_eq_getElem (by omega)]
  rfl
theorem drop_at {D : List Int} {i : Nat} (h : i < D.length) : D.drop i = D.getD i 0 :: D.drop (i + 1) := by
  rw [List.drop_eq_getElem_cons h, List.getD_eq_getElem?_getD, List.getElem?_eq_getElem h]
  rfl
theorem zip_set {f : Int → Int → Int} {D M : List Int} {i : Nat} {x : Int} (h : D.length = M.length) (hx : M[i]? = some x) :
    ((List.zipWith f D M).take i ++ D.drop i).set i (f (D.getD i 0) x) = (List.zipWith f D M).take (i + 1) ++ D.drop (i + 1) := by
  have hi : i < M.length := (List.getElem?_eq_some_iff.1 hx).1
  have hl : ((List.zipWith f D M).take i).length = i := by simp; omega
  rw [List.take_add_one, zip_at h hx, drop_at (show i < D.length by omega), List.set_append_right _ _ (by omega), hl, Nat.sub_self]
  simp
theorem zip_skip {f : Int → Int → Int} {D M : List Int} {i : Nat} {x : Int} (h : D.length = M.length) (hx : M[i]? = some x) (h0 : f (D.getD i 0) x = D.getD i 0) :
    (List.zipWith f D M).take i ++ D.drop i = (List.zipWith f D M).take (i + 1) ++ D.drop (i + 1) := by
  have hi : i < M.length := (List.getElem?_eq_some_iff.1 hx).1
  rw [List.take_add_one, zip_at h hx, h0, drop_at (show i < D.length by omega)]
  simp
theorem _root_.Go.Proofs.Ytloonniiffbopaa.Am.Rd.keepW {h h' : Hp} {z n : Nat} {oa : Option Addr} {cs : List Value} {F : Nat → Prop} (w : Wf h) (r : Rd h z oa n cs) (f : Fm F h h') (hF : ∀ x, x < h.size → ¬ F x) : Rd h' z oa n cs :=
  ⟨r.len, r.nil, fun a ha => (r.at_ a ha).imp (fun ⟨h1, h2⟩ => ⟨h1, (rdN_keep (f.get _ (rdN_wf w h2) (hF _ (rdN_wf w h2)))).trans h2⟩) id⟩
theorem KeysAt.keepF {h h' : Hp} {oa : Option Addr} {ks : List (List Int)} {F : Nat → Prop} (k : KeysAt h oa ks) (w : Wf h) (fm : Fm F h h') (hF : ∀ x, x < h.size → ¬ F x) : KeysAt h' oa ks := fun i x hx => by
  obtain ⟨b, off, sp, a, c, e1, e2, e3, e4, e5, e6⟩ := k i x hx
  exact ⟨b, off, sp, a, c, e1, e2, (rd_keep (fm.get _ (rd_wf w e3) (hF _ (rd_wf w e3)))).trans e3, e4.keepW w fm hF, e5, e6⟩
theorem c_protect {h : Hp} {a ma ka oa : Option Addr} {n cap mc kc cc : Nat} {D M : List Int} {l : Lk} {ks : List (List Int)} (r : Rd h 1 a n (D.map (Value.int .u8))) (hn : n ≤ 1000000)
    (rm : Rd h 1 ma n (M.map (Value.int .i64))) (K : KeysAt h ka ks) (hk : ks.length ≤ 140737488351232) (hM : ∀ x ∈ M, x ≤ 1000000000) :
    ACalls Try.prog 40 [.slice a n cap, lockV l oa cc, .slice ma n mc, .slice ka ks.length kc] h fun v h' => ∃ o cap', v = .slice o n cap' ∧ Ow h' 1 o n cap' ((List.zipWith (xfunR (keyO ks l.key) l.nonce) D M).map (Value.int .u8)) ∧ Nw h o ∧ Fm No h h' := by
  refine dioramaref21_protect_ok.snd hm rfl fun w => ?_
  rw [WF_eq, dioramaref21_protect, lockV]
  have hDl := r.ilen
  have hMl := rm.ilen
  have hDM : D.length = M.length := by omega
  simp +contextual only [↓AM, ↓AV, AP]
  have fm0 : Fm No h (h.new ⟨[.int .i64 l.key, .int .i64 l.nonce, .int .i64 l.crypt, .int .i64 l.skip, .slice oa l.parts.length cc], .own⟩) := Fm.new Fm.refl
  have hg0 : (h.new ⟨[.int .i64 l.key, .int .i64 l.nonce, .int .i64 l.crypt, .int .i64 l.skip, .slice oa l.parts.length cc], .own⟩).get h.size = some _ := gnew
  have r0 := r.keep w fm0 (fun _ _ => id)
  have rm0 := rm.keep w fm0 (fun _ _ => id)
  have K0 := K.keep w fm0
  have w0 : Wf (h.new ⟨[.int .i64 l.key, .int .i64 l.nonce, .int .i64 l.crypt, .int .i64 l.skip, .slice oa l.parts.length cc], .own⟩) := w.new
  generalize h.new ⟨[.int .i64 l.key, .int .i64 l.nonce, .int .i64 l.crypt, .int .i64 l.skip, .slice oa l.parts.length cc], .own⟩ = h0 at *
  refine (c_CopyBytes r0 (by omega)).use ?_
  rintro _ h1 w1 ⟨o, co, rfl, ow1, nw1, fm1⟩
  have hg1 := fm1.keep w0 hg0 id
  have r1 := r0.keep w0 fm1 (fun _ _ => id)
  have rm1 := rm0.keep w0 fm1 (fun _ _ => id)
  have K1 := K0.keep w0 fm1
  simp +contextual only [↓AM, ↓AV, AP, rd_mk hg1]
  refine (c_usable K1 hk).use ?_
  rintro _ h1 w1 ⟨rfl, rfl⟩
  have hon : ∀ x, At o x → x < h1.size := ow1.lt w1
  have hbx : h.size < h0.size := w0.lt hg0
  have hno0 : ∀ x, x < h0.size → ¬ At o x := fun x hx ha => by have := nw1 x ha; omega
  have nw : Nw h o := fun x hx => Nat.le_trans fm0.size (nw1 x hx)
  have fm01 : Fm No h h1 := fm0.trans fm1 fun _ _ x => x
  simp +contextual only [↓AM, ↓AV, AP]
  refine WL.mk (fun k t' h' => Wf h' ∧ Fm (At o) h1 h' ∧ ∃ i : Nat, i ≤ n ∧ k = n - i ∧ Ow h' 1 o n co (((List.zipWith (xfunR (keyO ks l.key) l.nonce) D M).take i ++ D.drop i).map (Value.int .u8)) ∧
      ∃ (ob : Option Addr) (bl bc : Nat) (at0 : Int), Nw h1 ob ∧ (at0 = -1 ∨ ∃ q : Nat, at0 = q ∧ bl = 16 ∧ Rd h' 1 ob 16 ((blk (ks.getD (l.key - 1).toNat []) l.nonce (q : Int)).map (Value.int .u8))) ∧
      t' = [(0, some (.slice a n cap)), (2, some (.slice ma n mc)), (3, some (.slice ka ks.length kc)), (5, some (.pointer (some ⟨h.size, 0, none⟩))), (9, some (.slice o n co)), (10, some (.bool (hasB ks l.key))), (11, some (.slice ob bl bc)), (12, some (.int .i64 at0)), (13, some (.int .i64 i))])
    ⟨_, w1, Fm.refl, 0, by omega, rfl, by simpa using ow1, none, 0, 0, -1, Nw.none, .inl rfl, rfl⟩ ?_
  rintro k t0 h2 ⟨w2, fm2, i, hi, rfl, ow2, ob, bl, bc, at0, nwb, hat, rfl⟩
  by_cases hin : i < n
  case neg =>
    have : n = i := by omega
    subst this
    rw [List.take_of_length_le (by simp; omega), List.drop_eq_nil_of_le (by omega), List.append_nil] at ow2
    simp +contextual only [↓AM, ↓AV, AP, hin]
    exact ⟨o, co, rfl, ow2, nw, fm01.trans fm2 fun x hx ha => by have := nw x ha; omega⟩
  have fm12 : Fm (At o) h0 h2 := (fm1.mono fun _ _ x => x.elim).trans fm2 fun _ _ x => x
  have K2 := K0.keepF w0 fm12 hno0
  obtain ⟨b1, o1, s1, rfl, f1, m, hm', r3⟩ := (rm0.keepW w0 fm12 hno0).int hin
  obtain ⟨b2, o2, s2, rfl, f2, d, hd, r4⟩ := (r0.keepW w0 fm12 hno0).int hin
  have hdg : D.getD i 0 = d := by rw [List.getD_eq_getElem?_getD, hd]; rfl
  have hmb := hM m (List.mem_of_getElem? hm')
  by_cases hm0 : m < 0
  · have hsk := zip_skip (f := xfunR (keyO ks l.key) l.nonce) hDM hm' (xfunR_neg hm0)
    simp +contextual (disch := omega) only [↓AM, ↓AV, AP, CQ, hin, f1, r3, hm0, i64]
    exact ⟨_, by omega, w2, fm2, i + 1, hin, rfl, by rw [← hsk]; exact ow2, ob, bl, bc, at0, nwb, hat, rfl⟩
  obtain ⟨mm, rfl⟩ : ∃ mm : Nat, m = mm := ⟨m.toNat, by omega⟩
  have hset0 := zip_set (f := xfunR (keyO ks l.key) l.nonce) hDM hm'
  obtain ⟨b, sp, ob2, v, rfl, f3, hgo, hro, hle, -, -, hset⟩ := ow2.cell w2 hin
  have nwbo : ∀ x, At ob x → ¬ At (some ⟨b, 0, sp⟩) x := fun x hx ha => by have := nwb x hx; have := hon x ha; omega
  cases hkn : hasB ks l.key
  · have hx : xfunR (keyO ks l.key) l.nonce (D.getD i 0) (mm : Int) = 0 := by
      have : keyO ks l.key = none := by rw [keyO, hkn]; rfl
      rw [this, xfunR_no hm0]
    rw [hx] at hset0
    obtain ⟨-, ow3, w3, fm3⟩ := hset (.int .u8 0)
    simp +contextual (disch := omega) only [↓AM, ↓AV, AP, CQ, hin, f1, r3, hm0, hkn, f3, hgo, hro, hle, i64]
    refine ⟨_, by omega, w3, fm2.trans fm3 fun _ _ x => x, i + 1, hin, rfl, ?_, ob, bl, bc, at0, nwb, ?_, rfl⟩
    · rw [← hset0, List.map_set]; exact ow3
    · rcases hat with h | ⟨q, h1, h2, h3⟩
      · exact .inl h
      · exact .inr ⟨q, h1, h2, h3.keep w2 fm3 nwbo⟩
  have hkn' := hkn
  unfold hasB at hkn'
  simp only [Bool.and_eq_true, decide_eq_true_eq] at hkn'
  obtain ⟨⟨hk1, hk2⟩, hk16⟩ := hkn'
  have hx : xfunR (keyO ks l.key) l.nonce (D.getD i 0) (mm : Int) = xorI d (ksb (ks.getD (l.key - 1).toNat []) l.nonce mm) := by
    have : keyO ks l.key = some (ks.getD (l.key - 1).toNat []) := by rw [keyO, hkn]; rfl
    rw [this, xfunR_yes hm0, hdg]; rfl
  rw [hx] at hset0
  generalize hkey : ks.getD (l.key - 1).toNat [] = key at *
  have hg2 := fm2.keep w1 hg1 (hno0 _ hbx)
  simp +contextual (disch := omega) only [↓AM, ↓AV, AP, CQ, hin, f1, r3, hm0, hkn]
  refine WC.mk (fun t' h' => Wf h' ∧ Fm (At (some ⟨b, 0, sp⟩)) h1 h' ∧ Fm No h2 h' ∧ ∃ ob bc, Nw h1 ob ∧ Rd h' 1 ob 16 ((blk key l.nonce ((mm / 16 : Nat) : Int)).map (Value.int .u8)) ∧
      t' = [(0, some (.slice (some ⟨b2, o2, s2⟩) n cap)), (2, some (.slice (some ⟨b1, o1, s1⟩) n mc)), (3, some (.slice ka ks.length kc)), (5, some (.pointer (some ⟨h.size, 0, none⟩))), (9, some (.slice (some ⟨b, 0, sp⟩) n co)), (10, some (.bool true)), (11, some (.slice ob 16 bc)), (12, some (.int .i64 ((mm / 16 : Nat) : Int))), (13, some (.int .i64 i))]) ?_ ?_
  · by_cases heq : ((mm / 16 : Nat) : Int) = at0
    · subst heq
      rcases hat with h | ⟨q, h1, h2, h3⟩
      · omega
      · have : q = mm / 16 := by omega
        subst this
        subst h2
        simp +contextual (disch := omega) only [↓AM, ↓AV, AP, CQ, hin, f1, r3, i64_div, i64, eqI_self]
        exact ⟨w2, fm2, Fm.refl, ob, bc, nwb, h3, rfl⟩
    · have e0 : EqI ((mm / 16 : Nat) : Int) at0 = False := eq_false heq
      obtain ⟨kk, hkk⟩ : ∃ kk : Nat, l.key = ((kk + 1 : Nat) : Int) := ⟨(l.key - 1).toNat, by omega⟩
      have hki : ks[kk]? = some key := by
        rw [← hkey, hkk, nsub1, Int.toNat_natCast, List.getD_eq_getElem?_getD, List.getElem?_eq_getElem (by omega)]; rfl
      obtain ⟨kb, koff, ksp, kka, kkc, rfl, kf, krd, rk, hkc, hkb⟩ := K2 kk key hki
      have hkl : kk < ks.length := by omega
      rw [hk16] at rk krd hkc
      simp +contextual (disch := omega) only [↓AM, ↓AV, AP, CQ, hin, f1, r3, i64_div, i64, e0, hkk, rd_mk hg2, kf, hkl, krd, ldOk]
      refine (c_block rk hkb hkc).use ?_
      rintro _ h3 w3 ⟨oa3, c3, rfl, ow3, nw3, fm3⟩
      have hg3 := fm3.keep w2 hg2 id
      have krd3 := (rd_keep (fm3.get _ (rd_wf w2 krd) id)).trans krd
      simp +contextual (disch := omega) only [↓AM, ↓AV, AP, CQ, rd_mk hg3, hkk, krd3, ldOk]
      exact ⟨w3, fm2.trans fm3 fun _ _ x => x.elim, fm3, oa3, c3, fun x hx => Nat.le_trans fm2.size (nw3 x hx), ow3.rd, rfl⟩
  · rintro t0 h3 ⟨w3, fm3, fm23, ob3, bc3, nwb3, rb3, rfl⟩
    have rm3 := (rm0.keepW w0 ((fm1.mono fun _ _ x => x.elim).trans fm3 fun _ _ x => x) hno0)
    have rd3 := (r0.keepW w0 ((fm1.mono fun _ _ x => x.elim).trans fm3 fun _ _ x => x) hno0)
    obtain ⟨b3, o3, s3, e, f4, m4, hm4, r5⟩ := rm3.int hin
    cases e
    rw [hm'] at hm4
    cases hm4
    obtain ⟨b4, o4, s4, e, f5, d4, hd4, r6⟩ := rd3.int hin
    cases e
    rw [hd] at hd4
    cases hd4
    have hma : mm % 16 < 16 := by omega
    obtain ⟨b5, o5, s5, rfl, f6, z, hz, r7⟩ := rb3.int hma
    have hz : z = ksb key l.nonce mm := by
      rw [ksb, List.getD_eq_getElem?_getD, hz]; rfl
    subst hz
    have ow3 := ow2.keep w2 fm23 (fun _ _ => id)
    obtain ⟨b6, s6, ob6, v6, e, f7, hgo3, hro3, hle3, -, -, hset3⟩ := ow3.cell w3 hin
    cases e
    obtain ⟨-, ow4, w4, fm4⟩ := hset3 (.int .u8 (xorI d (ksb key l.nonce mm)))
    have exo : ∀ x y, IntKind.u8.wrap ((BitVec.ofInt IntKind.u8.bits x ^^^ BitVec.ofInt IntKind.u8.bits y).toNat : Int) = xorI x y := fun _ _ => rfl
    have nwb : ∀ x, At (some ⟨b5, o5, s5⟩) x → ¬ At (some ⟨b, 0, sp⟩) x := fun x hx ha => by have := nwb3 x hx; have := hon x ha; omega
    simp +contextual (disch := omega) only [↓AM, ↓AV, AP, CQ, hin, f1, f2, f6, f7, r5, r6, r7, i64_rem, i64, hma, exo, hgo3, hro3, hle3, ldOk]
    refine ⟨_, by omega, w4, fm3.trans fm4 (fun _ _ x => x), i + 1, hin, rfl, ?_, some ⟨b5, o5, s5⟩, 16, bc3, ((mm / 16 : Nat) : Int), nwb3, .inr ⟨mm / 16, rfl, rfl, rb3.keep w3 fm4 nwb⟩, rfl⟩
    rw [← hset0, List.map_set]; exact ow4
end Go.Proofs.Ytloonniiffbopaa.Cr
