/- Bytes protected, by either text, with the errors. Plain theorems over the abstract machine.
   Conditions: none. -/
import Derived.Test.YtloonniiffbopaaCrP
namespace Go.Proofs.Ytloonniiffbopaa.Cr
open Go Go.RowKit Go.Proofs.Ytloonniiffbopaa.Am Go.Proofs.Ytloonniiffbopaa.Af
set_option linter.unusedVariables false
set_option linter.unusedSimpArgs false
set_option maxRecDepth 20000

theorem mrun_bd (b : Nat → Bool) (st : List Int × Nat) : ∀ n, (∀ x ∈ st.1, x < st.2) → (∀ x ∈ (mrun b st n).1, x < (mrun b st n).2) ∧ (mrun b st n).2 ≤ st.2 + n
  | 0, h => ⟨h, Nat.le_refl _⟩
  | n + 1, h => by
    obtain ⟨h1, h2⟩ := mrun_bd b st n h
    rw [mrun_S, mstep]
    split
    · refine ⟨fun x hx => ?_, by simp only; omega⟩
      rcases List.mem_append.1 hx with hx | hx
      · have := h1 x hx; simp only; omega
      · obtain rfl := List.mem_singleton.1 hx
        simp only; omega
    · refine ⟨fun x hx => ?_, by simp only; omega⟩
      rcases List.mem_append.1 hx with hx | hx
      · exact h1 x hx
      · obtain rfl := List.mem_singleton.1 hx
        simp only; omega
theorem mparts_bd (c t : Nat) (ps : List (Nat × Nat)) : (∀ x ∈ (mparts c t ps).1, x < (mparts c t ps).2) ∧ (mparts c t ps).2 ≤ sumP ps := by
  have key : ∀ (ps : List (Nat × Nat)) (st : List Int × Nat), (∀ x ∈ st.1, x < st.2) → (∀ x ∈ (ps.foldl (mpart c t) st).1, x < (ps.foldl (mpart c t) st).2) ∧ (ps.foldl (mpart c t) st).2 ≤ st.2 + sumP ps := by
    intro ps
    induction ps with
    | nil => intro st h; exact ⟨h, by simp [sumP]⟩
    | cons p ps ih =>
      intro st h
      have h1 := mrun_bd (sec c t p.2) (st.1 ++ List.replicate p.1 (-1), st.2) p.2 (fun x hx => by
        rcases List.mem_append.1 hx with hx | hx
        · exact h x hx
        · have := List.eq_of_mem_replicate hx; simp only; omega)
      obtain ⟨h2, h3⟩ := ih (mpart c t st p) h1.1
      refine ⟨h2, ?_⟩
      have h4 : (mpart c t st p).2 ≤ st.2 + p.2 := h1.2
      simp only [List.foldl_cons, sumP, List.map_cons, List.sum_cons] at h3 ⊢
      omega
  have := key ps ([], 0) (fun x hx => by cases hx)
  exact ⟨this.1, by have := this.2; unfold mparts; omega⟩
theorem marksL_bd {l : Lk} {n : Nat} (h : sumP (prts (lps l) n) ≤ 1000000) : ∀ x ∈ marksL l n, x ≤ 1000000000 := fun x hx => by
  have h1 := (mparts_bd l.crypt.toNat l.skip.toNat (prts (lps l) n)).1 x hx
  have h2 := (mparts_bd l.crypt.toNat l.skip.toNat (prts (lps l) n)).2
  omega
/-- The error of bytes that are to be protected, and what they become. -/
def protE (l : Lk) (ks : List (List Int)) (n : Nat) : Int := if chkI l ≠ 0 then chkI l else if 65536 < n then 2 else if sumP (prts (lps l) n) ≠ n then 211 else if hasB ks l.key = false then 210 else 0
def keyL (l : Lk) (ks : List (List Int)) : List Int := ks.getD (l.key - 1).toNat []
def protR (D : List Int) (l : Lk) (ks : List (List Int)) : List Int := if protE l ks D.length = 0 then List.zipWith (xfun (keyL l ks) l.nonce) D (marksL l D.length) else []
def ProtPost (D : List Int) (l : Lk) (ks : List (List Int)) (h : Hp) (v : Value) (h' : Hp) : Prop :=
  ∃ a cap, v = .tuple #[.slice a (protR D l ks).length cap, .int .i64 (protE l ks D.length)] ∧ Ow h' 1 a (protR D l ks).length cap ((protR D l ks).map (Value.int .u8)) ∧ Nw h a ∧ Fm No h h'
theorem ProtPost.no {D : List Int} {l : Lk} {ks : List (List Int)} {e : Int} {h h' : Hp} {v : Value} (he : protE l ks D.length = e) (hne : e ≠ 0) (hv : v = .tuple #[.slice none 0 0, .int .i64 e]) (fm : Fm No h h') : ProtPost D l ks h v h' := by
  have hr : protR D l ks = [] := by rw [protR, if_neg (by rw [he]; exact hne)]
  refine ⟨none, 0, ?_, ?_, Nw.none, fm⟩
  · rw [hr, he]; exact hv
  · rw [hr]; exact Ow.mk0
theorem protE_0 {l : Lk} {ks : List (List Int)} {n : Nat} (h : protE l ks n = 0) : chkI l = 0 ∧ n ≤ 65536 ∧ sumP (prts (lps l) n) = n ∧ hasB ks l.key = true := by
  unfold protE at h
  split at h
  · rename_i h1; exact absurd h h1
  · rename_i h1
    split at h
    · omega
    · rename_i h2
      split at h
      · omega
      · rename_i h3
        split at h
        · omega
        · rename_i h4
          exact ⟨by simpa using h1, by omega, by simpa using h3, by simpa using h4⟩
theorem hasB_key {ks : List (List Int)} {k : Int} (h : hasB ks k = true) : ∃ m : Nat, k = ((m + 1 : Nat) : Int) ∧ m < ks.length ∧ ks[m]? = some (ks.getD (k - 1).toNat []) ∧ (ks.getD (k - 1).toNat []).length = 16 := by
  unfold hasB at h
  simp only [Bool.and_eq_true, decide_eq_true_eq] at h
  obtain ⟨⟨h1, h2⟩, h3⟩ := h
  refine ⟨(k - 1).toNat, by omega, by omega, ?_, h3⟩
  rw [List.getD_eq_getElem?_getD, List.getElem?_eq_getElem (by omega)]; rfl
theorem c_Protect {h : Hp} {a ka oa : Option Addr} {cap kc cc : Nat} {D : List Int} {l : Lk} {ks : List (List Int)} (r : Rd h 1 a D.length (D.map (Value.int .u8))) (hc : D.length ≤ cap) (hn : D.length ≤ 1000000)
    (rl : Rd h 2 oa l.parts.length (l.parts.flatMap partC)) (hl : l.parts.length ≤ 140737488351232) (K : KeysAt h ka ks) (hk : ks.length ≤ 140737488351232) :
    ACalls Try.prog 17 [.slice a D.length cap, lockV l oa cc, .slice ka ks.length kc] h (ProtPost D l ks h) := by
  refine crypt_Protect_ok.snd hm rfl fun w => ?_
  rw [WF_eq, crypt_Protect, lockV]
  simp +contextual only [↓AM, ↓AV, AP, rdN_n5]
  have fm0 : Fm No h (h.new ⟨[.int .i64 l.key, .int .i64 l.nonce, .int .i64 l.crypt, .int .i64 l.skip, .slice oa l.parts.length cc], .own⟩) := Fm.new Fm.refl
  have hg0 : (h.new ⟨[.int .i64 l.key, .int .i64 l.nonce, .int .i64 l.crypt, .int .i64 l.skip, .slice oa l.parts.length cc], .own⟩).get h.size = some _ := gnew
  have r0 := r.keep w fm0 (fun _ _ => id)
  have rl0 := rl.keep w fm0 (fun _ _ => id)
  have K0 := K.keep w fm0
  have w0 : Wf (h.new ⟨[.int .i64 l.key, .int .i64 l.nonce, .int .i64 l.crypt, .int .i64 l.skip, .slice oa l.parts.length cc], .own⟩) := w.new
  generalize h.new ⟨[.int .i64 l.key, .int .i64 l.nonce, .int .i64 l.crypt, .int .i64 l.skip, .slice oa l.parts.length cc], .own⟩ = h0 at *
  refine (c_Check rl0 hl).use ?_
  rintro _ h1 w1 ⟨rfl, fm1⟩
  have fm01 := fm0.trans fm1 (fun _ _ x => x)
  have hg1 := fm1.keep w0 hg0 id
  have r1 := r0.keep w0 fm1 (fun _ _ => id)
  have rl1 := rl0.keep w0 fm1 (fun _ _ => id)
  have K1 := K0.keep w0 fm1
  by_cases he : chkI l = 0
  case neg =>
    have e0 : EqI (chkI l) 0 = False := eq_false he
    simp +contextual only [↓AM, ↓AV, AP, e0]
    exact ProtPost.no (by rw [protE, if_pos he]) he rfl fm01
  have e0 : EqI (chkI l) 0 = True := eq_true he
  by_cases hbig : 65536 < D.length
  · have e1 : ((65536 : Int) < (D.length : Int)) = True := eq_true (by omega)
    simp +contextual only [↓AM, ↓AV, AP, e0, e1]
    exact ProtPost.no (by rw [protE, if_neg (by simp [he]), if_pos hbig]) (by decide) rfl fm01
  have e1 : ((65536 : Int) < (D.length : Int)) = False := eq_false (by omega)
  have hr1 : h1.rdN h.size 0 5 = some [.int .i64 l.key, .int .i64 l.nonce, .int .i64 l.crypt, .int .i64 l.skip, .slice oa l.parts.length cc] := by rw [rdN_mk hg1 (by simp)]; rfl
  have g := chk_gk he
  simp +contextual only [↓AM, ↓AV, AP, e0, e1, hr1]
  refine (c_stretches rl1 g hn).use ?_
  rintro _ h2 w2 ⟨sa, sc, rfl, -, -, fm2⟩
  have fm02 := fm01.trans fm2 (fun _ _ x => x)
  have hg2 := fm2.keep w1 hg1 id
  have r2 := r1.keep w1 fm2 (fun _ _ => id)
  have rl2 := rl1.keep w1 fm2 (fun _ _ => id)
  have K2 := K1.keep w1 fm2
  by_cases hs : sumP (prts (lps l) D.length) = D.length
  case neg =>
    simp +contextual only [↓AM, ↓AV, AP, hs]
    exact ProtPost.no (by rw [protE, if_neg (by simp [he]), if_neg hbig, if_pos hs]) (by decide) rfl fm02
  simp +contextual only [↓AM, ↓AV, AP, hs, rd_mk hg2]
  refine (c_hasKey K2 hk).use ?_
  rintro _ h2 w2 ⟨rfl, rfl⟩
  cases hkn : hasB ks l.key
  · simp +contextual only [↓AM, ↓AV, AP]
    exact ProtPost.no (by rw [protE, if_neg (by simp [he]), if_neg hbig, if_neg (by simp [hs]), if_pos hkn]) (by decide) rfl fm02
  obtain ⟨m, hm1, hm2, hm3, hm4⟩ := hasB_key hkn
  obtain ⟨kb, koff, ksp, kka, kkc, rfl, kf, krd, rk, hkc, hkb⟩ := K2 m _ hm3
  have hE : protE l ks D.length = 0 := by rw [protE, if_neg (by simp [he]), if_neg hbig, if_neg (by simp [hs]), if_neg (by simp [hkn])]
  have hR : protR D l ks = List.zipWith (xfun (keyL l ks) l.nonce) D (marksL l D.length) := by rw [protR, if_pos hE]
  have hRl : (protR D l ks).length = D.length := by
    rw [hR, List.length_zipWith, marksL, mparts_len, hs, Nat.min_self]
  have hr2 : h2.rdN h.size 0 5 = some [.int .i64 l.key, .int .i64 l.nonce, .int .i64 l.crypt, .int .i64 l.skip, .slice oa l.parts.length cc] := by rw [rdN_mk hg2 (by simp)]; rfl
  rw [hm4] at rk krd hkc
  have hrk : h2.rd h.size 0 = some (.int .i64 ((m + 1 : Nat) : Int)) := by rw [rd_mk hg2, ← hm1]; rfl
  have hE' := hE
  generalize hkey : ks.getD (l.key - 1).toNat [] = key at *
  have hkl : keyL l ks = key := hkey
  rw [hkl] at hR
  simp +contextual (disch := omega) only [↓AM, ↓AV, AP, CQ, hr2, hrk, i64, kf, hm2, krd, ldOk]
  refine (c_apply r2 hc hn rl2 g rk hkb hkc hs).use ?_
  rintro _ h3 w3 ⟨o, co, rfl, ow, nw, fm3⟩
  simp +contextual only [↓AM, ↓AV, AP]
  refine ⟨o, co, ?_, ?_, fun x hx => Nat.le_trans fm02.size (nw x hx), fm02.trans fm3 fun _ _ x => x⟩
  · rw [hRl, hE]
  · rw [hRl, hR]; exact ow
theorem c_rProtect {h : Hp} {a ka oa : Option Addr} {cap kc cc : Nat} {D : List Int} {l : Lk} {ks : List (List Int)} (r : Rd h 1 a D.length (D.map (Value.int .u8))) (hn : D.length ≤ 1000000)
    (rl : Rd h 2 oa l.parts.length (l.parts.flatMap partC)) (hl : l.parts.length ≤ 140737488351232) (K : KeysAt h ka ks) (hk : ks.length ≤ 140737488351232) :
    ACalls Try.prog 18 [.slice a D.length cap, lockV l oa cc, .slice ka ks.length kc] h (ProtPost D l ks h) := by
  refine dioramaref21_Protect_ok.snd hm rfl fun w => ?_
  rw [WF_eq, dioramaref21_Protect, lockV]
  simp +contextual only [↓AM, ↓AV, AP, rdN_n5]
  have fm0 : Fm No h (h.new ⟨[.int .i64 l.key, .int .i64 l.nonce, .int .i64 l.crypt, .int .i64 l.skip, .slice oa l.parts.length cc], .own⟩) := Fm.new Fm.refl
  have hg0 : (h.new ⟨[.int .i64 l.key, .int .i64 l.nonce, .int .i64 l.crypt, .int .i64 l.skip, .slice oa l.parts.length cc], .own⟩).get h.size = some _ := gnew
  have r0 := r.keep w fm0 (fun _ _ => id)
  have rl0 := rl.keep w fm0 (fun _ _ => id)
  have K0 := K.keep w fm0
  have w0 : Wf (h.new ⟨[.int .i64 l.key, .int .i64 l.nonce, .int .i64 l.crypt, .int .i64 l.skip, .slice oa l.parts.length cc], .own⟩) := w.new
  generalize h.new ⟨[.int .i64 l.key, .int .i64 l.nonce, .int .i64 l.crypt, .int .i64 l.skip, .slice oa l.parts.length cc], .own⟩ = h0 at *
  refine (c_rCheck rl0 hl).use ?_
  rintro _ h1 w1 ⟨rfl, fm1⟩
  have fm01 := fm0.trans fm1 (fun _ _ x => x)
  have hg1 := fm1.keep w0 hg0 id
  have r1 := r0.keep w0 fm1 (fun _ _ => id)
  have rl1 := rl0.keep w0 fm1 (fun _ _ => id)
  have K1 := K0.keep w0 fm1
  by_cases he : chkI l = 0
  case neg =>
    have e0 : EqI (chkI l) 0 = False := eq_false he
    simp +contextual only [↓AM, ↓AV, AP, e0]
    exact ProtPost.no (by rw [protE, if_pos he]) he rfl fm01
  have e0 : EqI (chkI l) 0 = True := eq_true he
  by_cases hbig : 65536 < D.length
  · have e1 : ((65536 : Int) < (D.length : Int)) = True := eq_true (by omega)
    simp +contextual only [↓AM, ↓AV, AP, e0, e1]
    exact ProtPost.no (by rw [protE, if_neg (by simp [he]), if_pos hbig]) (by decide) rfl fm01
  have e1 : ((65536 : Int) < (D.length : Int)) = False := eq_false (by omega)
  have hr1 : h1.rdN h.size 0 5 = some [.int .i64 l.key, .int .i64 l.nonce, .int .i64 l.crypt, .int .i64 l.skip, .slice oa l.parts.length cc] := by rw [rdN_mk hg1 (by simp)]; rfl
  have g := chk_gk he
  simp +contextual only [↓AM, ↓AV, AP, e0, e1, hr1]
  refine (c_marks rl1 g hn).use ?_
  rintro _ h2 w2 ⟨ma, mk, mc, rfl, how, -, fm2⟩
  have fm02 := fm01.trans fm2 (fun _ _ x => x)
  have hg2 := fm2.keep w1 hg1 id
  have r2 := r1.keep w1 fm2 (fun _ _ => id)
  have K2 := K1.keep w1 fm2
  by_cases hs : sumP (prts (lps l) D.length) = D.length
  case neg =>
    simp +contextual only [↓AM, ↓AV, AP, hs]
    exact ProtPost.no (by rw [protE, if_neg (by simp [he]), if_neg hbig, if_pos hs]) (by decide) rfl fm02
  obtain ⟨rfl, mw⟩ := how hs
  simp +contextual only [↓AM, ↓AV, AP, hs, rd_mk hg2]
  refine (c_usable K2 hk).use ?_
  rintro _ h2 w2 ⟨rfl, rfl⟩
  cases hkn : hasB ks l.key
  · simp +contextual only [↓AM, ↓AV, AP]
    exact ProtPost.no (by rw [protE, if_neg (by simp [he]), if_neg hbig, if_neg (by simp [hs]), if_pos hkn]) (by decide) rfl fm02
  have hE : protE l ks D.length = 0 := by rw [protE, if_neg (by simp [he]), if_neg hbig, if_neg (by simp [hs]), if_neg (by simp [hkn])]
  have hR : protR D l ks = List.zipWith (xfun (keyL l ks) l.nonce) D (marksL l D.length) := by rw [protR, if_pos hE]
  have hRl : (protR D l ks).length = D.length := by
    rw [hR, List.length_zipWith, marksL, mparts_len, hs, Nat.min_self]
  have hr2 : h2.rdN h.size 0 5 = some [.int .i64 l.key, .int .i64 l.nonce, .int .i64 l.crypt, .int .i64 l.skip, .slice oa l.parts.length cc] := by rw [rdN_mk hg2 (by simp)]; rfl
  have hk1 : keyO ks l.key = some (keyL l ks) := by rw [keyO, hkn]; rfl
  simp +contextual (disch := omega) only [↓AM, ↓AV, AP, CQ, hr2, ldOk]
  refine (c_protect (M := marksL l D.length) r2 hn mw.rd K2 hk (marksL_bd (by omega))).use ?_
  rintro _ h3 w3 ⟨o, co, rfl, ow, nw, fm3⟩
  rw [hk1, xfunR_some] at ow
  simp +contextual only [↓AM, ↓AV, AP]
  refine ⟨o, co, ?_, ?_, fun x hx => Nat.le_trans fm02.size (nw x hx), fm02.trans fm3 fun _ _ x => x⟩
  · rw [hRl, hE]
  · rw [hRl, hR]; exact ow
end Go.Proofs.Ytloonniiffbopaa.Cr
