/- Bytes protected by the program. Plain theorems over the abstract machine.
   Conditions: none. -/
import Derived.Test.YtloonniiffbopaaCrN
namespace Go.Proofs.Ytloonniiffbopaa.Cr
open Go Go.RowKit Go.Proofs.Ytloonniiffbopaa.Am Go.Proofs.Ytloonniiffbopaa.Af
set_option linter.unusedVariables false
set_option linter.unusedSimpArgs false
set_option maxRecDepth 20000

theorem str_take_S (s : Str) (q : Nat) (h : q < s.2.1 - s.1) : s.at.take (q + 1) = s.at.take q ++ [(s.1 + q, s.2.2.1 * 16 + s.2.2.2 + q)] := by
  rw [List.take_add_one]
  simp [Str.at, h]
theorem str_len (s : Str) : s.at.length = s.2.1 - s.1 := by simp [Str.at]
theorem flat_take_S {S : List Str} {i : Nat} {s : Str} (h : S[i]? = some s) : flat (S.take (i + 1)) = flat (S.take i) ++ s.at := by
  rw [List.take_add_one, h]; simp [flat]
theorem xstep_len {key : List Int} {nonce : Int} : ∀ (P : List (Nat × Nat)) (D : List Int), (P.foldl (xstep key nonce) D).length = D.length
  | [], D => rfl
  | p :: P, D => by rw [List.foldl_cons, xstep_len P]; simp [xstep]
theorem skip_bd {c t : Nat} {ps : List (Nat × Nat)} : ∀ s ∈ (sparts c t ps).1, s.2.2.2 < 16 := by
  have hb : ∀ (a : Nat) (st : List Str × Nat), (∀ s ∈ st.1, s.2.2.2 < 16) → ∀ n, ∀ s ∈ (sblks c t a st n).1, s.2.2.2 < 16 := by
    intro a st h n
    induction n with
    | zero => exact h
    | succ n ih =>
      rw [sblks_S, sblk]
      split
      · intro s hs
        rcases List.mem_append.1 hs with hs | hs
        · exact ih s hs
        · obtain rfl := List.mem_singleton.1 hs
          simp only; omega
      · exact ih
  have key : ∀ (ps : List (Nat × Nat)) (st : List Str × Nat × Nat), (∀ s ∈ st.1, s.2.2.2 < 16) → ∀ s ∈ (ps.foldl (spart c t) st).1, s.2.2.2 < 16 := by
    intro ps
    induction ps with
    | nil => exact fun st h => h
    | cons p ps ih =>
      intro st h
      refine ih _ ?_
      unfold spart
      split
      · intro s hs
        rcases List.mem_append.1 hs with hs | hs
        · exact h s hs
        · obtain rfl := List.mem_singleton.1 hs
          simp only; omega
      · exact hb _ _ h _
  exact key ps ([], 0, 0) (fun s hs => by cases hs)
theorem Cip.call {h0 h : Hp} {pA pN pB : Nat} {key : List Int} {nonce : Int} {i : Nat} (C : Cip h0 (.func (.func 48) #[] #[.pointer (some ⟨pA, 0, none⟩), .pointer (some ⟨pN, 0, none⟩), .pointer (some ⟨pB, 0, none⟩)]) h (BitVec.ofInt 64 (val (key.take 8))) (BitVec.ofInt 64 (val (key.drop 8))) (BitVec.ofInt 64 nonce)) :
    ACalls Try.prog 48 [.int .i64 (i : Int), .pointer (some ⟨pA, 0, none⟩), .pointer (some ⟨pN, 0, none⟩), .pointer (some ⟨pB, 0, none⟩)] h fun v h' => v = .agg ((blk key nonce (i : Int)).map (Value.int .u8)).toArray ∧ Fm No h h' := by
  obtain ⟨qA, qN, qB, m, e, hN, -, -, -, g1, g2, g3⟩ := C.out
  cases e
  have := c_cipher1 (i := (i : Int)) g1 g2 g3
  rw [← hN] at this
  exact this
theorem blk_cells (key : List Int) (nonce i : Int) : lenIs ((blk key nonce i).map (Value.int .u8)) 16 = true ∧ allc ((blk key nonce i).map (Value.int .u8)) = true ∧ ∀ cs : List Value, cs.length = 16 → spl cs 0 ((blk key nonce i).map (Value.int .u8)) = (blk key nonce i).map (Value.int .u8) := by
  have hlen : (blk key nonce i).length = 16 := blkB_len _ _ _ _
  refine ⟨by rw [← lenIs_p]; simp [hlen], ?_, fun cs hcs => ?_⟩
  · rw [← allc_eq, List.all_eq_true]; intro v hv; obtain ⟨x, _, rfl⟩ := List.mem_map.1 hv; rfl
  · unfold spl
    rw [List.drop_eq_nil_of_le (by simp [hlen]; omega)]; simp
theorem num_bd {c t : Nat} {ps : List (Nat × Nat)} : ∀ s ∈ (sparts c t ps).1, s.2.2.1 ≤ (sparts c t ps).2.2 := by
  have hb : ∀ (a : Nat) (st : List Str × Nat), (∀ s ∈ st.1, s.2.2.1 ≤ st.2) → ∀ n, ∀ s ∈ (sblks c t a st n).1, s.2.2.1 ≤ (sblks c t a st n).2 := by
    intro a st h n
    induction n with
    | zero => exact h
    | succ n ih =>
      rw [sblks_S, sblk]
      split
      · intro s hs
        rcases List.mem_append.1 hs with hs | hs
        · have := ih s hs; simp only; omega
        · obtain rfl := List.mem_singleton.1 hs
          simp only; omega
      · exact ih
  have key : ∀ (ps : List (Nat × Nat)) (st : List Str × Nat × Nat), (∀ s ∈ st.1, s.2.2.1 ≤ st.2.2) → ∀ s ∈ (ps.foldl (spart c t) st).1, s.2.2.1 ≤ (ps.foldl (spart c t) st).2.2 := by
    intro ps
    induction ps with
    | nil => exact fun st h => h
    | cons p ps ih =>
      intro st h
      refine ih _ ?_
      unfold spart
      split
      · intro s hs
        rcases List.mem_append.1 hs with hs | hs
        · have := h s hs; simp only; omega
        · obtain rfl := List.mem_singleton.1 hs
          simp only; omega
      · exact hb _ _ h _
  exact key ps ([], 0, 0) (fun s hs => by cases hs)
theorem xset {key : List Int} {nonce : Int} (o : List Int) (p : Nat × Nat) : (xstep key nonce o p).map (Value.int .u8) = (o.map (Value.int .u8)).set p.1 (.int .u8 (xorI (o.getD p.1 0) (ksb key nonce p.2))) := by
  simp [xstep, List.map_set]
theorem c_apply {h : Hp} {a ka oa : Option Addr} {n cap kc cc c t : Nat} {D key : List Int} {l : Lk} {ps : List (Nat × Nat)} (r : Rd h 1 a n (D.map (Value.int .u8))) (hc : n ≤ cap) (hn : n ≤ 1000000)
    (rl : Rd h 2 oa l.parts.length (l.parts.flatMap partC)) (g : Gk l c t ps) (rk : Rd h 1 ka 16 (key.map (Value.int .u8))) (hb : Bytes key) (hkc : 16 ≤ kc) (hsum : sumP (prts ps n) = n) :
    ACalls Try.prog 38 [.slice a n cap, lockV l oa cc, .slice ka 16 kc] h fun v h' => ∃ o cap', v = .slice o n cap' ∧ Ow h' 1 o n cap' ((List.zipWith (xfun key l.nonce) D (mparts c t (prts ps n)).1).map (Value.int .u8)) ∧ Nw h o ∧ Fm No h h' := by
  refine crypt_apply_ok.snd hm rfl fun w => ?_
  rw [WF_eq, crypt_apply, lockV]
  have hDl := r.ilen
  have hml : D.length = (mparts c t (prts ps n)).1.length := by rw [mparts_len, hsum, hDl]
  have hfin : (flat (strs c t ps n)).foldl (xstep key l.nonce) D = List.zipWith (xfun key l.nonce) D (mparts c t (prts ps n)).1 := by
    rw [← xfold0 hml, strs, flat_keep, (parts_agr _ _ _).flat]
  rw [← hfin]
  have wi := g.wi (n := n) hn
  have hslen := strs_len (c := c) (t := t) wi
  have hbd : ∀ s ∈ strs c t ps n, s.1 < s.2.1 ∧ s.2.1 ≤ n ∧ s.2.2.2 < 16 := fun s hs => by
    have h1 := keepS_lt (sparts_ok c t (prts ps n)) s hs
    have h2 := sparts_bd s (List.mem_filter.1 hs).1
    have h3 := skip_bd s (List.mem_filter.1 hs).1
    omega
  have hblkbd : ∀ s ∈ strs c t ps n, s.2.2.1 * 16 ≤ 1000000000 := fun s hs => by
    have h1 := num_bd s (List.mem_filter.1 hs).1
    have h2 := (sparts_le (c := c) (t := t) wi (prts ps n).length (Nat.le_refl _)).2
    rw [List.take_length] at h2
    have h3 : (prts ps n).length * 1000000 ≤ 40 * 1000000 := Nat.mul_le_mul_right _ wi.len
    omega
  simp +contextual only [↓AM, ↓AV, AP]
  have fm0 : Fm No h (h.new ⟨[.int .i64 l.key, .int .i64 l.nonce, .int .i64 l.crypt, .int .i64 l.skip, .slice oa l.parts.length cc], .own⟩) := Fm.new Fm.refl
  have hg0 : (h.new ⟨[.int .i64 l.key, .int .i64 l.nonce, .int .i64 l.crypt, .int .i64 l.skip, .slice oa l.parts.length cc], .own⟩).get h.size = some _ := gnew
  have r0 := r.keep w fm0 (fun _ _ => id)
  have rl0 := rl.keep w fm0 (fun _ _ => id)
  have rk0 := rk.keep w fm0 (fun _ _ => id)
  have w0 : Wf (h.new ⟨[.int .i64 l.key, .int .i64 l.nonce, .int .i64 l.crypt, .int .i64 l.skip, .slice oa l.parts.length cc], .own⟩) := w.new
  generalize h.new ⟨[.int .i64 l.key, .int .i64 l.nonce, .int .i64 l.crypt, .int .i64 l.skip, .slice oa l.parts.length cc], .own⟩ = h0 at *
  refine (c_Clone r0 (by omega) hc).use ?_
  rintro _ h1 w1 ⟨o, co, rfl, ow1, nw1, fm1⟩
  have hg1 := fm1.keep w0 hg0 id
  have rl1 := rl0.keep w0 fm1 (fun _ _ => id)
  have rk1 := rk0.keep w0 fm1 (fun _ _ => id)
  have hr1 : h1.rdN h.size 0 5 = some [.int .i64 l.key, .int .i64 l.nonce, .int .i64 l.crypt, .int .i64 l.skip, .slice oa l.parts.length cc] := by rw [rdN_mk hg1 (by simp)]; rfl
  simp +contextual only [↓AM, ↓AV, AP, hr1]
  refine (c_stretches rl1 g hn).use ?_
  rintro _ h2 w2 ⟨sa, sc, rfl, sw, snw, fm2⟩
  have hg2 := fm2.keep w1 hg1 id
  have rk2 := rk1.keep w1 fm2 (fun _ _ => id)
  have ow2 := ow1.keep w1 fm2 (fun _ _ => id)
  simp +contextual only [↓AM, ↓AV, AP, rd_mk hg2]
  refine (c_newCipher rk2 hb hkc).use ?_
  rintro _ h3 w3 ⟨cv, rfl, C, fm3⟩
  have ow3 := ow2.keep w2 fm3 (fun _ _ => id)
  have sw3 := sw.keep w2 fm3 (fun _ _ => id)
  have hcv : ∃ pA pN pB, cv = .func (.func 48) #[] #[.pointer (some ⟨pA, 0, none⟩), .pointer (some ⟨pN, 0, none⟩), .pointer (some ⟨pB, 0, none⟩)] := by
    obtain ⟨pA, pN, pB, _, e, _⟩ := C.out
    exact ⟨pA, pN, pB, e⟩
  have fmn : Fm No h3 (h3.new ⟨[cv], .own⟩) := Fm.new Fm.refl
  have w4 : Wf (h3.new ⟨[cv], .own⟩) := w3.new
  have ow4 := ow3.keep w3 fmn (fun _ _ => id)
  have sw4 := sw3.keep w3 fmn (fun _ _ => id)
  have C4 := C.keep w3 fmn (fun _ _ _ => id)
  have hg4 : (h3.new ⟨[cv], .own⟩).get h3.size = some ⟨[cv], .own⟩ := gnew
  have hon : ∀ x, At o x → x < h1.size := ow1.lt w1
  have hsn : ∀ x, At sa x → h1.size ≤ x := snw
  have fm04 : Fm No h (h3.new ⟨[cv], .own⟩) := (((fm0.trans fm1 fun _ _ x => x).trans fm2 fun _ _ x => x).trans fm3 fun _ _ x => x).trans fmn fun _ _ x => x
  have nw : Nw h o := fun x hx => Nat.le_trans fm0.size (nw1 x hx)
  have hs12 := fm2.size
  have hs23 := fm3.size
  have hs34 : h3.size < (h3.new ⟨[cv], .own⟩).size := Nat.lt_succ_self _
  obtain ⟨pA, pN, pB, rfl⟩ := hcv
  simp +contextual only [↓AM, ↓AV, AP, ok_fn, co_fn, allc_fn, ok_nf, allc_nf, new_put]
  generalize h3.new ⟨[.func (.func 48) #[] #[.pointer (some ⟨pA, 0, none⟩), .pointer (some ⟨pN, 0, none⟩), .pointer (some ⟨pB, 0, none⟩)]], .own⟩ = h4 at *
  generalize hcell : h3.size = bc at *
  generalize strs c t ps n = S at *
  have hno : ∀ x, h1.size ≤ x → ¬ At o x := fun x hx ha => by have := hon x ha; omega
  -- the stretches, one after another
  refine WL.mk (fun k t' h' => Wf h' ∧ Fm (At o) h4 h' ∧ ∃ i : Nat, i ≤ S.length ∧ k = S.length - i ∧ Ow h' 1 o n co (((flat (S.take i)).foldl (xstep key l.nonce) D).map (Value.int .u8)) ∧
      t' = [(7, some (.slice o n co)), (10, some (.pointer (some ⟨bc, 0, none⟩))), (30, some (.slice sa S.length sc)), (31, some (.int .i64 S.length)), (32, some (.int .i64 i))])
    ⟨_, w4, Fm.refl, 0, by omega, rfl, ow4, rfl⟩ ?_
  rintro k t0 h5 ⟨w5, fm5, i, hi, rfl, ow5, rfl⟩
  by_cases hin : i < S.length
  case neg =>
    have : i = S.length := by omega
    subst this
    rw [List.take_length] at ow5
    simp +contextual only [↓AM, ↓AV, AP, hin]
    exact ⟨o, co, rfl, ow5, nw, fm04.trans fm5 fun x hx ha => by have := nw x ha; omega⟩
  obtain ⟨b1, o1, s1, u, rfl, f1, hu, r1, -⟩ := (sw4.rd.keep w4 fm5 (fun x hx => hno x (hsn x hx))).elem strC_len rfl hin
  obtain ⟨hu1, hu2, hu3⟩ := hbd u (List.mem_of_getElem? hu)
  have hu4 := hblkbd u (List.mem_of_getElem? hu)
  simp only [strC] at r1
  have hg5 := fm5.keep w4 hg4 (hno _ (by omega))
  have C5 := C4.keep w4 fm5 (fun x hx _ => hno x (by omega))
  -- a copy of the stretch, the first block
  have fm6 : Fm No h5 (h5.new ⟨[.int .i64 u.1, .int .i64 u.2.1, .int .i64 u.2.2.1, .int .i64 u.2.2.2], .own⟩) := Fm.new Fm.refl
  have hgs : (h5.new ⟨[.int .i64 u.1, .int .i64 u.2.1, .int .i64 u.2.2.1, .int .i64 u.2.2.2], .own⟩).get h5.size = some ⟨[.int .i64 u.1, .int .i64 u.2.1, .int .i64 u.2.2.1, .int .i64 u.2.2.2], .own⟩ := gnew
  have hgc : ∀ o, (h5.new o).get bc = _ := fun o => (get_new (h := h5) (o := o) (w5.lt hg5)).trans hg5
  have htk := flat_take_S hu
  simp +contextual only [↓AM, ↓AV, AP, CQ, hin, f1, r1, rnew, ldOk, rd_mk (hgc _)]
  refine ⟨by kernel_rfl, ?_⟩
  have C6 := C5.keep w5 fm6 (fun _ _ _ => id)
  have ow6 := ow5.keep w5 fm6 (fun _ _ => id)
  have w6 : Wf (h5.new ⟨[.int .i64 u.1, .int .i64 u.2.1, .int .i64 u.2.2.1, .int .i64 u.2.2.2], .own⟩) := w5.new
  have hgc6 := hgc ⟨[.int .i64 u.1, .int .i64 u.2.1, .int .i64 u.2.2.1, .int .i64 u.2.2.2], .own⟩
  have fm56 := fm5.trans fm6 (fun _ _ x => x.elim)
  have hs56 : h5.size < (h5.new ⟨[.int .i64 u.1, .int .i64 u.2.1, .int .i64 u.2.2.1, .int .i64 u.2.2.2], .own⟩).size := Nat.lt_succ_self _
  generalize h5.new ⟨[.int .i64 u.1, .int .i64 u.2.1, .int .i64 u.2.2.1, .int .i64 u.2.2.2], .own⟩ = h6 at *
  have hbs : h4.size ≤ h5.size := fm5.size
  generalize h5.size = bs at *
  have hbc : h1.size ≤ bc := by omega
  have hbcs : bc < h4.size := by omega
  refine (Cip.call (i := u.2.2.1) C6).use ?_
  rintro _ h7 w7 ⟨rfl, fm7⟩
  obtain ⟨k1, k2, k3⟩ := blk_cells key l.nonce ((u.2.2.1 : Nat) : Int)
  have el : leIs 16 (List.replicate 16 (Value.int .u8 0)) = true := by rw [← leIs_p]; simp
  have es := k3 (List.replicate 16 (Value.int .u8 0)) (by simp)
  have hgs7 := fm7.keep w6 hgs id
  have hgs8 : ∀ o, (h7.new o).get bs = _ := fun o => (get_new (h := h7) (o := o) (w7.lt hgs7)).trans hgs7
  simp +contextual only [↓AM, ↓AV, AP, CQ, k1, k2, el, es, rd_mk (hgs8 _)]
  have fm8 : Fm No h7 (h7.new ⟨(blk key l.nonce ((u.2.2.1 : Nat) : Int)).map (Value.int .u8), .own⟩) := Fm.new Fm.refl
  have fm68 := fm7.trans fm8 (fun _ _ x => x)
  have ow8 := ow6.keep w6 fm68 (fun _ _ => id)
  have hgb8 : (h7.new ⟨(blk key l.nonce ((u.2.2.1 : Nat) : Int)).map (Value.int .u8), .own⟩).get h7.size = some _ := gnew
  have hgs8 := hgs8 ⟨(blk key l.nonce ((u.2.2.1 : Nat) : Int)).map (Value.int .u8), .own⟩
  have w8 : Wf (h7.new ⟨(blk key l.nonce ((u.2.2.1 : Nat) : Int)).map (Value.int .u8), .own⟩) := w7.new
  have fm58 := fm56.trans fm68 (fun _ _ x => x.elim)
  have hbb : h4.size ≤ h7.size ∧ bs ≠ h7.size := ⟨by have := fm56.size; have := fm7.size; omega, fun e => by have := w7.lt hgs7; omega⟩
  generalize h7.new ⟨(blk key l.nonce ((u.2.2.1 : Nat) : Int)).map (Value.int .u8), .own⟩ = h8 at *
  generalize h7.size = bb at *
  clear k1 k2 k3 el es fm7 fm8 fm68 hgs7 w7 C6 ow6 hgc6 fm6 fm56 hs56 hgs w6
  -- its bytes
  refine WL.mk (fun k t' h' => Wf h' ∧ Fm (At o) h4 h' ∧ ∃ q A B : Nat, q ≤ u.2.1 - u.1 ∧ k = u.2.1 - u.1 - q ∧ B * 16 + A = u.2.2.1 * 16 + u.2.2.2 + q ∧ A ≤ 16 ∧ h'.get bs = some ⟨[.int .i64 u.1, .int .i64 u.2.1, .int .i64 u.2.2.1, .int .i64 u.2.2.2], .own⟩ ∧
      h'.get bb = some ⟨(blk key l.nonce (B : Int)).map (Value.int .u8), .own⟩ ∧ Ow h' 1 o n co (((flat (S.take i) ++ u.at.take q).foldl (xstep key l.nonce) D).map (Value.int .u8)) ∧
      t' = [(7, some (.slice o n co)), (10, some (.pointer (some ⟨bc, 0, none⟩))), (12, some (.pointer (some ⟨bs, 0, none⟩))), (13, some (.int .i64 B)), (14, some (.int .i64 A)), (15, some (.pointer (some ⟨bb, 0, none⟩))), (16, some (.int .i64 ((u.1 + q : Nat) : Int))),
        (30, some (.slice (some ⟨b1, o1, s1⟩) S.length sc)), (31, some (.int .i64 S.length)), (32, some (.int .i64 i))])
    ⟨_, w8, fm58, 0, u.2.2.2, u.2.2.1, Nat.zero_le _, rfl, by omega, by omega, hgs8, hgb8, by simpa using ow8, rfl⟩ ?_
  clear hgs8 hgb8 ow8 w8 fm58
  rintro k t0 h9 ⟨w9, fm9, q, A, B, hq, rfl, hAB, hA, hgs, hgb, ow9, rfl⟩
  by_cases hqn : q < u.2.1 - u.1
  case neg =>
    have hlt : ¬ u.1 + q < u.2.1 := by omega
    have hq' : q = u.2.1 - u.1 := by omega
    simp +contextual (disch := omega) only [↓AM, ↓AV, AP, CQ, rd_mk hgs, hlt, i64]
    refine ⟨_, ?_, w9, fm9, i + 1, hin, rfl, ?_, rfl⟩
    · omega
    · rw [htk, ← List.take_of_length_le (l := u.at) (i := q) (by rw [str_len]; omega)]; exact ow9
  have hlt : u.1 + q < u.2.1 := by omega
  simp +contextual (disch := omega) only [↓AM, ↓AV, AP, CQ, rd_mk hgs, hlt]
  refine WC.mk (fun t' h' => Wf h' ∧ Fm (At o) h4 h' ∧ ∃ A B : Nat, B * 16 + A = u.2.2.1 * 16 + u.2.2.2 + q ∧ A < 16 ∧ h'.get bs = some ⟨[.int .i64 u.1, .int .i64 u.2.1, .int .i64 u.2.2.1, .int .i64 u.2.2.2], .own⟩ ∧
      h'.get bb = some ⟨(blk key l.nonce (B : Int)).map (Value.int .u8), .own⟩ ∧ Ow h' 1 o n co (((flat (S.take i) ++ u.at.take q).foldl (xstep key l.nonce) D).map (Value.int .u8)) ∧
      t' = [(7, some (.slice o n co)), (10, some (.pointer (some ⟨bc, 0, none⟩))), (12, some (.pointer (some ⟨bs, 0, none⟩))), (13, some (.int .i64 B)), (14, some (.int .i64 A)), (15, some (.pointer (some ⟨bb, 0, none⟩))), (16, some (.int .i64 ((u.1 + q : Nat) : Int))),
        (30, some (.slice (some ⟨b1, o1, s1⟩) S.length sc)), (31, some (.int .i64 S.length)), (32, some (.int .i64 i))]) ?_ ?_
  · by_cases hA16 : A = 16
    · subst hA16
      have e0 : EqI ((16 : Nat) : Int) 16 = True := eq_true rfl
      have hgc9 := fm9.keep w4 hg4 (hno _ hbc)
      have C9 := C4.keep w4 fm9 (fun x hx _ => hno x (by omega))
      simp +contextual (disch := omega) only [↓AM, ↓AV, AP, CQ, e0, i64, rd_mk hgc9]
      refine ⟨by kernel_rfl, (Cip.call (i := B + 1) C9).use ?_⟩
      rintro _ h10 w10 ⟨rfl, fm10⟩
      have hgb10 := fm10.keep w9 hgb id
      have hgs10 := fm10.keep w9 hgs id
      have ow10 := ow9.keep w9 fm10 (fun _ _ => id)
      obtain ⟨k1, k2, k3⟩ := blk_cells key l.nonce ((B + 1 : Nat) : Int)
      have hl16 : ((blk key l.nonce (B : Int)).map (Value.int .u8)).length = 16 := by rw [List.length_map]; exact blkB_len _ _ _ _
      have el : leIs 16 ((blk key l.nonce (B : Int)).map (Value.int .u8)) = true := by rw [← leIs_p, hl16]; exact Nat.le_refl _
      have es := k3 _ hl16
      have fmp : Fm (fun x => x = bb) h10 (h10.put bb ⟨(blk key l.nonce ((B + 1 : Nat) : Int)).map (Value.int .u8), .own⟩) := Fm.put Fm.refl fun _ => rfl
      have obb : ∀ x, At o x → ¬ x = bb := fun x hx e => by have := hon x hx; omega
      simp +contextual (disch := omega) only [↓AM, ↓AV, AP, CQ, k1, k2, el, es, hgb10]
      refine ⟨w10.put (w10.lt hgb10), (fm9.trans fm10 fun _ _ x => x.elim).trans fmp fun x hx e => ?_, 0, B + 1, by omega, by omega, ?_, rfl, ow10.keep w10 fmp obb, rfl⟩
      · have := hbb.1; omega
      · rw [get_put hbb.2]; exact hgs10
    · have e0 : EqI (A : Int) 16 = False := eq_false (by unfold EqI; omega)
      simp +contextual (disch := omega) only [↓AM, ↓AV, AP, CQ, e0]
      exact ⟨w9, fm9, A, B, hAB, by omega, hgs, hgb, ow9, rfl⟩
  clear hAB hA hgs hgb ow9 w9 fm9 A B
  rintro t0 h10 ⟨w10, fm10, A, B, hAB, hA, hgs, hgb, ow10, rfl⟩
  have hmn : u.2.2.1 * 16 + u.2.2.2 + q = B * 16 + A := hAB.symm
  have hdiv : (B * 16 + A) / 16 = B := by omega
  have hmod : (B * 16 + A) % 16 = A := by omega
  have hXl : ((flat (S.take i) ++ u.at.take q).foldl (xstep key l.nonce) D).length = n := by rw [xstep_len]; exact hDl
  have hS : (flat (S.take i) ++ u.at.take (q + 1)).foldl (xstep key l.nonce) D = xstep key l.nonce ((flat (S.take i) ++ u.at.take q).foldl (xstep key l.nonce) D) (u.1 + q, B * 16 + A) := by
    rw [str_take_S u q hqn, ← List.append_assoc, List.foldl_append, List.foldl_cons, List.foldl_nil, hmn]
  generalize hX : (flat (S.take i) ++ u.at.take q).foldl (xstep key l.nonce) D = X at *
  obtain ⟨b, sp, ob, v, rfl, f2, hgo, hro, hle, hv, hrv, hset⟩ := ow10.cell w10 (i := u.1 + q) (by omega)
  have hv : v = .int .u8 (X.getD (u.1 + q) 0) := by
    rw [List.getElem?_map] at hv
    rw [List.getD_eq_getElem?_getD]
    cases hx : X[u.1 + q]? with
    | none => rw [hx] at hv; cases hv
    | some y => rw [hx] at hv; cases hv; rfl
  subst hv
  have hrb : h10.rd bb A = some (.int .u8 (ksb key l.nonce (B * 16 + A))) := by
    have hl16 : (blk key l.nonce (B : Int)).length = 16 := blkB_len _ _ _ _
    rw [rd_mk hgb, List.getElem?_map, ksb, hdiv, hmod, List.getD_eq_getElem?_getD, List.getElem?_eq_getElem (by omega)]
    rfl
  obtain ⟨-, ow11, w11, fm11⟩ := hset (.int .u8 (xorI (X.getD (u.1 + q) 0) (ksb key l.nonce (B * 16 + A))))
  have hlt' : u.1 + q < n := by omega
  have exo : ∀ x y, IntKind.u8.wrap ((BitVec.ofInt IntKind.u8.bits x ^^^ BitVec.ofInt IntKind.u8.bits y).toNat : Int) = xorI x y := fun _ _ => rfl
  have a16 : ((A : Int) < ((16 : Nat) : Int)) = True := eq_true (by omega)
  simp +contextual (disch := omega) only [↓AM, ↓AV, AP, CQ, f2, hlt', hrv, a16, hA, hrb, exo, hgo, hro, hle, ldOk, i64]
  refine ⟨_, ?_, w11, fm10.trans fm11 (fun _ _ x => x), q + 1, A + 1, B, by omega, rfl, by omega, by omega, ?_, ?_, ?_, rfl⟩
  · omega
  · exact fm11.keep w10 hgs fun hx => by have := hon _ hx; omega
  · exact fm11.keep w10 hgb fun hx => by have := hon _ hx; omega
  · rw [hS, xset]; exact ow11
end Go.Proofs.Ytloonniiffbopaa.Cr
