/- Locks read from bytes, by the document's text. Plain theorems over the abstract machine.
   Conditions: none. -/
import Derived.Test.YtloonniiffbopaaCrV
namespace Go.Proofs.Ytloonniiffbopaa.Cr
open Go Go.RowKit Go.Proofs.Ytloonniiffbopaa.Am Go.Proofs.Ytloonniiffbopaa.Af
set_option linter.unusedVariables false
set_option linter.unusedSimpArgs false
set_option maxRecDepth 20000

theorem c_rFromBytes {h : Hp} {a : Option Addr} {n c : Nat} {bs : List Int} (r : Rd h 1 a n (bs.map (Value.int .u8))) (hb : Bytes bs) (hn : n ≤ 1000000) :
    ACalls Try.prog 26 [.slice a n c] h (FrPost bs h) := by
  refine dioramaref21_FromBytes_ok.snd hm rfl fun w => ?_
  rw [WF_eq, dioramaref21_FromBytes]
  have hl := r.ilen
  have z5 : ∀ a b c d e : Value, spl [Value.int .i64 0, .int .i64 0, .int .i64 0, .int .i64 0, .slice none 0 0] 0 [a, b, c, d, e] = [a, b, c, d, e] := fun _ _ _ _ _ => rfl
  have fmz : Fm No h (h.new ⟨[.int .i64 0, .int .i64 0, .int .i64 0, .int .i64 0, .slice none 0 0], .own⟩) := Fm.new Fm.refl
  have rz := r.keep w fmz (fun _ _ => id)
  by_cases h0 : n = 0
  · have e0 : ((n : Int) < 1) = True := eq_true (by omega)
    simp +contextual only [↓AM, ↓AV, AP, e0, z5, rdN_n5, new_put]
    have he : frE bs = 3 := by rw [frE, if_pos (by omega)]
    exact FrPost.no he (frN_no (by omega)) (frL_no (by omega)) rfl fmz
  have e0 : ((n : Int) < 1) = False := eq_false (by omega)
  have b0x := getD_bd hb 0
  have w0x : IntKind.i64.wrap (bs.getD 0 0) = bs.getD 0 0 := i64 (by omega)
  have b0 := getD_bd hb 0
  obtain ⟨b, off, sp, rfl, ff, rb0⟩ := byte_at rz (i := 0) (by omega)
  have rb0 : Hp.rd _ b off = _ := rb0
  have l0 : ((0 : Int) < (n : Int)) = True := eq_true (by omega)
  have l0' : (0 < n) = True := eq_true (by omega)
  have z0 : ((0 : Int) ≤ 0) = True := by simp
  have z00 : Int.toNat 0 = 0 := rfl
  by_cases hb0 : bs.getD 0 0 = 0
  · have e1 : EqI (bs.getD 0 0) 0 = True := eq_true hb0
    simp +contextual only [↓AM, ↓AV, AP, e0, l0, l0', z0, z00, ff, rb0, e1, z5, rdN_n5, new_put]
    have he : frE bs = 0 := by rw [frE, if_neg (by omega), if_pos hb0]
    exact FrPost.no (n := 1) he (by rw [frN, if_pos he, if_pos hb0]) (by rw [frL, if_neg (fun x => x.2 hb0)]) rfl fmz
  have e1 : EqI (bs.getD 0 0) 0 = False := eq_false hb0
  by_cases h4 : 4 < bs.getD 0 0
  · have e4 : ((4 : Int) < bs.getD 0 0) = True := eq_true h4
    simp +contextual only [↓AM, ↓AV, AP, e0, l0, l0', z0, z00, ff, rb0, e1, w0x, e4, z5, rdN_n5, new_put]
    have he : frE bs = 4 := by rw [frE, if_neg (by omega), if_neg hb0, if_pos h4]
    exact FrPost.no he (frN_no (by omega)) (frL_no (by omega)) rfl fmz
  have e4 : ((4 : Int) < bs.getD 0 0) = False := eq_false h4
  by_cases h12 : n < 12
  · have e5 : ((n : Int) < 12) = True := eq_true (by omega)
    simp +contextual only [↓AM, ↓AV, AP, e0, l0, l0', z0, z00, ff, rb0, e1, w0x, e4, e5, z5, rdN_n5, new_put]
    have he : frE bs = 3 := by rw [frE, if_neg (by omega), if_neg hb0, if_neg h4, if_pos (by omega)]
    exact FrPost.no he (frN_no (by omega)) (frL_no (by omega)) rfl fmz
  have e5 : ((n : Int) < 12) = False := eq_false (by omega)
  simp +contextual only [↓AM, ↓AV, AP, e0, l0, l0', z0, z00, ff, rb0, e1, w0x, e4, e5]
  have w0 : Wf (h.new ⟨[.int .i64 0, .int .i64 0, .int .i64 0, .int .i64 0, .slice none 0 0], .own⟩) := w.new
  have hgz : (h.new ⟨[.int .i64 0, .int .i64 0, .int .i64 0, .int .i64 0, .slice none 0 0], .own⟩).get h.size = some _ := gnew
  have hsz : (h.new ⟨[.int .i64 0, .int .i64 0, .int .i64 0, .int .i64 0, .slice none 0 0], .own⟩).size = h.size + 1 := rfl
  generalize h.new ⟨[.int .i64 0, .int .i64 0, .int .i64 0, .int .i64 0, .slice none 0 0], .own⟩ = h0 at *
  have w0' := w0
  have rb11 := (byte_at rz (i := 11) (by omega))
  obtain ⟨_, _, _, e, _, rb11⟩ := rb11
  cases e
  obtain ⟨_, _, _, e, _, rb9⟩ := (byte_at rz (i := 9) (by omega))
  cases e
  obtain ⟨_, _, _, e, _, rb10⟩ := (byte_at rz (i := 10) (by omega))
  cases e
  have b9 := getD_bd hb 9
  have b10 := getD_bd hb 10
  have b11 := getD_bd hb 11
  have l11 : ((11 : Int) < (n : Int)) = True := eq_true (by omega)
  have l9 : ((9 : Int) < (n : Int)) = True := eq_true (by omega)
  have l10 : ((10 : Int) < (n : Int)) = True := eq_true (by omega)
  have p11 : ((0 : Int) ≤ 11) = True := by simp
  have p9 : ((0 : Int) ≤ 9) = True := by simp
  have p10 : ((0 : Int) ≤ 10) = True := by simp
  have t11 : Int.toNat 11 = 11 := rfl
  have t9 : Int.toNat 9 = 9 := rfl
  have t10 : Int.toNat 10 = 10 := rfl
  have w9 : IntKind.i64.wrap (bs.getD 9 0) = bs.getD 9 0 := i64 (by omega)
  have w10 : IntKind.i64.wrap (bs.getD 10 0) = bs.getD 10 0 := i64 (by omega)
  have w11 : IntKind.i64.wrap (bs.getD 11 0) = (nB bs : Int) := by rw [i64 (by omega), nB]; omega
  have hnb : nB bs ≤ 255 := by unfold nB; omega
  have rdz : ∀ (h9 : Hp) (a b c d e : Value), (h9.put h.size ⟨[a, b, c, d, e], .own⟩).rdN h.size 0 5 = some [a, b, c, d, e] := fun h9 a b c d e => by
    rw [rdN_mk gput (by simp)]; rfl
  have fmp : ∀ cs, Fm No h (h0.put h.size ⟨cs, .own⟩) := fun cs => fmz.put fun hx => absurd hx (Nat.lt_irrefl _)
  by_cases h40 : 40 < nB bs
  · have e6 : ((40 : Int) < (nB bs : Int)) = True := eq_true (by omega)
    simp +contextual only [↓AM, ↓AV, AP, intV, l11, p11, t11, ff, rb11, w11, e6, hgz, z5, rdz]
    have he : frE bs = 4 := by rw [frE, if_neg (by omega), if_neg hb0, if_neg h4, if_neg (by omega), if_pos h40]
    exact FrPost.no he (frN_no (by omega)) (frL_no (by omega)) rfl (fmp _)
  have e6 : ((40 : Int) < (nB bs : Int)) = False := eq_false (by omega)
  have wn : IntKind.i64.wrap (8 * (nB bs : Int)) = 8 * (nB bs : Int) := i64 (by omega)
  have wn2 : IntKind.i64.wrap (12 + 8 * (nB bs : Int)) = ((12 + 8 * nB bs : Nat) : Int) := by rw [i64 (by omega)]; rfl
  by_cases hend : n < 12 + 8 * nB bs
  · simp +contextual only [↓AM, ↓AV, AP, intV, l11, p11, t11, ff, rb11, w11, e6, wn, wn2, hend, hgz, z5, rdz]
    have he : frE bs = 3 := by rw [frE, if_neg (by omega), if_neg hb0, if_neg h4, if_neg (by omega), if_neg h40, if_pos (by omega)]
    exact FrPost.no he (frN_no (by omega)) (frL_no (by omega)) rfl (fmp _)
  simp +contextual only [↓AM, ↓AV, AP, l11, p11, t11, ff, rb11, w11, e6, wn, wn2, hend]
  refine (c_rInt (at0 := 1) (k := 8) rz hb hn (by omega) (by omega) (by omega)).use ?_
  rintro _ h0 w0' ⟨rfl, rfl⟩
  have fin0 : ∀ (h9 : Hp) (cs : List Value), Fm No h h9 → Fm No h (h9.put h.size ⟨cs, .own⟩) := fun h9 cs f => f.put fun hx => absurd hx (Nat.lt_irrefl _)
  cases hbig : bigN (val (sub bs 1 8))
  case true =>
    have one0 : EqI 1 0 = False := eq_false (by unfold EqI; omega)
    simp +contextual only [↓AM, ↓AV, AP, intV, hbig, one0, hgz, z5, rdz, if_pos]
    have he : frE bs = 4 := by rw [frE, if_neg (by omega), if_neg hb0, if_neg h4, if_neg (by omega), if_neg h40, if_neg (by omega), if_pos hbig]
    exact FrPost.no he (frN_no (by omega)) (frL_no (by omega)) rfl (fin0 _ _ fmz)
  have hiv : intV (val (sub bs 1 8)) = .tuple #[.int .i64 (val (sub bs 1 8)), .int .i64 0] := by simp [intV, hbig]
  rw [hiv]
  generalize hnv : val (sub bs 1 8) = nv at *
  simp +contextual only [↓AM, ↓AV, AP, l9, l10, l11, p9, p10, p11, t9, t10, t11, z0, z00, l0, l0', ff, rb0, rb9, rb10, rb11, w0x, w9, w10, w11, e6, wn, wn2, hend, ldOk, eqI_self, new_put, z5]
  have fml : Fm No h0 (h0.new ⟨[.int .i64 (bs.getD 0 0), .int .i64 nv, .int .i64 (bs.getD 9 0), .int .i64 (bs.getD 10 0), .slice none 0 0], .own⟩) := Fm.new Fm.refl
  have hgl : (h0.new ⟨[.int .i64 (bs.getD 0 0), .int .i64 nv, .int .i64 (bs.getD 9 0), .int .i64 (bs.getD 10 0), .slice none 0 0], .own⟩).get h0.size = some _ := gnew
  have wl : Wf (h0.new ⟨[.int .i64 (bs.getD 0 0), .int .i64 nv, .int .i64 (bs.getD 9 0), .int .i64 (bs.getD 10 0), .slice none 0 0], .own⟩) := w0'.new
  have hgz2 := fml.keep w0' hgz id
  have rl := rz.keep w0' fml (fun _ _ => id)
  have hsl : h0.size < (h0.new ⟨[.int .i64 (bs.getD 0 0), .int .i64 nv, .int .i64 (bs.getD 9 0), .int .i64 (bs.getD 10 0), .slice none 0 0], .own⟩).size := Nat.lt_succ_self _
  have fmhl : Fm No h (h0.new ⟨[.int .i64 (bs.getD 0 0), .int .i64 nv, .int .i64 (bs.getD 9 0), .int .i64 (bs.getD 10 0), .slice none 0 0], .own⟩) := fmz.trans fml fun _ _ x => x
  generalize h0.new ⟨[.int .i64 (bs.getD 0 0), .int .i64 nv, .int .i64 (bs.getD 9 0), .int .i64 (bs.getD 10 0), .slice none 0 0], .own⟩ = h1 at *
  generalize hbl : h0.size = bl at *
  have hbh : h.size < bl := by omega
  have hbh1 : bl < h1.size := hsl
  refine WL.mk (fun m t' h' => Wf h' ∧ Fm (fun x => x = bl) h1 h' ∧ ∃ i : Nat, i ≤ nB bs ∧ m = nB bs - i ∧ ∃ pa pc, Nw h1 pa ∧ h'.get bl = some ⟨[.int .i64 (bs.getD 0 0), .int .i64 nv, .int .i64 (bs.getD 9 0), .int .i64 (bs.getD 10 0), .slice pa i pc], .own⟩ ∧ Ow h' 2 pa i pc ((pts bs i).flatMap partC) ∧
      t' = [(0, some (.slice (some ⟨b, off, sp⟩) n c)), (2, some (.pointer (some ⟨h.size, 0, none⟩))), (5, some (.int .i64 (nB bs : Int))), (8, some (.pointer (some ⟨bl, 0, none⟩))), (9, some (.int .i64 (i : Int)))])
    ⟨_, wl, Fm.refl, 0, by omega, rfl, none, 0, Nw.none, hgl, Ow.mk0, rfl⟩ ?_
  rintro m t0 h2 ⟨w2, fm2, i, hi, rfl, pa, pc, nwp, hg2, ow2, rfl⟩
  have hno : ∀ x, x < h0.size → ¬ x = bl := fun x hx e => by omega
  have r2 := rz.keepW w0' (fml.mono (fun _ _ x => x.elim) |>.trans fm2 fun _ _ x => x) hno
  have hgz3 := fm2.keep wl hgz2 (by omega)
  have fmh2 : Fm No h h2 := fmhl.trans fm2 fun x hx e => by omega
  by_cases hin : i < nB bs
  case pos =>
    have wi8 : IntKind.i64.wrap (8 * (i : Int)) = 8 * (i : Int) := i64 (by omega)
    have wi12 : IntKind.i64.wrap (12 + 8 * (i : Int)) = ((12 + 8 * i : Nat) : Int) := by rw [i64 (by omega)]; rfl
    have wi16 : IntKind.i64.wrap (16 + 8 * (i : Int)) = ((16 + 8 * i : Nat) : Int) := by rw [i64 (by omega)]; rfl
    have nbl : ¬ At pa bl := fun hx => by have := nwp bl hx; omega
    simp +contextual only [↓AM, ↓AV, AP, hin, wi8, wi12]
    refine (c_rInt (at0 := 12 + 8 * i) (k := 4) r2 hb hn (by omega) (by omega) (by omega)).use ?_
    rintro _ h2 w2 ⟨rfl, rfl⟩
    simp +contextual only [↓AM, ↓AV, AP, intV4 hb, wi8, wi16]
    refine (c_rInt (at0 := 16 + 8 * i) (k := 4) r2 hb hn (by omega) (by omega) (by omega)).use ?_
    rintro _ h2 w2 ⟨rfl, rfl⟩
    simp +contextual only [↓AM, ↓AV, AP, intV4 hb, rd_mk hg2, src_n2]
    refine ow2.push (m := 1) w2 (by rfl) (by omega) fun pa3 pc3 h3 ow3 w3 fm3 n3 => ?_
    have hg3 := fm3.keep w2 hg2 nbl
    have nbl3 : ∀ x, At pa3 x → ¬ x = bl := fun x hx e => by
      have h1s := fm2.size
      rcases n3 x hx with h | h
      · exact nbl (e ▸ h)
      · omega
    have sp4 : ∀ a b c d e v : Value, spl [a, b, c, d, e] 4 [v] = [a, b, c, d, v] := fun _ _ _ _ _ _ => rfl
    have l5 : ∀ a b c d e : Value, leIs 5 [a, b, c, d, e] = true := fun _ _ _ _ _ => rfl
    have w8 := i64s (i := i) (by omega)
    simp +contextual only [↓AM, ↓AV, AP, hg3, sp4, l5, w8]
    have fmp3 : Fm (fun x => x = bl) h3 (h3.put bl ⟨[.int .i64 (bs.getD 0 0), .int .i64 nv, .int .i64 (bs.getD 9 0), .int .i64 (bs.getD 10 0), .slice pa3 (i + 1) pc3], .own⟩) := Fm.put Fm.refl fun _ => rfl
    refine ⟨_, by omega, w3.put (w3.lt hg3), (fm2.trans fm3 fun x hx ha => absurd (nwp x ha) (Nat.not_le_of_lt hx)).trans fmp3 fun _ _ x => x, i + 1, hin, rfl, pa3, pc3, ?_, rfl, ?_, rfl⟩
    · exact fun x hx => (n3 x hx).elim (nwp x) (fun hs => Nat.le_trans fm2.size hs)
    · rw [pts_S]
      have := ow3.keep w3 fmp3 nbl3
      simpa [partC] using this
  have hil : i = nB bs := by omega
  subst hil
  have c1 : ¬ nB bs < nB bs := by omega
  have hr2 : h2.rdN bl 0 5 = some [.int .i64 (bs.getD 0 0), .int .i64 nv, .int .i64 (bs.getD 9 0), .int .i64 (bs.getD 10 0), .slice pa (nB bs) pc] := by rw [rdN_mk hg2 (by simp)]; rfl
  have fin : ∀ (h9 : Hp) (cs : List Value), Fm No h h9 → Fm No h (h9.put h.size ⟨cs, .own⟩) := fun h9 cs f => f.put fun hx => absurd hx (Nat.lt_irrefl _)
  subst hnv
  simp +contextual only [↓AM, ↓AV, AP, c1, hr2]
  have hlk : lockV (lkB bs) pa pc = .agg #[.int .i64 (bs.getD 0 0), .int .i64 (val (sub bs 1 8)), .int .i64 (bs.getD 9 0), .int .i64 (bs.getD 10 0), .slice pa (nB bs) pc] := by
    rw [lockV, lkB]; simp only [pts_len]
  have owl : Ow h2 2 pa (lkB bs).parts.length pc ((lkB bs).parts.flatMap partC) := by
    have e : (lkB bs).parts = pts bs (nB bs) := rfl
    rw [e, pts_len]; exact ow2
  have ck := c_rCheck (h := h2) (l := lkB bs) (oa := pa) (c := pc) owl.rd (by rw [show (lkB bs).parts = pts bs (nB bs) from rfl, pts_len]; omega)
  rw [hlk] at ck
  refine ck.use ?_
  rintro _ h3 w3 ⟨rfl, fm3⟩
  have hg3 := fm3.keep w2 hg2 id
  have hgz4 := fm3.keep w2 hgz3 id
  have hr3 : h3.rdN bl 0 5 = some [.int .i64 (bs.getD 0 0), .int .i64 (val (sub bs 1 8)), .int .i64 (bs.getD 9 0), .int .i64 (bs.getD 10 0), .slice pa (nB bs) pc] := by rw [rdN_mk hg3 (by simp)]; rfl
  have ow3 := owl.keep w2 fm3 (fun _ _ => id)
  have fmh3 := fmh2.trans fm3 fun _ _ x => x
  by_cases hck : chkI (lkB bs) = 0
  case neg =>
    have k0 : EqI (chkI (lkB bs)) 0 = False := eq_false hck
    simp +contextual only [↓AM, ↓AV, AP, k0, hgz4, z5, rdz]
    have he : frE bs = 4 := by rw [frE, if_neg (by omega), if_neg hb0, if_neg h4, if_neg (by omega), if_neg h40, if_neg (by omega), if_neg (by simp [hbig]), if_pos hck]
    exact FrPost.no he (frN_no (by omega)) (frL_no (by omega)) rfl (fin _ _ fmh3)
  have k0 : EqI (chkI (lkB bs)) 0 = True := eq_true hck
  simp +contextual only [↓AM, ↓AV, AP, k0, hr3, hgz4, z5, rdz, wn, wn2]
  have he : frE bs = 0 := by rw [frE, if_neg (by omega), if_neg hb0, if_neg h4, if_neg (by omega), if_neg h40, if_neg (by omega), if_neg (by simp [hbig]), if_neg (by simp [hck])]
  have hL : frL bs = lkB bs := by rw [frL, if_pos ⟨he, hb0⟩]
  have hN : frN bs = 12 + 8 * nB bs := by rw [frN, if_pos he, if_neg hb0]
  have fmz4 : Fm (fun x => x = h.size) h3 (h3.put h.size ⟨[.int .i64 (bs.getD 0 0), .int .i64 (val (sub bs 1 8)), .int .i64 (bs.getD 9 0), .int .i64 (bs.getD 10 0), .slice pa (nB bs) pc], .own⟩) := Fm.put Fm.refl fun _ => rfl
  refine ⟨pa, pc, ?_, ?_, ?_, fin _ _ fmh3⟩
  · rw [hL, hN, he, hlk]
  · rw [hL]; exact ow3.rd.keep w3 fmz4 fun x hx e => by have := nwp x hx; omega
  · exact fun x hx => by have := nwp x hx; omega
end Go.Proofs.Ytloonniiffbopaa.Cr
