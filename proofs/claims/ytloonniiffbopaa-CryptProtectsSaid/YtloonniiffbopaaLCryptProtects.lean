/- The law CryptProtects: any bytes protected by any lock, and back. The walk over the abstract machine.
   Conditions: none. -/
import Derived.Test.YtloonniiffbopaaCrR
import Derived.Test.YtloonniiffbopaaCrJ
import Derived.Test.YtloonniiffbopaaAmZb
import Derived.DataShut
namespace Go.Proofs.Ytloonniiffbopaa.LCryptProtects
open Go Go.RowKit Go.Proofs.Ytloonniiffbopaa.Am Go.Proofs.Ytloonniiffbopaa.Af Go.Proofs.Ytloonniiffbopaa.Cr
set_option linter.unusedVariables false
set_option linter.unusedSimpArgs false
set_option maxRecDepth 20000

theorem walk {h : Hp} (x0 : (List Int)) (u0 : Value) (x1 : (Int × Int × Int × Int × (List (Int × Int)))) (cs1 : List Value) (x2 : (List (List Int))) (u2 : Value) (A0 : (AKd.slice (AKd.int .u8)).A h x0 [u0]) (w0 : x0.length * Try.prog.bytesOf 5 ≤ 140737488351232 ∧ ∀ x ∈ x0, (Lit.int .u8 x).wf = true) (A1 : (AKd.pair (AKd.int .i64) (AKd.pair (AKd.int .i64) (AKd.pair (AKd.int .i64) (AKd.pair (AKd.int .i64) (AKd.slice (AKd.pair (AKd.int .i64) (AKd.int .i64))))))).A h x1 cs1) (w1 : ((Lit.int .i64 x1.1).wf = true) ∧ ((Lit.int .i64 x1.2.1).wf = true) ∧ ((Lit.int .i64 x1.2.2.1).wf = true) ∧ ((Lit.int .i64 x1.2.2.2.1).wf = true) ∧ (x1.2.2.2.2.length * Try.prog.bytesOf 66 ≤ 140737488351232 ∧ ∀ x ∈ x1.2.2.2.2, ((Lit.int .i64 x.1).wf = true) ∧ ((Lit.int .i64 x.2).wf = true))) (A2 : (AKd.slice (AKd.slice (AKd.int .u8))).A h x2 [u2]) (w2 : x2.length * Try.prog.bytesOf 22 ≤ 140737488351232 ∧ ∀ x ∈ x2, x.length * Try.prog.bytesOf 5 ≤ 140737488351232 ∧ ∀ y ∈ x, (Lit.int .u8 y).wf = true) : ACalls Try.prog 5 [u0, .agg cs1.toArray, u2] h fun v h' => v = .bool true := by
  obtain ⟨oa, c, hV, rl⟩ := lock_open A1
  rw [hV]
  have hb : Bytes x0 := fun x hx => (Lit.wf_int_iff .u8 x).1 (w0.2 x hx)
  obtain ⟨da, dc, rfl, rd, hdc⟩ := AKd.intsC A0
  obtain ⟨ka, kc, rfl, K⟩ := keys_open A2 (fun k hk x hx => (Lit.wf_int_iff .u8 x).1 ((w2.2 k hk).2 x hx))
  clear A0 A1 A2 w0 w1 w2 hV
  generalize lockOf x1 = l at rl
  refine dioramalaw21_CryptProtects_ok.snd hm rfl fun w => ?_
  rw [WF_eq, dioramalaw21_CryptProtects, lockV]
  by_cases g1 : 70000 < x0.length
  · have e1 : ((70000 : Int) < (x0.length : Int)) = True := eq_true (by omega)
    simp +contextual only [↓AM, ↓AV, AP, e1]
  have e1 : ((70000 : Int) < (x0.length : Int)) = False := eq_false (by omega)
  by_cases g2 : 100 < l.parts.length
  · have e2 : ((100 : Int) < (l.parts.length : Int)) = True := eq_true (by omega)
    simp +contextual only [↓AM, ↓AV, AP, e1, e2]
  have e2 : ((100 : Int) < (l.parts.length : Int)) = False := eq_false (by omega)
  by_cases g3 : 20 < x2.length
  · have e3 : ((20 : Int) < (x2.length : Int)) = True := eq_true (by omega)
    simp +contextual only [↓AM, ↓AV, AP, e1, e2, e3]
  have e3 : ((20 : Int) < (x2.length : Int)) = False := eq_false (by omega)
  simp +contextual only [↓AM, ↓AV, AP, e1, e2, e3, rdN_n5]
  have fm0 : Fm No h (h.new ⟨[.int .i64 l.key, .int .i64 l.nonce, .int .i64 l.crypt, .int .i64 l.skip, .slice oa l.parts.length c], .own⟩) := Fm.new Fm.refl
  have hg0 : (h.new ⟨[.int .i64 l.key, .int .i64 l.nonce, .int .i64 l.crypt, .int .i64 l.skip, .slice oa l.parts.length c], .own⟩).get h.size = some _ := gnew
  have r0 := rd.keep w fm0 (fun _ _ => id)
  have rl0 := rl.keep w fm0 (fun _ _ => id)
  have K0 := K.keep w fm0
  have w0 : Wf (h.new ⟨[.int .i64 l.key, .int .i64 l.nonce, .int .i64 l.crypt, .int .i64 l.skip, .slice oa l.parts.length c], .own⟩) := w.new
  generalize h.new ⟨[.int .i64 l.key, .int .i64 l.nonce, .int .i64 l.crypt, .int .i64 l.skip, .slice oa l.parts.length c], .own⟩ = h0 at *
  refine (c_Protect r0 hdc (by omega) rl0 (by omega) K0 (by omega)).use ?_
  rintro _ h1 w1 ⟨a1, c1, rfl, o1, -, fm1⟩
  have hg1 := fm1.keep w0 hg0 id
  have r1 := r0.keep w0 fm1 (fun _ _ => id)
  have rl1 := rl0.keep w0 fm1 (fun _ _ => id)
  have K1 := K0.keep w0 fm1
  have hr1 : h1.rdN h.size 0 5 = some [.int .i64 l.key, .int .i64 l.nonce, .int .i64 l.crypt, .int .i64 l.skip, .slice oa l.parts.length c] := by rw [rdN_mk hg1 (by simp)]; rfl
  simp +contextual only [↓AM, ↓AV, AP, hr1]
  refine (c_rProtect r1 (by omega) rl1 (by omega) K1 (by omega)).use ?_
  rintro _ h2 w2 ⟨a2, c2, rfl, o2, -, fm2⟩
  have hg2 := fm2.keep w1 hg1 id
  have r2 := r1.keep w1 fm2 (fun _ _ => id)
  have rl2 := rl1.keep w1 fm2 (fun _ _ => id)
  have K2 := K1.keep w1 fm2
  have o1 := o1.keep w1 fm2 (fun _ _ => id)
  have hlen : (protR x0 l x2).length ≤ x0.length := by
    unfold protR
    split
    · simp; omega
    · simp
  simp +contextual only [↓AM, ↓AV, AP, eqI_self]
  refine (c_EqBytes o1.rd o2.rd (by omega)).use ?_
  rintro _ h2 w2 ⟨rfl, rfl⟩
  by_cases hE : protE l x2 x0.length = 0
  case neg =>
    have e4 : EqI (protE l x2 x0.length) 0 = False := eq_false hE
    simp +contextual only [↓AM, ↓AV, AP, e4]
    refine c_awake.use ?_
    rintro _ h5 w5 ⟨rfl, rfl⟩
    simp +contextual only [↓AM, ↓AV, AP]
  have e4 : EqI (protE l x2 x0.length) 0 = True := eq_true hE
  obtain ⟨hchk, hn, hs, hkn⟩ := protE_0 hE
  have hml : x0.length = (marksL l x0.length).length := by rw [marksL, mparts_len, hs]
  have hP : protR x0 l x2 = List.zipWith (xfun (keyL l x2) l.nonce) x0 (marksL l x0.length) := by rw [protR, if_pos hE]
  have hPl : (protR x0 l x2).length = x0.length := by rw [hP, List.length_zipWith]; omega
  have hPP : protR (protR x0 l x2) l x2 = x0 := by
    rw [protR, hPl, if_pos hE, hP]
    exact zip_back hml hb
  have hE2 : protE l x2 (protR x0 l x2).length = 0 := by rw [hPl]; exact hE
  have hr2 : h2.rdN h.size 0 5 = some [.int .i64 l.key, .int .i64 l.nonce, .int .i64 l.crypt, .int .i64 l.skip, .slice oa l.parts.length c] := by rw [rdN_mk hg2 (by simp)]; rfl
  simp +contextual only [↓AM, ↓AV, AP, e4, hr2]
  refine (c_Protect o1.rd o1.le (by omega) rl2 (by omega) K2 (by omega)).use ?_
  rintro _ h3 w3 ⟨a3, c3, rfl, o3, -, fm3⟩
  have hg3 := fm3.keep w2 hg2 id
  have r3 := r2.keep w2 fm3 (fun _ _ => id)
  have rl3 := rl2.keep w2 fm3 (fun _ _ => id)
  have o1 := o1.keep w2 fm3 (fun _ _ => id)
  rw [hPP] at o3
  have e5 : EqI (protE l x2 (protR x0 l x2).length) 0 = True := eq_true hE2
  simp +contextual only [↓AM, ↓AV, AP, e5, hPP]
  refine (c_EqBytes o3.rd r3 (by omega)).use ?_
  rintro _ h3 w3 ⟨rfl, rfl⟩
  have hr3 : h3.rdN h.size 0 5 = some [.int .i64 l.key, .int .i64 l.nonce, .int .i64 l.crypt, .int .i64 l.skip, .slice oa l.parts.length c] := by rw [rdN_mk hg3 (by simp)]; rfl
  simp +contextual only [↓AM, ↓AV, AP, hr3]
  refine (c_Secret (n := (x0.length : Int)) rl3 (by omega)).use ?_
  rintro _ h4 w4 ⟨a4, c4, rfl, r4, -, fm4⟩
  have rd4 := r3.keep w3 fm4 (fun _ _ => id)
  have o1 := o1.keep w3 fm4 (fun _ _ => id)
  have hsec : secE l (x0.length : Int) = 0 := by
    rw [secE, if_neg (by simp [hchk]), if_neg (by omega), if_neg (by simpa using hs)]
  have e6 : EqI (secE l (x0.length : Int)) 0 = True := eq_true hsec
  have free := fun k i => sec_free (l := l) (n := x0.length) hsec (k := k) (i := i)
  have hsl := secR_len l (x0.length : Int)
  have ro := o1.rd
  rw [hP] at ro
  rw [← hP, hPl] at ro
  rw [hPl]
  simp +contextual only [↓AM, ↓AV, AP, e6]
  generalize secR l (x0.length : Int) = R at *
  have hout : ∀ (i : Nat) (x : Int), (marksL l x0.length)[i]? = some x → x < 0 → (protR x0 l x2)[i]? = x0[i]? := fun i x hx hx0 => by
    have hi : i < (marksL l x0.length).length := (List.getElem?_eq_some_iff.1 hx).1
    rw [hP, zip_at hml hx, xfun, if_pos hx0, List.getD_eq_getElem?_getD, List.getElem?_eq_getElem (by omega)]
    rfl
  refine WL.mk (fun m t' h' => h' = h4 ∧ ∃ i k : Nat, i ≤ x0.length ∧ m = x0.length - i ∧ k ≤ R.length ∧ (∀ j r, j < k → R[j]? = some r → r.2 ≤ i) ∧
      t' = [(0, some (.slice da x0.length dc)), (7, some (.slice a1 x0.length c1)), (13, some (.slice a4 R.length c4)), (15, some (.int .i64 k)), (16, some (.int .i64 i))])
    ⟨_, rfl, 0, 0, by omega, rfl, by omega, fun j r hj => by omega, rfl⟩ ?_
  rintro m t0 h' ⟨rfl, i, k, hi, rfl, hk, hbef, rfl⟩
  by_cases hin : i < x0.length
  case neg =>
    simp +contextual only [↓AM, ↓AV, AP, hin]
    refine c_awake.use ?_
    rintro _ h5 w5 ⟨rfl, rfl⟩
    simp +contextual only [↓AM, ↓AV, AP]
  simp +contextual only [↓AM, ↓AV, AP, hin]
  refine WL.mk (fun m t' h'' => h'' = h' ∧ ∃ k : Nat, k ≤ R.length ∧ m = R.length - k ∧ (∀ j r, j < k → R[j]? = some r → r.2 ≤ i) ∧
      t' = [(0, some (.slice da x0.length dc)), (7, some (.slice a1 x0.length c1)), (13, some (.slice a4 R.length c4)), (15, some (.int .i64 k)), (16, some (.int .i64 i))])
    ⟨_, rfl, k, hk, rfl, hbef, rfl⟩ ?_
  clear hk hbef k
  rintro m t0 h'' ⟨rfl, k, hk, rfl, hbef, rfl⟩
  obtain ⟨b1, f1, s1, rfl, ff1, u, hu, ru⟩ := ro.int hin
  obtain ⟨b2, f2, s2, rfl, ff2, v, hv, rv⟩ := rd4.int hin
  have same : ∀ x : Int, (marksL l x0.length)[i]? = some x → x < 0 → u = v := fun x hx hx0 => by
    have := hout i x hx hx0
    rw [hu, hv] at this
    exact Option.some.inj this
  obtain ⟨mi, hmi⟩ : ∃ mi, (marksL l x0.length)[i]? = some mi := ⟨_, List.getElem?_eq_getElem (by omega)⟩
  by_cases hkn : k < R.length
  case neg =>
    have hkn' : R.length ≤ k := by omega
    have huv := same mi hmi (free k i hbef (fun r hr => by rw [List.getElem?_eq_none hkn'] at hr; cases hr) hmi)
    subst huv
    simp +contextual (disch := omega) only [↓AM, ↓AV, AP, CQ, hkn, hkn', ff1, ff2, ru, rv, hin, eqI_self, i64, ldOk]
    exact ⟨_, by omega, i + 1, k, hin, rfl, hk, fun j r hj hr => Nat.le_succ_of_le (hbef j r hj hr), rfl⟩
  obtain ⟨b3, f3, s3, p, rfl, ff3, hp, -, rp⟩ := r4.elem natC_len rfl hkn
  have rp0 : h''.rd b3 (f3 + k * 2) = some (.int .i64 p.1) := rp 0 _ rfl
  have rp1 : h''.rd b3 (f3 + k * 2 + 1) = some (.int .i64 p.2) := rp 1 _ rfl
  have hkn' : ¬ R.length ≤ k := by omega
  have z0 : ((0 : Int) ≤ 0) = True := by simp
  by_cases hle : p.2 ≤ i
  · simp +contextual (disch := omega) only [↓AM, ↓AV, AP, CQ, hkn, ff3, rp1, hle, i64]
    refine ⟨_, by omega, k + 1, hkn, rfl, fun j r hj hr => ?_, rfl⟩
    rcases Nat.lt_or_ge j k with h | h
    · exact hbef j r h hr
    · have : j = k := by omega
      subst this
      rw [hp] at hr
      cases hr
      exact hle
  · by_cases hlt : i < p.1
    · have huv := same mi hmi (free k i hbef (fun r hr => by rw [hp] at hr; cases hr; exact hlt) hmi)
      subst huv
      simp +contextual (disch := omega) only [↓AM, ↓AV, AP, CQ, hkn, hkn', ff3, rp0, rp1, z0, hle, hlt, ff1, ff2, ru, rv, hin, eqI_self, i64, ldOk]
      exact ⟨_, by omega, i + 1, k, hin, rfl, hk, fun j r hj hr => Nat.le_succ_of_le (hbef j r hj hr), rfl⟩
    · simp +contextual (disch := omega) only [↓AM, ↓AV, AP, CQ, hkn, hkn', ff3, rp0, rp1, z0, hle, hlt, i64, ldOk]
      exact ⟨_, by omega, i + 1, k, hin, rfl, hk, fun j r hj hr => Nat.le_succ_of_le (hbef j r hj hr), rfl⟩
end Go.Proofs.Ytloonniiffbopaa.LCryptProtects
