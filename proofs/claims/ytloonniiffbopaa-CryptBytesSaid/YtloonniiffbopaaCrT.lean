/- Numbers as bytes, and the bytes of a lock. Plain theorems over the abstract machine.
   Conditions: none. -/
import Derived.Test.YtloonniiffbopaaCrK
namespace Go.Proofs.Ytloonniiffbopaa.Cr
open Go Go.RowKit Go.Proofs.Ytloonniiffbopaa.Am Go.Proofs.Ytloonniiffbopaa.Af
set_option linter.unusedVariables false
set_option linter.unusedSimpArgs false
set_option maxRecDepth 20000

theorem rep_u8 (n : Nat) : rep n [Value.int .u8 0] = List.replicate n (Value.int .u8 0) := by
  unfold rep
  induction n with
  | zero => rfl
  | succ n ih => rw [List.replicate_succ, List.flatten_cons, ih, List.replicate_succ]; rfl
theorem c_big {h : Hp} {v : Int} {n : Nat} (hv : 0 ≤ v ∧ v ≤ 18446744073709551615) (hn : n ≤ 8) :
    ACalls Try.prog 63 [.int .u64 v, .int .i64 n] h fun r h' => r = .slice (some ⟨h.size, 0, none⟩) n n ∧ h' = h.new ⟨(bytesN n v).map (Value.int .u8), .own⟩ := by
  refine bits_big_ok.snd hm rfl fun w => ?_
  rw [WF_eq, bits_big]
  have e0 : IntKind.i64.wrap ((n : Int) - 1) = (n : Int) - 1 := i64 (by omega)
  simp +contextual only [↓AM, ↓AV, AP, e0, rep_u8]
  refine ⟨by omega, ?_⟩
  refine WL.mk (fun k t h' => ∃ (u : Int) (S : List Int), k ≤ n ∧ 0 ≤ u ∧ u ≤ 18446744073709551615 ∧ bytesN n v = bytesN k u ++ S ∧ S.length = n - k ∧ h' = h.new ⟨(List.replicate n (Value.int .u8 0)).take k ++ S.map (Value.int .u8), .own⟩ ∧
      t = [(0, some (.int .u64 u)), (5, some (.slice (some ⟨h.size, 0, none⟩) n n)), (6, some (.int .i64 ((k : Int) - 1)))])
    ⟨n, v, [], Nat.le_refl _, hv.1, hv.2, by simp, by simp, by simp, rfl⟩ ?_
  rintro k t h1 ⟨u, S, hk, hu0, hu1, hS, hSl, rfl, rfl⟩
  cases k with
  | zero =>
    have e1 : ((0 : Int) ≤ ((0 : Nat) : Int) - 1) = False := by simp
    simp +contextual only [↓AM, ↓AV, AP, e1]
    rw [hS]
    simp [bytesN]
  | succ k =>
    have e1 : (((k + 1 : Nat) : Int) - 1) = (k : Int) := by omega
    have e2 : (0 ≤ (k : Int)) = True := by simp
    have e3 : k < n := by omega
    have e4 : u.fdiv (2 ^ min 8 IntKind.u64.bits) = u / 256 := by
      show u.fdiv 256 = _
      rw [Int.fdiv_eq_ediv_of_nonneg _ (by omega)]
    have e5 : leIs (k + 1) ((List.replicate n (Value.int .u8 0)).take (k + 1) ++ S.map (Value.int .u8)) = true := by
      rw [← leIs_p]; simp; omega
    have e6 : spl ((List.replicate n (Value.int .u8 0)).take (k + 1) ++ S.map (Value.int .u8)) k [.int .u8 (u % 256)] = (List.replicate n (Value.int .u8 0)).take k ++ ((u % 256) :: S).map (Value.int .u8) := by
      rw [spl_one _ _ _ (by simp; omega), set_mid _ _ _ _ (by simp; omega)]
      simp
    simp +contextual (disch := omega) only [↓AM, ↓AV, AP, e1, e2, e3, e4, e5, e6, u8_mod, i64, new_put]
    refine ⟨k, Nat.lt_succ_self _, u / 256, (u % 256) :: S, by omega, by omega, by omega, ?_, by simp; omega, rfl, rfl⟩
    rw [hS, bytesN_S]; simp
theorem c_Bytes {h : Hp} {v : Int} {n : Nat} (hv : 0 ≤ v ∧ v ≤ 9223372036854775807) (hn : n ≤ 8) :
    ACalls Try.prog 44 [.int .i64 v, .int .i64 n] h fun r h' => r = .slice (some ⟨h.size, 0, none⟩) n n ∧ h' = h.new ⟨(bytesN n v).map (Value.int .u8), .own⟩ := by
  refine dioramaref01_Bytes_ok.snd hm rfl fun w => ?_
  rw [WF_eq, dioramaref01_Bytes]
  have e0 : IntKind.i64.wrap ((n : Int) - 1) = (n : Int) - 1 := i64 (by omega)
  simp +contextual only [↓AM, ↓AV, AP, e0, rep_u8]
  refine ⟨by omega, ?_⟩
  refine WL.mk (fun k t h' => ∃ (u : Int) (S : List Int), k ≤ n ∧ 0 ≤ u ∧ u ≤ 9223372036854775807 ∧ bytesN n v = bytesN k u ++ S ∧ S.length = n - k ∧ h' = h.new ⟨(List.replicate n (Value.int .u8 0)).take k ++ S.map (Value.int .u8), .own⟩ ∧
      t = [(0, some (.int .i64 u)), (5, some (.slice (some ⟨h.size, 0, none⟩) n n)), (6, some (.int .i64 ((k : Int) - 1)))])
    ⟨n, v, [], Nat.le_refl _, hv.1, hv.2, by simp, by simp, by simp, rfl⟩ ?_
  rintro k t h1 ⟨u, S, hk, hu0, hu1, hS, hSl, rfl, rfl⟩
  cases k with
  | zero =>
    have e1 : ((0 : Int) ≤ ((0 : Nat) : Int) - 1) = False := by simp
    simp +contextual only [↓AM, ↓AV, AP, e1]
    rw [hS]
    simp [bytesN]
  | succ k =>
    have e1 : (((k + 1 : Nat) : Int) - 1) = (k : Int) := by omega
    have e2 : (0 ≤ (k : Int)) = True := by simp
    have e3 : k < n := by omega
    have e4 : IntKind.i64.wrap (u.tdiv 256) = u / 256 := IntWalk.i64_quo _ _ (by omega)
    have e4' : IntKind.u8.wrap (u.tmod 256) = u % 256 := by
      rw [Int.tmod_eq_emod_of_nonneg hu0, u8 (by omega)]
    have n256 : ((256 : Int) = 0) = False := by simp
    have e7 : EqI 256 0 = False := eq_false (by unfold EqI; omega)
    have e5 : leIs (k + 1) ((List.replicate n (Value.int .u8 0)).take (k + 1) ++ S.map (Value.int .u8)) = true := by
      rw [← leIs_p]; simp; omega
    have e6 : spl ((List.replicate n (Value.int .u8 0)).take (k + 1) ++ S.map (Value.int .u8)) k [.int .u8 (u % 256)] = (List.replicate n (Value.int .u8 0)).take k ++ ((u % 256) :: S).map (Value.int .u8) := by
      rw [spl_one _ _ _ (by simp; omega), set_mid _ _ _ _ (by simp; omega)]
      simp
    have e8 : IntKind.i64.wrap ((k : Int) - 1) = (k : Int) - 1 := i64 (by omega)
    simp +contextual only [↓AM, ↓AV, AP, e1, e2, e3, e4, e4', e5, e6, e7, e8, n256, new_put]
    refine ⟨k, Nat.lt_succ_self _, u / 256, (u % 256) :: S, by omega, by omega, by omega, ?_, by simp; omega, rfl, rfl⟩
    rw [hS, bytesN_S]; simp
theorem c_PutInt {h : Hp} {v : Int} {n : Nat} (hn : n = 4 ∨ n = 8) (hv : 0 ≤ v ∧ v ≤ 9223372036854775807) (h4 : n = 4 → v ≤ 4294967295) :
    ACalls Try.prog 60 [.int .i64 v, .int .i64 n] h fun r h' => r = .tuple #[.slice (some ⟨h.size, 0, none⟩) n n, .int .i64 0] ∧ h' = h.new ⟨(bytesN n v).map (Value.int .u8), .own⟩ := by
  refine bits_PutInt_ok.snd hm rfl fun w => ?_
  rw [WF_eq, bits_PutInt]
  have v0 : (v < 0) = False := eq_false (by omega)
  have vu : IntKind.u64.wrap v = v := u64 (by omega)
  rcases hn with rfl | rfl
  · have a1 : (((4 : Nat) : Int) < 1) = False := by simp
    have a2 : ((8 : Int) < ((4 : Nat) : Int)) = False := by simp
    have a3 : (((4 : Nat) : Int) < 8) = True := by simp
    have a4 : v.fdiv (2 ^ min (IntKind.i64.wrap (8 * ((4 : Nat) : Int))).toNat IntKind.i64.bits) = 0 := by
      show v.fdiv 4294967296 = 0
      rw [Int.fdiv_eq_ediv_of_nonneg _ (by omega)]
      have := h4 rfl
      omega
    have a5 : (0 ≤ IntKind.i64.wrap (8 * ((4 : Nat) : Int))) = True := by
      have : IntKind.i64.wrap (8 * ((4 : Nat) : Int)) = 32 := i64 (by omega)
      rw [this]; simp
    have a6 : ((0 : Int) < 0) = False := by simp
    simp +contextual only [↓AM, ↓AV, AP, a1, a2, a3, a4, a5, a6, v0, vu]
    refine (c_big (n := 4) (by omega) (by omega)).use ?_
    rintro _ h1 w1 ⟨rfl, rfl⟩
    simp +contextual only [↓AM, ↓AV, AP]
  · have a1 : (((8 : Nat) : Int) < 1) = False := by simp
    have a2 : ((8 : Int) < ((8 : Nat) : Int)) = False := by simp
    have a3 : (((8 : Nat) : Int) < 8) = False := by simp
    simp +contextual only [↓AM, ↓AV, AP, a1, a2, a3, v0, vu]
    refine (c_big (n := 8) (by omega) (by omega)).use ?_
    rintro _ h1 w1 ⟨rfl, rfl⟩
    simp +contextual only [↓AM, ↓AV, AP]
theorem c_number {h : Hp} {v : Int} {n ln cap : Nat} {oa : Option Addr} {xs : List Int} (ow : Ow h 1 oa ln cap (xs.map (Value.int .u8))) (hl : ln ≤ 1000000) (hn : n = 4 ∨ n = 8) (hv : 0 ≤ v ∧ v ≤ 9223372036854775807) (h4 : n = 4 → v ≤ 4294967295) :
    ACalls Try.prog 43 [.slice oa ln cap, .int .i64 v, .int .i64 n] h fun r h' => ∃ oa' cap', r = .slice oa' (ln + n) cap' ∧ Ow h' 1 oa' (ln + n) cap' ((xs ++ bytesN n v).map (Value.int .u8)) ∧ Fm (At oa) h h' ∧ ∀ x, At oa' x → At oa x ∨ h.size ≤ x := by
  refine crypt_number_ok.snd hm rfl fun w => ?_
  rw [WF_eq, crypt_number]
  simp +contextual only [↓AM, ↓AV, AP]
  refine (c_PutInt hn hv h4).use ?_
  rintro _ h1 w1 ⟨rfl, rfl⟩
  have lu : lenIs ((bytesN n v).map (Value.int .u8)) (n * 1) = true := by rw [← lenIs_p]; simp [bytesN_len]
  simp +contextual only [↓AM, ↓AV, AP, src_new lu]
  refine ow.push (m := n) w (by simp [bytesN_len]) (by omega) fun oa' cap' h4 o4 w4 f4 n4 => ?_
  simp +contextual only [↓AM, ↓AV, AP]
  exact ⟨oa', cap', rfl, by rw [List.map_append]; exact o4, f4, n4⟩
/-- The bytes of a lock. -/
def partB (p : Int × Int) : List Int := bytesN 4 p.1 ++ bytesN 4 p.2
def lockB (l : Lk) : List Int := [l.key] ++ bytesN 8 l.nonce ++ [l.crypt, l.skip, (l.parts.length : Int)] ++ l.parts.flatMap partB
def headL (l : Lk) : List Int := [l.key] ++ bytesN 8 l.nonce ++ [l.crypt, l.skip, (l.parts.length : Int)]
theorem headL_len (l : Lk) : (headL l).length = 12 := by simp [headL, bytesN_len]
theorem partB_len (p : Int × Int) : (partB p).length = 8 := by simp [partB, bytesN_len]
theorem partsB_len (ps : List (Int × Int)) : (ps.flatMap partB).length = 8 * ps.length := by
  induction ps with
  | nil => rfl
  | cons p ps ih => rw [List.flatMap_cons, List.length_append, partB_len, ih, List.length_cons]; omega
theorem lockB_len (l : Lk) : (lockB l).length = 12 + 8 * l.parts.length := by
  have := headL_len l
  unfold headL at this
  rw [lockB, List.length_append, this, partsB_len]
theorem chk_all {l : Lk} (h : chkI l = 0) : (1 ≤ l.key ∧ l.key ≤ 4) ∧ (0 ≤ l.nonce ∧ l.nonce ≤ 1099511627776) ∧ (0 ≤ l.crypt ∧ l.crypt ≤ 10) ∧ (0 ≤ l.skip ∧ l.skip ≤ 10) ∧ l.parts.length ≤ 40 ∧ ∀ p ∈ l.parts, (0 ≤ p.1 ∧ p.1 ≤ 65536) ∧ (0 ≤ p.2 ∧ p.2 ≤ 65536) := by
  have g := chk_gk h
  unfold chkI at h
  split at h
  · omega
  · rename_i h1
    split at h
    · omega
    · rename_i h2
      simp only [Bool.or_eq_true, _root_.not_or, Bool.not_eq_true] at h1
      obtain ⟨h3, h4⟩ := h1
      simp only [headB, Bool.or_eq_false_iff, Bool.not_eq_false', decide_eq_true_eq, patB, Bool.and_eq_true] at h3
      obtain ⟨⟨k1, k2⟩, ⟨k3, k4⟩, -⟩ := h3
      refine ⟨k1, k2, k3, k4, by omega, fun p hp => ?_⟩
      have := List.any_eq_false.1 h4 p hp
      simpa only [badP, Bool.not_eq_true, Bool.or_eq_false_iff, Bool.not_eq_false', decide_eq_true_eq] using this
def lbR (l : Lk) : List Int := if chkI l = 0 then lockB l else []
def LbPost (l : Lk) (h : Hp) (v : Value) (h' : Hp) : Prop :=
  ∃ a cap, v = .tuple #[.slice a (lbR l).length cap, .int .i64 (chkI l)] ∧ Ow h' 1 a (lbR l).length cap ((lbR l).map (Value.int .u8)) ∧ Nw h a ∧ Fm No h h'
theorem lockB_take {l : Lk} {i : Nat} (hi : i ≤ l.parts.length) : headL l ++ (l.parts.take l.parts.length).flatMap partB = lockB l := by rw [List.take_length]; rfl
theorem c_LockBytes {h : Hp} {l : Lk} {oa : Option Addr} {cc : Nat} (r : Rd h 2 oa l.parts.length (l.parts.flatMap partC)) (hl : l.parts.length ≤ 140737488351232) :
    ACalls Try.prog 21 [lockV l oa cc] h (LbPost l h) := by
  refine crypt_LockBytes_ok.snd hm rfl fun w => ?_
  rw [WF_eq, crypt_LockBytes, lockV]
  simp +contextual only [↓AM, ↓AV, AP, rdN_n5]
  have fm0 : Fm No h (h.new ⟨[.int .i64 l.key, .int .i64 l.nonce, .int .i64 l.crypt, .int .i64 l.skip, .slice oa l.parts.length cc], .own⟩) := Fm.new Fm.refl
  have hg0 : (h.new ⟨[.int .i64 l.key, .int .i64 l.nonce, .int .i64 l.crypt, .int .i64 l.skip, .slice oa l.parts.length cc], .own⟩).get h.size = some _ := gnew
  have r0 := r.keep w fm0 (fun _ _ => id)
  have w0 : Wf (h.new ⟨[.int .i64 l.key, .int .i64 l.nonce, .int .i64 l.crypt, .int .i64 l.skip, .slice oa l.parts.length cc], .own⟩) := w.new
  generalize h.new ⟨[.int .i64 l.key, .int .i64 l.nonce, .int .i64 l.crypt, .int .i64 l.skip, .slice oa l.parts.length cc], .own⟩ = h0 at *
  refine (c_Check r0 hl).use ?_
  rintro _ h1 w1 ⟨rfl, fm1⟩
  have fm01 := fm0.trans fm1 (fun _ _ x => x)
  have hg1 := fm1.keep w0 hg0 id
  have r1 := r0.keep w0 fm1 (fun _ _ => id)
  by_cases he : chkI l = 0
  case neg =>
    have e0 : EqI (chkI l) 0 = False := eq_false he
    simp +contextual only [↓AM, ↓AV, AP, e0]
    have : lbR l = [] := by rw [lbR, if_neg he]
    refine ⟨none, 0, ?_, ?_, Nw.none, fm01⟩
    · rw [this]; rfl
    · rw [this]; exact Ow.mk0
  have e0 : EqI (chkI l) 0 = True := eq_true he
  obtain ⟨k1, k2, k3, k4, k5, k6⟩ := chk_all he
  have u1 : IntKind.u8.wrap l.key = l.key := u8 (by omega)
  have u2 : IntKind.u8.wrap l.crypt = l.crypt := u8 (by omega)
  have u3 : IntKind.u8.wrap l.skip = l.skip := u8 (by omega)
  have u4 : IntKind.u8.wrap (l.parts.length : Int) = (l.parts.length : Int) := u8 (by omega)
  have hgn : ∀ o, (h1.new o).get h.size = _ := fun o => (get_new (w1.lt hg1)).trans hg1
  simp +contextual only [↓AM, ↓AV, AP, e0, rd_mk hg1, rd_mk (hgn _), u1]
  have ow0 := Ow.new (h := h1) (z := 1) (n := 1) (m := 1) (cs := ([l.key].map (Value.int .u8))) rfl (Nat.le_refl _)
  have fmn : Fm No h1 (h1.new ⟨[l.key].map (Value.int .u8), .own⟩) := Fm.new Fm.refl
  refine (c_number (n := 8) (xs := [l.key]) ow0 (by omega) (.inr rfl) (by omega) (fun e => by omega)).use ?_
  rintro _ h2 w2 ⟨a2, c2, rfl, ow2, fm2, n2⟩
  obtain ⟨g2, nw2⟩ := grown (h := h1) fmn (Nw.new Fm.refl) fm2 n2
  have hg2 := g2.keep w1 hg1 id
  have hg2n : ∀ o, (h2.new o).get h.size = _ := fun o => (get_new (w2.lt hg2)).trans hg2
  have src3 : ∀ (h : Hp) (a b c : Value) (md : Md), (h.new ⟨[a, b, c], md⟩).src 1 (.slice (some ⟨h.size, 0, none⟩) 3 3) = some [a, b, c] := fun _ _ _ _ _ => src_new rfl
  simp +contextual only [↓AM, ↓AV, AP, rd_mk hg2, rd_mk (hg2n _), u2, u3, u4, src3]
  refine ow2.push (m := 3) w2 rfl (by omega) fun a3 c3 h3 ow3 w3 f3 n3 => ?_
  obtain ⟨g3, nw3⟩ := grown g2 nw2 f3 n3
  have hg3 := g3.keep w1 hg1 id
  simp +contextual only [↓AM, ↓AV, AP, rd_mk hg3]
  have ow3' : Ow h3 1 a3 12 c3 ((headL l ++ (l.parts.take 0).flatMap partB).map (Value.int .u8)) := by
    have e : (headL l ++ (l.parts.take 0).flatMap partB).map (Value.int .u8) = ([l.key] ++ bytesN 8 l.nonce).map (Value.int .u8) ++ [.int .u8 l.crypt, .int .u8 l.skip, .int .u8 (l.parts.length : Int)] := by simp [headL]
    rw [e]; exact ow3
  refine WL.mk (fun m t' h' => Wf h' ∧ Fm No h1 h' ∧ ∃ i : Nat, i ≤ l.parts.length ∧ m = l.parts.length - i ∧ ∃ a c, Nw h1 a ∧ Ow h' 1 a (12 + 8 * i) c ((headL l ++ (l.parts.take i).flatMap partB).map (Value.int .u8)) ∧
      t' = [(5, some (.slice a (12 + 8 * i) c)), (34, some (.slice oa l.parts.length cc)), (35, some (.int .i64 l.parts.length)), (36, some (.int .i64 i))])
    ⟨_, w3, g3, 0, by omega, rfl, a3, c3, nw3, ow3', rfl⟩ ?_
  rintro m t0 h4 ⟨w4, fm4, i, hi, rfl, a4, c4, nw4, ow4, rfl⟩
  by_cases hin : i < l.parts.length
  case neg =>
    have hil : i = l.parts.length := by omega
    have e : headL l ++ (l.parts.take i).flatMap partB = lockB l := by rw [hil, List.take_length]; rfl
    rw [e] at ow4
    have hR : lbR l = lockB l := by rw [lbR, if_pos he]
    simp +contextual only [↓AM, ↓AV, AP, hin]
    refine ⟨a4, c4, ?_, ?_, fun x hx => Nat.le_trans fm01.size (nw4 x hx), fm01.trans fm4 fun _ _ x => x⟩
    · rw [hR, lockB_len, he, hil]
    · rw [hR, lockB_len, ← hil]; exact ow4
  obtain ⟨b1, o1, s1, p, rfl, f1, hp, r2, -⟩ := (r1.keep w1 fm4 (fun _ _ => id)).elem partC_len rfl hin
  obtain ⟨⟨p1, p2⟩, p3, p4⟩ := k6 p (List.mem_of_getElem? hp)
  simp only [partC] at r2
  have fm5 : Fm No h4 (h4.new ⟨[.int .i64 p.1, .int .i64 p.2], .own⟩) := Fm.new Fm.refl
  have hg5 : (h4.new ⟨[.int .i64 p.1, .int .i64 p.2], .own⟩).get h4.size = some ⟨[.int .i64 p.1, .int .i64 p.2], .own⟩ := gnew
  have ow5 := ow4.keep w4 fm5 (fun _ _ => id)
  simp +contextual only [↓AM, ↓AV, AP, hin, f1, r2, rnew, new_put]
  refine (c_number (n := 4) ow5 (by omega) (.inl rfl) (by omega) (fun _ => by omega)).use ?_
  rintro _ h6 w6 ⟨a6, c6, rfl, ow6, fm6, n6⟩
  have na4 : ¬ At a4 h4.size := fun hx => Nat.lt_irrefl _ (ow4.lt w4 _ hx)
  have hg6 := fm6.keep w4.new hg5 na4
  simp +contextual only [↓AM, ↓AV, AP, rd_mk hg6, ldOk]
  refine (c_number (n := 4) ow6 (by omega) (.inl rfl) (by omega) (fun _ => by omega)).use ?_
  rintro _ h7 w7 ⟨a7, c7, rfl, ow7, fm7, n7⟩
  obtain ⟨g6, nw6⟩ := grown (fm4.trans fm5 fun _ _ x => x) nw4 fm6 n6
  obtain ⟨g7, nw7⟩ := grown g6 nw6 fm7 n7
  have htk : (l.parts.take (i + 1)).flatMap partB = (l.parts.take i).flatMap partB ++ (bytesN 4 p.1 ++ bytesN 4 p.2) := by
    rw [List.take_add_one, hp]; simp [partB]
  simp +contextual (disch := omega) only [↓AM, ↓AV, AP, nadd1, i64]
  refine ⟨_, by omega, w7, g7, i + 1, hin, rfl, a7, c7, nw7, ?_, ?_⟩
  · rw [htk, show 12 + 8 * (i + 1) = 12 + 8 * i + 4 + 4 by omega]
    simpa [List.append_assoc] using ow7
  · rw [show 12 + 8 * (i + 1) = 12 + 8 * i + 4 + 4 by omega]
end Go.Proofs.Ytloonniiffbopaa.Cr
