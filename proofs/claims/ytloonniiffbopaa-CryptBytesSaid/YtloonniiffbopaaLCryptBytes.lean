/- The law CryptBytes: the bytes of any lock, and the lock of any bytes. The walk over the abstract machine.
   Conditions: none. -/
import Derived.Test.YtloonniiffbopaaCrW
import Derived.Test.YtloonniiffbopaaCrJ
import Derived.Test.YtloonniiffbopaaAmZb
import Derived.DataShut
namespace Go.Proofs.Ytloonniiffbopaa.LCryptBytes
open Go Go.RowKit Go.Proofs.Ytloonniiffbopaa.Am Go.Proofs.Ytloonniiffbopaa.Af Go.Proofs.Ytloonniiffbopaa.Cr
set_option linter.unusedVariables false
set_option linter.unusedSimpArgs false
set_option maxRecDepth 20000

theorem flat_at {α β : Type} {f : α → List β} {z : Nat} (hf : ∀ x, (f x).length = z) : ∀ {xs : List α} {i : Nat} {x : α}, xs[i]? = some x → ∀ r, ∃ r', (xs.flatMap f ++ r).drop (z * i) = f x ++ r'
  | [], i, x, h, r => by simp at h
  | y :: xs, 0, x, h, r => by
    have : y = x := by simpa using h
    subst this
    exact ⟨xs.flatMap f ++ r, by simp⟩
  | y :: xs, i + 1, x, h, r => by
    obtain ⟨r', hr⟩ := flat_at hf (xs := xs) (i := i) (x := x) (by simpa using h) r
    refine ⟨r', ?_⟩
    rw [List.flatMap_cons, List.append_assoc, Nat.mul_add, Nat.mul_one, Nat.add_comm, List.drop_append, hf, List.drop_eq_nil_of_le (by rw [hf]; omega), List.nil_append, show z + z * i - z = z * i by omega]
    exact hr
theorem sub_app {a b : List Int} {k n : Nat} (h : a.length = k) : sub (a ++ b) k n = b.take n := by
  rw [sub, List.drop_left' h]
theorem back {l : Lk} (h : chkI l = 0) (b : List Int) : frE (lockB l ++ b) = 0 ∧ frN (lockB l ++ b) = (lockB l).length ∧ frL (lockB l ++ b) = l := by
  obtain ⟨k1, k2, k3, k4, k5, k6⟩ := chk_all h
  have hN := bytesN_len 8 l.nonce
  have hNv : val (bytesN 8 l.nonce) = l.nonce := by
    rw [bytesN_val]
    have e : (256 : Int) ^ 8 = 18446744073709551616 := by decide
    rw [e]; omega
  have hbs : lockB l ++ b = l.key :: (bytesN 8 l.nonce ++ (l.crypt :: l.skip :: (l.parts.length : Int) :: (l.parts.flatMap partB ++ b))) := by simp [lockB]
  have hh : headL l ++ (l.parts.flatMap partB ++ b) = lockB l ++ b := by simp [lockB, headL]
  have hlen : (lockB l ++ b).length = 12 + 8 * l.parts.length + b.length := by rw [List.length_append, lockB_len]
  have g0 : (lockB l ++ b).getD 0 0 = l.key := by rw [hbs]; rfl
  have hg : ∀ j, (lockB l ++ b)[1 + 8 + j]? = (l.crypt :: l.skip :: (l.parts.length : Int) :: (l.parts.flatMap partB ++ b))[j]? := fun j => by
    rw [hbs, show 1 + 8 + j = (8 + j) + 1 by omega, List.getElem?_cons_succ, List.getElem?_append_right (by omega), hN, show 8 + j - 8 = j by omega]
  have g9 : (lockB l ++ b).getD 9 0 = l.crypt := by rw [List.getD_eq_getElem?_getD, hg 0]; rfl
  have g10 : (lockB l ++ b).getD 10 0 = l.skip := by rw [List.getD_eq_getElem?_getD, hg 1]; rfl
  have g11 : (lockB l ++ b).getD 11 0 = (l.parts.length : Int) := by rw [List.getD_eq_getElem?_getD, hg 2]; rfl
  have hnb : nB (lockB l ++ b) = l.parts.length := by rw [nB, g11]; rfl
  have s1 : sub (lockB l ++ b) 1 8 = bytesN 8 l.nonce := by
    rw [hbs, sub, List.drop_succ_cons, List.drop_zero, List.take_left' hN]
  have hp : ∀ i p, l.parts[i]? = some p → val (sub (lockB l ++ b) (12 + 8 * i) 4) = p.1 ∧ val (sub (lockB l ++ b) (16 + 8 * i) 4) = p.2 := fun i p hi => by
    obtain ⟨r', hr⟩ := flat_at partB_len hi b
    obtain ⟨⟨p1, p2⟩, p3, p4⟩ := k6 p (List.mem_of_getElem? hi)
    have e4 : (256 : Int) ^ 4 = 4294967296 := by decide
    have d12 : (lockB l ++ b).drop (12 + 8 * i) = partB p ++ r' := by
      rw [← hh, ← List.drop_drop, List.drop_left' (headL_len l)]; exact hr
    have d16 : (lockB l ++ b).drop (16 + 8 * i) = bytesN 4 p.2 ++ r' := by
      rw [show 16 + 8 * i = (12 + 8 * i) + 4 by omega, ← List.drop_drop, d12, partB, List.append_assoc, List.drop_left' (bytesN_len 4 p.1)]
    constructor
    · rw [sub, d12, partB, List.append_assoc, List.take_left' (bytesN_len 4 p.1), bytesN_val, e4]; omega
    · rw [sub, d16, List.take_left' (bytesN_len 4 p.2), bytesN_val, e4]; omega
  have hpts : pts (lockB l ++ b) l.parts.length = l.parts := by
    apply List.ext_getElem?
    intro i
    by_cases hi : i < l.parts.length
    · have hx : l.parts[i]? = some l.parts[i] := List.getElem?_eq_getElem hi
      obtain ⟨q1, q2⟩ := hp i _ hx
      rw [hx, pts, List.getElem?_map, List.getElem?_range hi]
      simp [q1, q2]
    · rw [List.getElem?_eq_none (by rw [pts_len]; omega), List.getElem?_eq_none (by omega)]
  have hL : lkB (lockB l ++ b) = l := by
    rw [lkB, g0, g9, g10, s1, hNv, hnb, hpts]
  have hE : frE (lockB l ++ b) = 0 := by
    rw [frE, if_neg (by omega), g0, if_neg (by omega), if_neg (by omega), if_neg (by omega), hnb, if_neg (by omega), if_neg (by omega), s1, hNv, if_neg (by rw [bigN, decide_eq_true_eq]; omega), hL, if_neg (by simp [h])]
  refine ⟨hE, ?_, ?_⟩
  · rw [frN, if_pos hE, g0, if_neg (by omega), hnb, lockB_len]
  · rw [frL, if_pos ⟨hE, by rw [g0]; omega⟩, hL]
theorem lockB_bytes {l : Lk} (h : chkI l = 0) : Bytes (lockB l) := by
  obtain ⟨k1, k2, k3, k4, k5, k6⟩ := chk_all h
  intro x hx
  simp only [lockB, List.mem_append, List.mem_cons, List.not_mem_nil, or_false, List.mem_flatMap] at hx
  rcases hx with ((rfl | hx) | rfl | rfl | rfl) | ⟨p, hp, hx⟩
  · omega
  · exact bytesN_ok _ _ x hx
  · omega
  · omega
  · omega
  · rcases List.mem_append.1 hx with hx | hx
    · exact bytesN_ok _ _ x hx
    · exact bytesN_ok _ _ x hx
theorem frL_parts (bs : List Int) : (frL bs).parts.length ≤ 40 := by
  unfold frL
  split
  · rename_i h
    have : chkI (lkB bs) = 0 := by
      obtain ⟨he, h0⟩ := h
      unfold frE at he
      repeat (first | (split at he; first | omega | skip))
      all_goals first
        | contradiction
        | (rename_i hc; simpa using hc)
        | omega
    exact (chk_all this).2.2.2.2.1
  · simp [zeroL]
theorem walk {h : Hp} (x0 : (Int × Int × Int × Int × (List (Int × Int)))) (cs0 : List Value) (x1 : (List Int)) (u1 : Value) (A0 : (AKd.pair (AKd.int .i64) (AKd.pair (AKd.int .i64) (AKd.pair (AKd.int .i64) (AKd.pair (AKd.int .i64) (AKd.slice (AKd.pair (AKd.int .i64) (AKd.int .i64))))))).A h x0 cs0) (w0 : ((Lit.int .i64 x0.1).wf = true) ∧ ((Lit.int .i64 x0.2.1).wf = true) ∧ ((Lit.int .i64 x0.2.2.1).wf = true) ∧ ((Lit.int .i64 x0.2.2.2.1).wf = true) ∧ (x0.2.2.2.2.length * Try.prog.bytesOf 66 ≤ 140737488351232 ∧ ∀ x ∈ x0.2.2.2.2, ((Lit.int .i64 x.1).wf = true) ∧ ((Lit.int .i64 x.2).wf = true))) (A1 : (AKd.slice (AKd.int .u8)).A h x1 [u1]) (w1 : x1.length * Try.prog.bytesOf 5 ≤ 140737488351232 ∧ ∀ x ∈ x1, (Lit.int .u8 x).wf = true) : ACalls Try.prog 7 [.agg cs0.toArray, u1] h fun v h' => v = .bool true := by
  obtain ⟨oa, c, hV, rl⟩ := lock_open A0
  rw [hV]
  have hb : Bytes x1 := fun x hx => (Lit.wf_int_iff .u8 x).1 (w1.2 x hx)
  obtain ⟨da, dc, rfl, rd, hdc⟩ := AKd.intsC A1
  clear A0 A1 w0 w1 hV
  generalize lockOf x0 = l at rl
  refine dioramalaw21_CryptBytes_ok.snd hm rfl fun w => ?_
  rw [WF_eq, dioramalaw21_CryptBytes, lockV]
  by_cases g1 : 100 < l.parts.length
  · have e1 : ((100 : Int) < (l.parts.length : Int)) = True := eq_true (by omega)
    simp +contextual only [↓AM, ↓AV, AP, e1]
  have e1 : ((100 : Int) < (l.parts.length : Int)) = False := eq_false (by omega)
  by_cases g2 : 1000 < x1.length
  · have e2 : ((1000 : Int) < (x1.length : Int)) = True := eq_true (by omega)
    simp +contextual only [↓AM, ↓AV, AP, e1, e2]
  have e2 : ((1000 : Int) < (x1.length : Int)) = False := eq_false (by omega)
  simp +contextual only [↓AM, ↓AV, AP, e1, e2, rdN_n5]
  have fm0 : Fm No h (h.new ⟨[.int .i64 l.key, .int .i64 l.nonce, .int .i64 l.crypt, .int .i64 l.skip, .slice oa l.parts.length c], .own⟩) := Fm.new Fm.refl
  have hg0 : (h.new ⟨[.int .i64 l.key, .int .i64 l.nonce, .int .i64 l.crypt, .int .i64 l.skip, .slice oa l.parts.length c], .own⟩).get h.size = some _ := gnew
  have rd0 := rd.keep w fm0 (fun _ _ => id)
  have rl0 := rl.keep w fm0 (fun _ _ => id)
  have w0 : Wf (h.new ⟨[.int .i64 l.key, .int .i64 l.nonce, .int .i64 l.crypt, .int .i64 l.skip, .slice oa l.parts.length c], .own⟩) := w.new
  generalize h.new ⟨[.int .i64 l.key, .int .i64 l.nonce, .int .i64 l.crypt, .int .i64 l.skip, .slice oa l.parts.length c], .own⟩ = h0 at *
  refine (c_LockBytes rl0 (by omega)).use ?_
  rintro _ h1 w1 ⟨a1, c1, rfl, o1, -, fm1⟩
  have hg1 := fm1.keep w0 hg0 id
  have rd1 := rd0.keep w0 fm1 (fun _ _ => id)
  have rl1 := rl0.keep w0 fm1 (fun _ _ => id)
  have hr1 : h1.rdN h.size 0 5 = some [.int .i64 l.key, .int .i64 l.nonce, .int .i64 l.crypt, .int .i64 l.skip, .slice oa l.parts.length c] := by rw [rdN_mk hg1 (by simp)]; rfl
  simp +contextual only [↓AM, ↓AV, AP, hr1]
  refine (c_rLockBytes rl1 (by omega)).use ?_
  rintro _ h2 w2 ⟨a2, c2, rfl, o2, -, fm2⟩
  have hg2 := fm2.keep w1 hg1 id
  have rd2 := rd1.keep w1 fm2 (fun _ _ => id)
  have rl2 := rl1.keep w1 fm2 (fun _ _ => id)
  have o1 := o1.keep w1 fm2 (fun _ _ => id)
  have hlb : (lbR l).length ≤ 1000 := by
    unfold lbR
    split
    · rename_i hc; have := (chk_all hc).2.2.2.2.1; rw [lockB_len]; omega
    · simp
  simp +contextual only [↓AM, ↓AV, AP, eqI_self]
  refine (c_EqBytes o1.rd o2.rd (by omega)).use ?_
  rintro _ h2 w2 ⟨rfl, rfl⟩
  simp +contextual only [↓AM, ↓AV, AP]
  refine WC.mk (fun t' h' => Wf h' ∧ Rd h' 1 da x1.length (x1.map (Value.int .u8)) ∧ t' = [(1, some (.slice da x1.length dc))]) ?_ ?_
  case refine_2 =>
    rintro t0 h3 ⟨w3, rd3, rfl⟩
    simp +contextual only [↓AM, ↓AV, AP]
    refine (c_FromBytes rd3 hb hdc (by omega)).use ?_
    rintro _ h4 w4 ⟨a4, c4, rfl, r4, -, fm4⟩
    have rd4 := rd3.keep w3 fm4 (fun _ _ => id)
    have z5 : ∀ a b c d e : Value, spl [Value.int .i64 0, .int .i64 0, .int .i64 0, .int .i64 0, .slice none 0 0] 0 [a, b, c, d, e] = [a, b, c, d, e] := fun _ _ _ _ _ => rfl
    have hfp := frL_parts x1
    generalize hq : frL x1 = q at r4 hfp
    simp +contextual only [↓AM, ↓AV, AP, lockV, new_put, z5]
    have fm5 : Fm No h4 (h4.new ⟨[.int .i64 q.key, .int .i64 q.nonce, .int .i64 q.crypt, .int .i64 q.skip, .slice a4 q.parts.length c4], .own⟩) := Fm.new Fm.refl
    have g5 : (h4.new ⟨[.int .i64 q.key, .int .i64 q.nonce, .int .i64 q.crypt, .int .i64 q.skip, .slice a4 q.parts.length c4], .own⟩).get h4.size = some _ := gnew
    have r5 := r4.keep w4 fm5 (fun _ _ => id)
    have rd5 := rd4.keep w4 fm5 (fun _ _ => id)
    have w5 : Wf (h4.new ⟨[.int .i64 q.key, .int .i64 q.nonce, .int .i64 q.crypt, .int .i64 q.skip, .slice a4 q.parts.length c4], .own⟩) := w4.new
    generalize h4.new ⟨[.int .i64 q.key, .int .i64 q.nonce, .int .i64 q.crypt, .int .i64 q.skip, .slice a4 q.parts.length c4], .own⟩ = h5 at *
    refine (c_rFromBytes rd5 hb (by omega)).use ?_
    rintro _ h6 w6 ⟨a6, c6, rfl, r6, -, fm6⟩
    rw [hq] at r6
    rw [hq]
    have r5 := r5.keep w5 fm6 (fun _ _ => id)
    have g6 := fm6.keep w5 g5 id
    have e65 : h6.rdN h4.size 0 5 = some [.int .i64 q.key, .int .i64 q.nonce, .int .i64 q.crypt, .int .i64 q.skip, .slice a4 q.parts.length c4] := by rw [rdN_mk g6 (by simp)]; rfl
    have fm7 : ∀ o, Fm No h6 (h6.new o) := fun o => Fm.new Fm.refl
    have e75 : ∀ o, (h6.new o).rdN h4.size 0 5 = some [.int .i64 q.key, .int .i64 q.nonce, .int .i64 q.crypt, .int .i64 q.skip, .slice a4 q.parts.length c4] := fun o => by rw [rdN_mk ((fm7 o).keep w6 g6 id) (by simp)]; rfl
    simp +contextual only [↓AM, ↓AV, AP, lockV, new_put, z5, eqI_self, e75, rdN_n5]
    have r5 := fun o => r5.keep w6 (fm7 o) (fun _ _ => id)
    have r6 := fun o => r6.keep w6 (fm7 o) (fun _ _ => id)
    have eq := c_EqLock (c := c4) (d := c6) (r5 ⟨[.int .i64 q.key, .int .i64 q.nonce, .int .i64 q.crypt, .int .i64 q.skip, .slice a6 q.parts.length c6], .own⟩) (r6 ⟨[.int .i64 q.key, .int .i64 q.nonce, .int .i64 q.crypt, .int .i64 q.skip, .slice a6 q.parts.length c6], .own⟩) (by omega)
    refine eq.use ?_
    rintro _ h8 w8 ⟨rfl, fm8⟩
    simp +contextual only [↓AM, ↓AV, AP]
    refine c_awake.use ?_
    rintro _ h9 w9 ⟨rfl, rfl⟩
    simp +contextual only [↓AM, ↓AV, AP]
  by_cases he : chkI l = 0
  case neg =>
    have e3 : EqI (chkI l) 0 = False := eq_false he
    simp +contextual only [↓AM, ↓AV, AP, e3]
    exact ⟨w2, rd2⟩
  have e3 : EqI (chkI l) 0 = True := eq_true he
  have hR : lbR l = lockB l := by rw [lbR, if_pos he]
  obtain ⟨b1, b2, b3⟩ := back he x1
  rw [hR] at o1 hlb
  rw [hR]
  simp +contextual only [↓AM, ↓AV, AP, e3]
  refine (c_CopyBytes o1.rd (by omega)).use ?_
  rintro _ h3 w3 ⟨a3, c3, rfl, o3, n3, fm3⟩
  have hg3 := fm3.keep w2 hg2 id
  have rd3 := rd2.keep w2 fm3 (fun _ _ => id)
  have rl3 := rl2.keep w2 fm3 (fun _ _ => id)
  have hs := rd3.src (c := dc)
  simp +contextual only [↓AM, ↓AV, AP, hs]
  refine Ow.add (m := x1.length) w3 o3 (by simp) (by omega) fun a4 c4 h4 o4 w4 fm4 n4 => ?_
  obtain ⟨g4, nw4⟩ := grown fm3 n3 fm4 n4
  have hg4 := g4.keep w2 hg2 id
  have rd4 := rd2.keep w2 g4 (fun _ _ => id)
  have rl4 := rl2.keep w2 g4 (fun _ _ => id)
  have o4' : Rd h4 1 a4 ((lockB l).length + x1.length) ((lockB l ++ x1).map (Value.int .u8)) := by rw [List.map_append]; exact o4.rd
  simp +contextual only [↓AM, ↓AV, AP]
  refine (c_FromBytes o4' (fun x hx => (List.mem_append.1 hx).elim (lockB_bytes he x) (hb x)) o4.le (by omega)).use ?_
  rintro _ h5 w5 ⟨a5, c5, rfl, r5, -, fm5⟩
  have hg5 := fm5.keep w4 hg4 id
  have rd5 := rd4.keep w4 fm5 (fun _ _ => id)
  have rl5 := rl4.keep w4 fm5 (fun _ _ => id)
  rw [b3] at r5
  rw [b1, b2, b3]
  have z5 : ∀ a b c d e : Value, spl [Value.int .i64 0, .int .i64 0, .int .i64 0, .int .i64 0, .slice none 0 0] 0 [a, b, c, d, e] = [a, b, c, d, e] := fun _ _ _ _ _ => rfl
  have fm6 : ∀ o, Fm No h5 (h5.new o) := fun o => Fm.new Fm.refl
  have e65 : ∀ o, (h5.new o).rdN h.size 0 5 = some [.int .i64 l.key, .int .i64 l.nonce, .int .i64 l.crypt, .int .i64 l.skip, .slice oa l.parts.length c] := fun o => by rw [rdN_mk ((fm6 o).keep w5 hg5 id) (by simp)]; rfl
  have r6 := fun o => r5.keep w5 (fm6 o) (fun _ _ => id)
  have rl6 := fun o => rl5.keep w5 (fm6 o) (fun _ _ => id)
  have rd6 := fun o => rd5.keep w5 (fm6 o) (fun _ _ => id)
  have eq := c_EqLock (c := c5) (d := c) (r6 ⟨[.int .i64 l.key, .int .i64 l.nonce, .int .i64 l.crypt, .int .i64 l.skip, .slice a5 l.parts.length c5], .own⟩) (rl6 ⟨[.int .i64 l.key, .int .i64 l.nonce, .int .i64 l.crypt, .int .i64 l.skip, .slice a5 l.parts.length c5], .own⟩) (by omega)
  simp +contextual only [↓AM, ↓AV, AP, lockV, new_put, z5, eqI_self, rdN_n5, e65]
  refine eq.use ?_
  rintro _ h8 w8 ⟨rfl, fm8⟩
  have rd8 := (rd6 _).keep w5.new fm8 (fun _ _ => id)
  simp +contextual only [↓AM, ↓AV, AP]
  exact ⟨w8, rd8⟩
end Go.Proofs.Ytloonniiffbopaa.LCryptBytes
