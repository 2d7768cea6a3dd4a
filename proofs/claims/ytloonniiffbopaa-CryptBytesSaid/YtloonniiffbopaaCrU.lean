/- The bytes of a lock by the document's text; numbers read from bytes; locks compared. Plain theorems over the abstract machine.
   Conditions: none. -/
import Derived.Test.YtloonniiffbopaaCrT
import Derived.Test.YtloonniiffbopaaCrM
namespace Go.Proofs.Ytloonniiffbopaa.Cr
open Go Go.RowKit Go.Proofs.Ytloonniiffbopaa.Am Go.Proofs.Ytloonniiffbopaa.Af
set_option linter.unusedVariables false
set_option linter.unusedSimpArgs false
set_option maxRecDepth 20000

theorem c_rLockBytes {h : Hp} {l : Lk} {oa : Option Addr} {cc : Nat} (r : Rd h 2 oa l.parts.length (l.parts.flatMap partC)) (hl : l.parts.length ≤ 140737488351232) :
    ACalls Try.prog 22 [lockV l oa cc] h (LbPost l h) := by
  refine dioramaref21_LockBytes_ok.snd hm rfl fun w => ?_
  rw [WF_eq, dioramaref21_LockBytes, lockV]
  simp +contextual only [↓AM, ↓AV, AP, rdN_n5]
  have fm0 : Fm No h (h.new ⟨[.int .i64 l.key, .int .i64 l.nonce, .int .i64 l.crypt, .int .i64 l.skip, .slice oa l.parts.length cc], .own⟩) := Fm.new Fm.refl
  have hg0 : (h.new ⟨[.int .i64 l.key, .int .i64 l.nonce, .int .i64 l.crypt, .int .i64 l.skip, .slice oa l.parts.length cc], .own⟩).get h.size = some _ := gnew
  have r0 := r.keep w fm0 (fun _ _ => id)
  have w0 : Wf (h.new ⟨[.int .i64 l.key, .int .i64 l.nonce, .int .i64 l.crypt, .int .i64 l.skip, .slice oa l.parts.length cc], .own⟩) := w.new
  generalize h.new ⟨[.int .i64 l.key, .int .i64 l.nonce, .int .i64 l.crypt, .int .i64 l.skip, .slice oa l.parts.length cc], .own⟩ = h0 at *
  refine (c_rCheck r0 hl).use ?_
  rintro _ h1 w1 ⟨rfl, fm1⟩
  have fm01 := fm0.trans fm1 (fun _ _ x => x)
  have hg1 := fm1.keep w0 hg0 id
  have r1 := r0.keep w0 fm1 (fun _ _ => id)
  by_cases he : chkI l = 0
  case neg =>
    have e0 : EqI (chkI l) 0 = False := eq_false he
    simp +contextual only [↓AM, ↓AV, AP, e0]
    have : lbR l = [] := by rw [lbR, if_neg he]
    refine ⟨none, 0, ?_, ?_, Nw.none, fm01⟩
    · rw [this]; rfl
    · rw [this]; exact Ow.mk0
  have e0 : EqI (chkI l) 0 = True := eq_true he
  obtain ⟨k1, k2, k3, k4, k5, k6⟩ := chk_all he
  have u1 : IntKind.u8.wrap l.key = l.key := u8 (by omega)
  have u2 : IntKind.u8.wrap l.crypt = l.crypt := u8 (by omega)
  have u3 : IntKind.u8.wrap l.skip = l.skip := u8 (by omega)
  have u4 : IntKind.u8.wrap (l.parts.length : Int) = (l.parts.length : Int) := u8 (by omega)
  have hgn : ∀ o, (h1.new o).get h.size = _ := fun o => (get_new (w1.lt hg1)).trans hg1
  simp +contextual only [↓AM, ↓AV, AP, e0, rd_mk hg1, rd_mk (hgn _), u1]
  have ow0 := Ow.new (h := h1) (z := 1) (n := 1) (m := 1) (cs := ([l.key].map (Value.int .u8))) rfl (Nat.le_refl _)
  have fmn : Fm No h1 (h1.new ⟨[l.key].map (Value.int .u8), .own⟩) := Fm.new Fm.refl
  have wn : Wf (h1.new ⟨[l.key].map (Value.int .u8), .own⟩) := w1.new
  refine (c_Bytes (n := 8) (by omega) (by omega)).use ?_
  rintro _ h2' w2' ⟨rfl, rfl⟩
  have lu : ∀ v : Int, lenIs ((bytesN 8 v).map (Value.int .u8)) (8 * 1) = true := fun v => by rw [← lenIs_p]; simp [bytesN_len]
  have lu4 : ∀ v : Int, lenIs ((bytesN 4 v).map (Value.int .u8)) (4 * 1) = true := fun v => by rw [← lenIs_p]; simp [bytesN_len]
  simp +contextual only [↓AM, ↓AV, AP, src_new (lu _)]
  refine ow0.push (m := 8) wn (by simp [bytesN_len]) (by omega) fun a2 c2 h2 ow2 w2 fm2 n2 => ?_
  obtain ⟨g2, nw2⟩ := grown (h := h1) fmn (Nw.new Fm.refl) fm2 n2
  have hg2 := g2.keep w1 hg1 id
  have hg2n : ∀ o, (h2.new o).get h.size = _ := fun o => (get_new (w2.lt hg2)).trans hg2
  have src3 : ∀ (h : Hp) (a b c : Value) (md : Md), (h.new ⟨[a, b, c], md⟩).src 1 (.slice (some ⟨h.size, 0, none⟩) 3 3) = some [a, b, c] := fun _ _ _ _ _ => src_new rfl
  simp +contextual only [↓AM, ↓AV, AP, rd_mk hg2, rd_mk (hg2n _), u2, u3, u4, src3]
  refine ow2.push (m := 3) w2 rfl (by omega) fun a3 c3 h3 ow3 w3 f3 n3 => ?_
  obtain ⟨g3, nw3⟩ := grown g2 nw2 f3 n3
  have hg3 := g3.keep w1 hg1 id
  simp +contextual only [↓AM, ↓AV, AP, rd_mk hg3]
  have ow3' : Ow h3 1 a3 12 c3 ((headL l ++ (l.parts.take 0).flatMap partB).map (Value.int .u8)) := by
    have e : (headL l ++ (l.parts.take 0).flatMap partB).map (Value.int .u8) = [l.key].map (Value.int .u8) ++ (bytesN 8 l.nonce).map (Value.int .u8) ++ [.int .u8 l.crypt, .int .u8 l.skip, .int .u8 (l.parts.length : Int)] := by simp [headL]
    rw [e]; exact ow3
  refine WL.mk (fun m t' h' => Wf h' ∧ Fm No h1 h' ∧ ∃ i : Nat, i ≤ l.parts.length ∧ m = l.parts.length - i ∧ ∃ a c, Nw h1 a ∧ Ow h' 1 a (12 + 8 * i) c ((headL l ++ (l.parts.take i).flatMap partB).map (Value.int .u8)) ∧
      t' = [(1, some (.pointer (some ⟨h.size, 0, none⟩))), (5, some (.slice a (12 + 8 * i) c)), (6, some (.int .i64 i))])
    ⟨_, w3, g3, 0, by omega, rfl, a3, c3, nw3, ow3', rfl⟩ ?_
  rintro m t0 h4 ⟨w4, fm4, i, hi, rfl, a4, c4, nw4, ow4, rfl⟩
  have hg4 := fm4.keep w1 hg1 id
  by_cases hin : i < l.parts.length
  case neg =>
    have hil : i = l.parts.length := by omega
    have e : headL l ++ (l.parts.take i).flatMap partB = lockB l := by rw [hil, List.take_length]; rfl
    rw [e] at ow4
    have hR : lbR l = lockB l := by rw [lbR, if_pos he]
    simp +contextual only [↓AM, ↓AV, AP, hin, rd_mk hg4]
    refine ⟨a4, c4, ?_, ?_, fun x hx => Nat.le_trans fm01.size (nw4 x hx), fm01.trans fm4 fun _ _ x => x⟩
    · rw [hR, lockB_len, he, hil]
    · rw [hR, lockB_len, ← hil]; exact ow4
  obtain ⟨b1, o1, s1, p, rfl, f1, hp, -, rr⟩ := (r1.keep w1 fm4 (fun _ _ => id)).elem partC_len rfl hin
  obtain ⟨⟨p1, p2⟩, p3, p4⟩ := k6 p (List.mem_of_getElem? hp)
  have rr0 : h4.rd b1 (o1 + i * 2) = some (.int .i64 p.1) := rr 0 _ rfl
  simp +contextual only [↓AM, ↓AV, AP, hin, f1, rr0, rd_mk hg4]
  refine (c_Bytes (n := 4) (by omega) (by omega)).use ?_
  rintro _ h5' w5' ⟨rfl, rfl⟩
  simp +contextual only [↓AM, ↓AV, AP, src_new (lu4 _)]
  refine ow4.push (m := 4) w4 (by simp [bytesN_len]) (by omega) fun a6 c6 h6 ow6 w6 fm6 n6 => ?_
  obtain ⟨g6, nw6⟩ := grown fm4 nw4 fm6 n6
  have hg6 := g6.keep w1 hg1 id
  obtain ⟨b2, o2, s2, p', e, f2, hp', -, rr'⟩ := (r1.keep w1 g6 (fun _ _ => id)).elem partC_len rfl hin
  cases e
  rw [hp] at hp'
  cases hp'
  have rr1 : h6.rd b1 (o1 + i * 2 + 1) = some (.int .i64 p.2) := rr' 1 _ rfl
  simp +contextual only [↓AM, ↓AV, AP, hin, f1, rr1, rd_mk hg6]
  refine (c_Bytes (n := 4) (by omega) (by omega)).use ?_
  rintro _ h7' w7' ⟨rfl, rfl⟩
  simp +contextual only [↓AM, ↓AV, AP, src_new (lu4 _)]
  refine ow6.push (m := 4) w6 (by simp [bytesN_len]) (by omega) fun a7 c7 h7 ow7 w7 fm7 n7 => ?_
  obtain ⟨g7, nw7⟩ := grown g6 nw6 fm7 n7
  have htk : (l.parts.take (i + 1)).flatMap partB = (l.parts.take i).flatMap partB ++ (bytesN 4 p.1 ++ bytesN 4 p.2) := by
    rw [List.take_add_one, hp]; simp [partB]
  simp +contextual (disch := omega) only [↓AM, ↓AV, AP, nadd1, i64]
  refine ⟨_, by omega, w7, g7, i + 1, hin, rfl, a7, c7, nw7, ?_, ?_⟩
  · rw [htk, show 12 + 8 * (i + 1) = 12 + 8 * i + 4 + 4 by omega]
    simpa [List.append_assoc] using ow7
  · rw [show 12 + 8 * (i + 1) = 12 + 8 * i + 4 + 4 by omega]

/-! ### numbers read -/
def sub (bs : List Int) (at0 k : Nat) : List Int := (bs.drop at0).take k
theorem sub_len {bs : List Int} {at0 k : Nat} (h : at0 + k ≤ bs.length) : (sub bs at0 k).length = k := by simp [sub]; omega
theorem sub_ok {bs : List Int} (h : Bytes bs) (at0 k : Nat) : Bytes (sub bs at0 k) := fun x hx => h x (List.mem_of_mem_drop (List.mem_of_mem_take hx))
def bigN (v : Int) : Bool := decide (9223372036854775807 < v)
def intV (v : Int) : Value := .tuple #[.int .i64 (if bigN v then 0 else v), .int .i64 (if bigN v then 1 else 0)]
theorem c_Int {h : Hp} {a : Option Addr} {n c at0 k : Nat} {bs : List Int} (r : Rd h 1 a n (bs.map (Value.int .u8))) (hb : Bytes bs) (hc : n ≤ c) (hn : n ≤ 1000000) (h1 : 1 ≤ k) (h8 : k ≤ 8) (hat : at0 + k ≤ n) :
    ACalls Try.prog 45 [.slice a n c, .int .i64 at0, .int .i64 k] h fun v h' => v = intV (val (sub bs at0 k)) ∧ h' = h := by
  refine bits_Int_ok.snd hm rfl fun w => ?_
  rw [WF_eq, bits_Int]
  have hl := r.ilen
  obtain ⟨b, off, sp, rfl, hf, -⟩ := r.pos (by omega)
  have rs := rd_map_sub r hf (l := at0) (u := at0 + k) (by omega) hat hc
  rw [show at0 + k - at0 = k by omega] at rs
  change Rd h 1 _ k ((sub bs at0 k).map (Value.int .u8)) at rs
  have hsl := sub_len (bs := bs) (at0 := at0) (k := k) (by omega)
  have hsb := sub_ok hb at0 k
  have a1 : ((k : Int) < 1) = False := eq_false (by omega)
  have a2 : ((8 : Int) < (k : Int)) = False := eq_false (by omega)
  have a3 : ((at0 : Int) < 0) = False := eq_false (by omega)
  have a4 : ((n : Int) < (at0 : Int)) = False := eq_false (by omega)
  have a5 : IntKind.i64.wrap ((n : Int) - (at0 : Int)) = (n : Int) - at0 := i64 (by omega)
  have a6 : ((n : Int) - (at0 : Int) < (k : Int)) = False := eq_false (by omega)
  have a7 : IntKind.i64.wrap ((at0 : Int) + (k : Int)) = ((at0 + k : Nat) : Int) := by rw [i64 (by omega)]; rfl
  have hcp : capOk sp n c := by cases sp <;> simp [capOk, hc]
  have a8 : at0 ≤ at0 + k := by omega
  have a9 : at0 + k ≤ c := by omega
  have a10 : at0 + k - at0 = k := by omega
  have a4' : (n < at0) = False := eq_false (by omega)
  simp +contextual only [↓AM, ↓AV, AP, a1, a2, a3, a4, a4', a5, a6, a7, bnds, Option.isNone, hf, hcp, a8, a9, a10]
  generalize sub bs at0 k = xs at *
  generalize slAddr b off sp 1 at0 c true = ad at *
  refine WL.mk (fun m t h' => h' = h ∧ ∃ i : Nat, i ≤ k ∧ m = k - i ∧ t = [(8, some (.int .u64 (val (xs.take i)))), (38, some (.slice (some ad) k (c - at0))), (39, some (.int .i64 k)), (40, some (.int .i64 i))]) ⟨k, rfl, 0, by omega, rfl, rfl⟩ ?_
  rintro m t _ ⟨rfl, i, hi, rfl, rfl⟩
  by_cases hin : i < k
  · obtain ⟨b1, o1, s1, e, f1, u, hu, r1⟩ := rs.int hin
    cases e
    have hu1 := hsb u (List.mem_of_getElem? hu)
    have hv := val_bd (l := xs.take i) (n := 7) (fun x hx => hsb x (List.mem_of_mem_take hx)) (by simp; omega)
    have e1 : IntKind.u64.wrap (val (xs.take i) * 2 ^ min 8 IntKind.u64.bits) = val (xs.take i) * 256 := u64 (by show 0 ≤ _ * 256 ∧ _ * 256 ≤ _; omega)
    have e2 := or_low (x := val (xs.take i)) (y := u) (by omega) hu1
    have e3 : IntKind.u64.wrap u = u := u64 (by omega)
    simp +contextual only [↓AM, ↓AV, AP, f1, r1, hin, e1, e2, e3, i64s (i := i) (by omega)]
    refine ⟨_, by omega, i + 1, hin, rfl, ?_⟩
    rw [List.take_add_one, hu]
    simp [val_snoc]
  · have hv := val_bd (l := xs) (n := 8) hsb (by omega)
    have htk : xs.take i = xs := List.take_of_length_le (by omega)
    rw [htk]
    simp +contextual only [↓AM, ↓AV, AP, hin]
    refine ⟨fun hbig => ?_, fun hno => ?_⟩
    · simp [intV, bigN, hbig]
    · rw [i64 (by omega)]
      simp [intV, bigN, hno]
theorem val_cons (x : Int) (l : List Int) : val (x :: l) = x * 256 ^ l.length + val l := by
  have key : ∀ (l : List Int) (a : Int), l.foldl (fun a x => a * 256 + x) a = a * 256 ^ l.length + val l := by
    intro l
    induction l with
    | nil => intro a; simp [val]
    | cons y l ih =>
      intro a
      have h1 := ih (a * 256 + y)
      have h2 := ih (0 * 256 + y)
      simp only [val, List.foldl_cons] at h1 h2 ⊢
      rw [h1, h2]
      have : (256 : Int) ^ (y :: l).length = 256 * 256 ^ l.length := by rw [List.length_cons, Int.pow_succ, Int.mul_comm]
      rw [this, Int.add_mul, Int.mul_assoc]
      simp only [Int.zero_mul, Int.zero_add]
      generalize l.foldl (fun a x => a * 256 + x) 0 = z
      omega
  have := key l x
  simp only [val, List.foldl_cons, Int.zero_mul, Int.zero_add] at this ⊢
  exact this
theorem c_rInt {h : Hp} {a : Option Addr} {n c at0 k : Nat} {bs : List Int} (r : Rd h 1 a n (bs.map (Value.int .u8))) (hb : Bytes bs) (hn : n ≤ 1000000) (h1 : 1 ≤ k) (h8 : k ≤ 8) (hat : at0 + k ≤ n) :
    ACalls Try.prog 46 [.slice a n c, .int .i64 at0, .int .i64 k] h fun v h' => v = intV (val (sub bs at0 k)) ∧ h' = h := by
  refine dioramaref01_Int_ok.snd hm rfl fun w => ?_
  rw [WF_eq, dioramaref01_Int]
  have hl := r.ilen
  have hsl := sub_len (bs := bs) (at0 := at0) (k := k) (by omega)
  have hsb := sub_ok hb at0 k
  have hsg : ∀ i, i < k → (sub bs at0 k)[i]? = bs[at0 + i]? := fun i hi => by
    rw [sub, List.getElem?_take, if_pos hi, List.getElem?_drop]
  have a1 : ((k : Int) < 1) = False := eq_false (by omega)
  have a2 : ((8 : Int) < (k : Int)) = False := eq_false (by omega)
  have a3 : ((at0 : Int) < 0) = False := eq_false (by omega)
  have a5 : IntKind.i64.wrap ((n : Int) - (k : Int)) = (n : Int) - k := i64 (by omega)
  have a6 : ((n : Int) - (k : Int) < (at0 : Int)) = False := eq_false (by omega)
  obtain ⟨b, off, sp, rfl, f0, x0, hx0, r0⟩ := r.int (i := at0) (by omega)
  have hatn : at0 < n := by omega
  have loop : ∀ (Q : AX → Tm → Hp → Prop), True := fun _ => trivial
  by_cases hbig : k = 8 ∧ 128 ≤ x0
  · have b1 : EqI (k : Int) 8 = True := eq_true (by unfold EqI; omega)
    have b2 : (128 ≤ x0) = True := eq_true hbig.2
    simp +contextual only [↓AM, ↓AV, AP, a1, a2, a3, a5, a6, b1, b2, f0, r0, hatn]
    have hvb : bigN (val (sub bs at0 k)) = true := by
      have hs : (sub bs at0 k)[0]? = some x0 := by rw [hsg 0 (by omega)]; exact hx0
      cases hxs : sub bs at0 k with
      | nil => rw [hxs] at hs; cases hs
      | cons y ys =>
        rw [hxs] at hs hsl
        cases hs
        have hy := val_bd (l := ys) (n := 7) (fun x hx => hsb x (by rw [hxs]; simp [hx])) (by simp at hsl; omega)
        have : ys.length = 7 := by simp at hsl; omega
        rw [val_cons, this, bigN, decide_eq_true_eq]
        have e7 : (256 : Int) ^ 7 = 72057594037927936 := by decide
        rw [e7]
        omega
    simp [intV, hvb]
  have hvs : bigN (val (sub bs at0 k)) = false ∧ ∀ i, i ≤ k → 0 ≤ val ((sub bs at0 k).take i) ∧ val ((sub bs at0 k).take i) ≤ 9223372036854775807 := by
    have key : ∀ i, i ≤ k → 0 ≤ val ((sub bs at0 k).take i) ∧ val ((sub bs at0 k).take i) ≤ 9223372036854775807 := by
      intro i hi
      by_cases hi7 : i ≤ 7
      · have := val_bd (l := (sub bs at0 k).take i) (n := 7) (fun x hx => hsb x (List.mem_of_mem_take hx)) (by simp; omega)
        omega
      · have hk8 : k = 8 := by omega
        have hs : (sub bs at0 k)[0]? = some x0 := by rw [hsg 0 (by omega)]; exact hx0
        have hi8 : i = 8 := by omega
        subst hi8
        rw [List.take_of_length_le (by omega)]
        cases hxs : sub bs at0 k with
        | nil => rw [hxs] at hs; cases hs
        | cons y ys =>
          rw [hxs] at hs hsl
          cases hs
          have hy := val_bd (l := ys) (n := 7) (fun x hx => hsb x (by rw [hxs]; simp [hx])) (by simp at hsl; omega)
          have : ys.length = 7 := by simp at hsl; omega
          have hx0b := hsb x0 (by rw [hxs]; simp)
          rw [val_cons, this]
          have e7 : (256 : Int) ^ 7 = 72057594037927936 := by decide
          rw [e7] at hy ⊢
          omega
    refine ⟨?_, key⟩
    have := key k (Nat.le_refl _)
    rw [List.take_of_length_le (by omega)] at this
    rw [bigN, decide_eq_false_iff_not]
    omega
  obtain ⟨hv0, hvk⟩ := hvs
  refine (show W _ _ _ _ _ from ?_)
  have go : ∀ b1 : Prop, True := fun _ => trivial
  by_cases hk8 : k = 8
  case' pos =>
    have b1 : EqI (k : Int) 8 = True := eq_true (by unfold EqI; omega)
    have b2 : (128 ≤ x0) = False := eq_false (by omega)
    simp +contextual only [↓AM, ↓AV, AP, a1, a2, a3, a5, a6, b1, b2, f0, r0, hatn]
  case' neg =>
    have b1 : EqI (k : Int) 8 = False := eq_false (by unfold EqI; omega)
    simp +contextual only [↓AM, ↓AV, AP, a1, a2, a3, a5, a6, b1]
  all_goals refine WL.mk (fun m t h' => h' = h ∧ ∃ i : Nat, i ≤ k ∧ m = k - i ∧ t = [(0, some (.slice (some ⟨b, off, sp⟩) n c)), (1, some (.int .i64 at0)), (2, some (.int .i64 k)), (8, some (.int .i64 (val ((sub bs at0 k).take i)))), (9, some (.int .i64 i))]) ⟨k, rfl, 0, by omega, rfl, rfl⟩ ?_
  all_goals rintro m t _ ⟨rfl, i, hi, rfl, rfl⟩
  all_goals by_cases hin : i < k
  all_goals first
    | (obtain ⟨b1, o1, s1, e, f1, u, hu, r1⟩ := r.int (i := at0 + i) (by omega)
       cases e
       have hus : (sub bs at0 k)[i]? = some u := by rw [hsg i hin]; exact hu
       have hu1 := hb u (List.mem_of_getElem? hu)
       have h7 := val_bd (l := (sub bs at0 k).take i) (n := 7) (fun x hx => hsb x (List.mem_of_mem_take hx)) (by simp; omega)
       have htk : (sub bs at0 k).take (i + 1) = (sub bs at0 k).take i ++ [u] := by rw [List.take_add_one, hus]; rfl
       have hvn := hvk (i + 1) (by omega)
       rw [htk, val_snoc] at hvn
       have e1 : IntKind.i64.wrap (val ((sub bs at0 k).take i) * 256) = val ((sub bs at0 k).take i) * 256 := i64 (by omega)
       have e2 : IntKind.i64.wrap (val ((sub bs at0 k).take i) * 256 + u) = val ((sub bs at0 k).take i) * 256 + u := i64 (by omega)
       have e3 : IntKind.i64.wrap u = u := i64 (by omega)
       have e4 : IntKind.i64.wrap ((at0 : Int) + (i : Int)) = ((at0 + i : Nat) : Int) := by rw [i64 (by omega)]; rfl
       have e5 : at0 + i < n := by omega
       simp +contextual only [↓AM, ↓AV, AP, f1, r1, hin, e1, e2, e3, e4, e5, i64s (i := i) (by omega)]
       refine ⟨_, by omega, i + 1, hin, rfl, ?_⟩
       rw [htk, val_snoc]
       done)
    | (have htk : (sub bs at0 k).take i = sub bs at0 k := List.take_of_length_le (by omega)
       rw [htk]
       simp +contextual only [↓AM, ↓AV, AP, hin]
       simp [intV, hv0])
/-- Two equal locks compared. -/
theorem c_EqLock {h : Hp} {l : Lk} {oa ob : Option Addr} {c d : Nat} (r : Rd h 2 oa l.parts.length (l.parts.flatMap partC)) (s : Rd h 2 ob l.parts.length (l.parts.flatMap partC)) (hn : l.parts.length ≤ 1000000) :
    ACalls Try.prog 25 [lockV l oa c, lockV l ob d] h fun v h' => v = .bool true ∧ Fm No h h' := by
  refine dioramaref21_EqLock_ok.snd hm rfl fun w => ?_
  rw [WF_eq, dioramaref21_EqLock, lockV, lockV]
  have fm0 : Fm No h ((h.new ⟨[.int .i64 l.key, .int .i64 l.nonce, .int .i64 l.crypt, .int .i64 l.skip, .slice oa l.parts.length c], .own⟩).new ⟨[.int .i64 l.key, .int .i64 l.nonce, .int .i64 l.crypt, .int .i64 l.skip, .slice ob l.parts.length d], .own⟩) := Fm.new (Fm.new Fm.refl)
  have e1 : ∀ o o2 : Ob, ((h.new o).new o2).get h.size = some o := fun o o2 => (get_new (Nat.lt_succ_self _)).trans gnew
  have e2 : ∀ o o2 : Ob, ((h.new o).new o2).get (h.new o).size = some o2 := fun o o2 => gnew
  have g1 := e1 ⟨[.int .i64 l.key, .int .i64 l.nonce, .int .i64 l.crypt, .int .i64 l.skip, .slice oa l.parts.length c], .own⟩ ⟨[.int .i64 l.key, .int .i64 l.nonce, .int .i64 l.crypt, .int .i64 l.skip, .slice ob l.parts.length d], .own⟩
  have g2 := e2 ⟨[.int .i64 l.key, .int .i64 l.nonce, .int .i64 l.crypt, .int .i64 l.skip, .slice oa l.parts.length c], .own⟩ ⟨[.int .i64 l.key, .int .i64 l.nonce, .int .i64 l.crypt, .int .i64 l.skip, .slice ob l.parts.length d], .own⟩
  have r0 := r.keep w fm0 (fun _ _ => id)
  have s0 := s.keep w fm0 (fun _ _ => id)
  simp +contextual only [↓AM, ↓AV, AP, rd_mk (e1 _ _), rd_mk (e2 _ _), eqI_self]
  obtain ⟨rb, hrb⟩ : ∃ rb, (h.new ⟨[.int .i64 l.key, .int .i64 l.nonce, .int .i64 l.crypt, .int .i64 l.skip, .slice oa l.parts.length c], .own⟩).size = rb := ⟨_, rfl⟩
  rw [hrb] at g2
  generalize (h.new ⟨[.int .i64 l.key, .int .i64 l.nonce, .int .i64 l.crypt, .int .i64 l.skip, .slice oa l.parts.length c], .own⟩).new ⟨[.int .i64 l.key, .int .i64 l.nonce, .int .i64 l.crypt, .int .i64 l.skip, .slice ob l.parts.length d], .own⟩ = h0 at *
  simp only [hrb]
  refine WL.mk (fun k t h' => h' = h0 ∧ ∃ i : Nat, i ≤ l.parts.length ∧ k = l.parts.length - i ∧ t = [(2, some (.pointer (some ⟨h.size, 0, none⟩))), (3, some (.pointer (some ⟨rb, 0, none⟩))), (5, some (.int .i64 i))]) ⟨_, rfl, 0, by simp, rfl, rfl⟩ ?_
  rintro k t _ ⟨rfl, i, hi, rfl, rfl⟩
  by_cases hin : i < l.parts.length
  · obtain ⟨b1, o1, s1, u, rfl, f1, hu, r1, -⟩ := r0.elem partC_len rfl hin
    obtain ⟨b2, o2, s2, v, rfl, f2, hv, r2, -⟩ := s0.elem partC_len rfl hin
    rw [hu] at hv
    cases hv
    simp only [partC] at r1 r2
    have eqq : (u.1 == u.1 && (u.2 == u.2 && true)) = true := by simp
    simp +contextual (disch := omega) only [↓AM, ↓AV, AP, CQ, rd_mk g1, rd_mk g2, hin, f1, f2, r1, r2, eqCells, eqCell, eqq, i64, ldOk]
    exact ⟨_, by omega, i + 1, hin, rfl, rfl⟩
  · simp +contextual only [↓AM, ↓AV, AP, rd_mk g1, hin]
    exact fm0
end Go.Proofs.Ytloonniiffbopaa.Cr
