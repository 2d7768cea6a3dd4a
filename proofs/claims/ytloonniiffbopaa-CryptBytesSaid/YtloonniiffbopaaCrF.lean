/- Slices of one's own that are written in parts; the stretches that are not empty. Plain theorems over the abstract machine.
   Conditions: none. -/
import Derived.Test.YtloonniiffbopaaCrE
namespace Go.Proofs.Ytloonniiffbopaa.Cr
open Go Go.RowKit Go.Proofs.Ytloonniiffbopaa.Am Go.Proofs.Ytloonniiffbopaa.Af
set_option linter.unusedVariables false
set_option linter.unusedSimpArgs false
set_option maxRecDepth 20000

theorem spl_takeN (l vs : List Value) (k m : Nat) (h : k + vs.length ≤ m) (hm : m ≤ l.length) : (spl l k vs).take m = spl (l.take m) k vs := by
  unfold spl
  rw [List.take_append, List.take_append]
  have h1 : (l.take k).length = k := by simp; omega
  simp only [List.length_append, h1]
  rw [List.take_of_length_le (l := l.take k) (by omega), List.take_of_length_le (l := vs) (by omega), List.take_take, Nat.min_eq_left (by omega), List.drop_take]
theorem spl_takeL (l vs : List Value) (k : Nat) (hk : k ≤ l.length) : (spl l k vs).take k = l.take k := by
  unfold spl
  rw [List.append_assoc, List.take_append, List.take_take, Nat.min_self]
  have h1 : (l.take k).length = k := by simp; omega
  rw [h1, Nat.sub_self, List.take_zero, List.append_nil]
/-- Some cells written anew. -/
theorem _root_.Go.Proofs.Ytloonniiffbopaa.Am.Ow.part {h : Hp} {z ln cap k m : Nat} {oa : Option Addr} {cs : List Value} (w : Wf h) (o : Ow h z oa ln cap cs) (hm : 0 < m) (hk : k + m ≤ ln * z) :
    ∃ b sp ob, oa = some ⟨b, 0, sp⟩ ∧ (sp = none ∨ sp = some 0) ∧ flagOk sp = true ∧ h.get b = some ob ∧ (ob.md = .ro) = False ∧ leIs (k + m) ob.cs = true ∧ (∀ j v, cs[j]? = some v → h.rd b j = some v) ∧
      ∀ vs : List Value, vs.length = m → Ow (h.put b ⟨spl ob.cs k vs, ob.md⟩) z oa ln cap (spl cs k vs) ∧ Wf (h.put b ⟨spl ob.cs k vs, ob.md⟩) ∧ Fm (At oa) h (h.put b ⟨spl ob.cs k vs, ob.md⟩) := by
  have hlen := o.len
  have hle := o.le
  have hlz : ln * z ≤ cap * z := Nat.mul_le_mul_right z hle
  rcases oa with _ | ⟨b, off, sp⟩
  · have := o.nil rfl
    subst this
    have : ln * z ≤ 0 := by simpa using hlz
    omega
  · obtain ⟨h0, ob, hg, hmd, hcap, htake, hsp⟩ := o.at_ _ rfl
    have h0 : off = 0 := h0
    subst h0
    have hsp' : sp = none ∨ sp = some 0 := hsp.imp id (·.1)
    refine ⟨b, sp, ob, rfl, hsp', by rcases hsp' with h | h <;> rw [h] <;> rfl, hg, by simpa using hmd, by rw [← leIs_p]; omega, fun j v hv => ?_, fun vs hvs => ⟨⟨by rw [spl_length (by omega)]; exact hlen, hle, (fun e => by cases e), fun a e => ?_⟩, w.put (w.lt hg), Fm.put Fm.refl fun _ => ⟨_, rfl, rfl⟩⟩⟩
    · rw [rd_mk hg]
      rw [← htake, List.getElem?_take] at hv
      split at hv
      · exact hv
      · cases hv
    · cases e
      refine ⟨rfl, _, get_put_self, hmd, ?_, ?_, hsp⟩
      · show cap * z ≤ (spl ob.cs k vs).length
        rw [spl_length (by omega)]; exact hcap
      · show (spl ob.cs k vs).take _ = _
        rw [spl_takeN _ _ _ _ (by omega) (by omega), htake]
/-- A shorter one. -/
theorem _root_.Go.Proofs.Ytloonniiffbopaa.Am.Ow.cut {h : Hp} {z ln cap m : Nat} {oa : Option Addr} {cs : List Value} (o : Ow h z oa ln cap cs) (hm : m ≤ ln) : Ow h z oa m cap (cs.take (m * z)) := by
  have hlen := o.len
  have hle := o.le
  have hlz : m * z ≤ ln * z := Nat.mul_le_mul_right z hm
  refine ⟨by simp; omega, by omega, o.nil, fun a e => ?_⟩
  obtain ⟨h0, ob, hg, hmd, hcap, htake, hsp⟩ := o.at_ a e
  exact ⟨h0, ob, hg, hmd, hcap, by rw [← htake, List.take_take, Nat.min_eq_left hlz], hsp⟩
theorem spl_flat {α : Type} {f : α → List Value} {z : Nat} (hf : ∀ x, (f x).length = z) : ∀ (xs : List α) (i : Nat) (v : α), i < xs.length → spl (xs.flatMap f) (i * z) (f v) = (xs.set i v).flatMap f
  | [], i, v, h => by simp at h
  | x :: xs, 0, v, h => by
    unfold spl
    rw [Nat.zero_mul, Nat.zero_add, List.take_zero, List.nil_append, hf, List.flatMap_cons, List.drop_left' (hf x)]
    rfl
  | x :: xs, i + 1, v, h => by
    have ih := spl_flat hf xs i v (by simpa using h)
    unfold spl at ih ⊢
    have e : (i + 1) * z = z + i * z := by rw [Nat.add_mul]; omega
    rw [List.set_cons_succ, List.flatMap_cons, List.flatMap_cons, ← ih, e, List.take_append, hf, List.take_of_length_le (l := f x) (by rw [hf]; omega), show z + i * z - z = i * z by omega, hf,
      show z + i * z + z = z + (i * z + z) by omega, List.drop_append, hf, List.drop_eq_nil_of_le (show (f x).length ≤ z + (i * z + z) by rw [hf]; omega), show z + (i * z + z) - z = i * z + z by omega, List.nil_append]
    simp
theorem rdN_new {h : Hp} {cs : List Value} {md : Md} {m : Nat} (e : lenIs cs m = true) : (h.new ⟨cs, md⟩).rdN h.size 0 m = some cs := by
  have hl : cs.length = m := by rw [lenIs_p]; exact e
  rw [rdN_mk get_new_self (by simp [hl]), List.drop_zero, List.take_of_length_le (by simp [hl])]
theorem src_n4 {h : Hp} {a b c d : Value} {md : Md} : (h.new ⟨[a, b, c, d], md⟩).src 4 (.slice (some ⟨h.size, 0, none⟩) 1 1) = some [a, b, c, d] := src_new rfl
theorem src_n2 {h : Hp} {a b : Value} {md : Md} : (h.new ⟨[a, b], md⟩).src 2 (.slice (some ⟨h.size, 0, none⟩) 1 1) = some [a, b] := src_new rfl
theorem src_n1 {h : Hp} {a : Value} {md : Md} : (h.new ⟨[a], md⟩).src 1 (.slice (some ⟨h.size, 0, none⟩) 1 1) = some [a] := src_new rfl
theorem rdN_n4 {h : Hp} {a b c d : Value} {md : Md} : (h.new ⟨[a, b, c, d], md⟩).rdN h.size 0 4 = some [a, b, c, d] := rdN_new rfl
theorem rdN_n5 {h : Hp} {a b c d e : Value} {md : Md} : (h.new ⟨[a, b, c, d, e], md⟩).rdN h.size 0 5 = some [a, b, c, d, e] := rdN_new rfl
theorem c_DeleteStr {h : Hp} {oa : Option Addr} {n cap : Nat} {xs : List Str} (ow : Ow h 4 oa n cap (xs.flatMap strC)) (hn : n ≤ 140737488351232) :
    ACalls Try.prog 54 [.slice oa n cap, .func (.func 55) #[] #[]] h fun v h' =>
      v = .slice oa (keepS xs).length cap ∧ Ow h' 4 oa (keepS xs).length cap ((keepS xs).flatMap strC) ∧ Fm (At oa) h h' := by
  refine slices_DeleteFunc___crypt_stretch_crypt_stretch__ok.snd hm rfl fun w => ?_
  rw [WF_eq, slices_DeleteFunc___crypt_stretch_crypt_stretch_]
  have hl : xs.length = n := by have := ow.len; rw [flat_len strC_len] at this; omega
  simp +contextual only [↓AM, ↓AV, AP]
  refine (c_IndexStr ow.rd hl hn).use ?_
  rintro _ h1 w1 ⟨⟨rfl, hk⟩ | ⟨q0, hq0, rfl, hkq, s0, hs0, he0⟩, fm1⟩
  · simp +contextual only [↓AM, ↓AV, AP, eqI_self]
    rw [hk, hl]
    exact ⟨rfl, ow.keep w fm1 (fun _ _ => id), fm1.mono fun _ _ x => x.elim⟩
  have hne : EqI (q0 : Int) (-1) = False := eq_false (by unfold EqI; omega)
  have o1 := ow.keep w fm1 (fun _ _ => id)
  have fm1' : Fm (At oa) h h1 := fm1.mono fun _ _ x => x.elim
  have at1 : ∀ x, At oa x → x < h1.size := ow.lt w |> fun hh x hx => Nat.lt_of_lt_of_le (hh x hx) fm1.size
  simp +contextual only [↓AM, ↓AV, AP, hne, i64s (i := q0) (by omega)]
  have hk0 : keepS (xs.take (q0 + 1)) = xs.take q0 := by
    rw [List.take_add_one, hs0]
    simp only [keepS, List.filter_append] at hkq ⊢
    rw [hkq]
    simp [he0]
  refine WL.mk (fun k t h' => Wf h' ∧ Fm (At oa) h h' ∧ ∃ j : Nat, j ≤ n ∧ k = n - j ∧ ∃ ys : List Str, Ow h' 4 oa n cap ((keepS (xs.take j) ++ ys).flatMap strC) ∧ (keepS (xs.take j)).length < j ∧ ys.drop (j - (keepS (xs.take j)).length) = xs.drop j ∧
      t = [(0, some (.slice oa n cap)), (1, some (.func (.func 55) #[] #[])), (5, some (.int .i64 ((keepS (xs.take j)).length : Nat))), (6, some (.int .i64 j))])
    ⟨_, w1, fm1', q0 + 1, hq0, rfl, xs.drop q0, ?_, ?_, ?_, ?_⟩ ?_
  · rw [hk0, List.take_append_drop]; exact o1
  · rw [hk0]; simp; omega
  · rw [hk0, List.drop_drop]
    simp only [List.length_take, hl]
    rw [Nat.min_eq_left (by omega), show q0 + (q0 + 1 - q0) = q0 + 1 by omega]
  · rw [hk0]
    simp only [List.length_take, hl]
    rw [Nat.min_eq_left (by omega)]
  rintro k t h2 ⟨w2, fm2, j, hj, rfl, ys, o2, hlt, hdr, rfl⟩
  have hql := o2.len
  rw [flat_len strC_len] at hql
  have hql : (keepS (xs.take j)).length + ys.length = n := by simp at hql; omega
  by_cases hjn : j < n
  · obtain ⟨s, hs⟩ : ∃ s, xs[j]? = some s := ⟨_, List.getElem?_eq_getElem (by omega)⟩
    have htk : keepS (xs.take (j + 1)) = keepS (xs.take j) ++ keepS [s] := by
      rw [List.take_add_one, hs]; simp [keepS]
    have hget : (keepS (xs.take j) ++ ys)[j]? = some s := by
      rw [List.getElem?_append_right (by omega), ← Nat.add_zero (j - _), ← List.getElem?_drop, hdr, List.getElem?_drop, Nat.add_zero, hs]
    obtain ⟨b1, o1', s1, u, rfl, f1, hu, r1, -⟩ := o2.rd.elem strC_len (by simp; omega) hjn
    rw [hget] at hu
    cases hu
    simp only [strC] at r1
    simp +contextual only [↓AM, ↓AV, AP, f1, r1, hjn, rdN_new]
    refine ⟨by kernel_rfl, c_str1.use ?_⟩
    rintro _ h3 w3 ⟨rfl, fm3⟩
    have fm02 : Fm No h2 (h2.new ⟨[.int .i64 s.1, .int .i64 s.2.1, .int .i64 s.2.2.1, .int .i64 s.2.2.2], .own⟩) := Fm.new Fm.refl
    have hg3 := fm3.keep w2.new (gnew (h := h2)) id
    have fm23 := fm02.trans fm3 (fun _ _ x => x)
    have o3 := o2.keep w2 fm23 (fun _ _ => id)
    have fm03 : Fm (At (some ⟨b1, o1', s1⟩)) h h3 := fm2.trans fm23 fun _ _ x => x.elim
    have hnext : ys.drop 1 ++ [] = ys.drop 1 := by simp
    simp +contextual only [↓AM, ↓AV, AP]
    refine ⟨fun hne => ?_, fun heq => ?_⟩
    · have hks : keepS [s] = [s] := by simp [keepS, hne]
      obtain ⟨b, sp, ob, hoa, -, f3, hgb, hro, hle, -, hset⟩ := o3.part (k := (keepS (xs.take j)).length * 4) (m := 4) w3 (by decide) (by omega)
      cases hoa
      obtain ⟨o4, w4, fm4⟩ := hset [.int .i64 s.1, .int .i64 s.2.1, .int .i64 s.2.2.1, .int .i64 s.2.2.2] rfl
      have hr : h3.rdN h2.size 0 4 = some [.int .i64 s.1, .int .i64 s.2.1, .int .i64 s.2.2.1, .int .i64 s.2.2.2] := by rw [rdN_mk hg3 (by simp)]; rfl
      have hqn : (keepS (xs.take j)).length < n := by omega
      simp +contextual only [↓AM, ↓AV, AP, hr, f3, hgb, hro, hle, hqn, i64s (i := (keepS (xs.take j)).length) (by omega), i64s (i := j) (by omega)]
      refine ⟨_, ?_, w4, fm03.trans fm4 (fun _ _ x => x), j + 1, hjn, rfl, ys.drop 1, ?_, ?_, ?_, ?_⟩
      · omega
      · have e : spl ((keepS (xs.take j) ++ ys).flatMap strC) ((keepS (xs.take j)).length * 4) (strC s) = (keepS (xs.take (j + 1)) ++ ys.drop 1).flatMap strC := by
          rw [spl_flat strC_len _ _ _ (by simp; omega), htk, hks, List.set_append_right _ _ (Nat.le_refl _), Nat.sub_self]
          cases ys with
          | nil => simp at hql; omega
          | cons y ys => simp
        rw [← e]
        exact o4
      · rw [htk, hks]; simp; omega
      · rw [htk, hks, List.drop_drop]
        have := congrArg (List.drop 1) hdr
        rw [List.drop_drop, List.drop_drop] at this
        simp only [List.length_append, List.length_singleton]
        rw [show 1 + (j + 1 - ((keepS (xs.take j)).length + 1)) = j - (keepS (xs.take j)).length + 1 by omega, this]
      · rw [htk, hks]; simp
    · have hks : keepS [s] = [] := by simp [keepS, show s.1 = s.2.1 from heq]
      simp +contextual only [↓AM, ↓AV, AP, i64s (i := j) (by omega)]
      refine ⟨_, ?_, w3, fm03, j + 1, hjn, rfl, ys, ?_, ?_, ?_, ?_⟩
      · omega
      · rw [htk, hks, List.append_nil]; exact o3
      · rw [htk, hks, List.append_nil]; omega
      · rw [htk, hks, List.append_nil]
        have := congrArg (List.drop 1) hdr
        rw [List.drop_drop, List.drop_drop] at this
        rw [show j + 1 - (keepS (xs.take j)).length = j - (keepS (xs.take j)).length + 1 by omega, this]
      · rw [htk, hks, List.append_nil]
  · have hjn' : j = n := by omega
    subst hjn'
    have hxs : xs.take j = xs := List.take_of_length_le (by omega)
    rw [hxs] at o2 hlt hdr hql ⊢
    obtain ⟨b, sp, ob, hoa, hsp, f3, hgb, hro, hle, -, hset⟩ := o2.part (k := (keepS xs).length * 4) (m := (j - (keepS xs).length) * 4) w2 (by omega) (by omega)
    subst hoa
    have hle' : (keepS xs).length ≤ j := by omega
    have hcap : j ≤ cap := o2.le
    have hc1 : (keepS xs).length ≤ cap := by omega
    have hc2 : (cap = (keepS xs).length) = False := by simp; omega
    have hc3 : (cap = 0) = False := by simp; omega
    have hrl : (rep (j - (keepS xs).length) [Value.int .i64 0, .int .i64 0, .int .i64 0, .int .i64 0]).length = (j - (keepS xs).length) * 4 := by simp [rep]
    obtain ⟨o4, w4, fm4⟩ := hset _ hrl
    rw [← leIs_p] at hle
    have hA : slAddr b 0 sp 4 (keepS xs).length cap true = ⟨b, (keepS xs).length * 4, sp⟩ := by
      rcases hsp with h | h <;> subst h <;> simp [slAddr, hc2]
    have hB : slAddr b 0 sp 4 0 cap true = ⟨b, 0, sp⟩ := by
      rcases hsp with h | h <;> subst h <;> simp [slAddr]
    have hcp : capOk sp j cap := by rcases hsp with h | h <;> subst h <;> simp [capOk, hcap]
    simp +contextual only [↓AM, ↓AV, AP, hjn, bnds, hcp, Option.isNone, hle', hA, hB, f3, hc1, hgb, hro, hcap, hle, List.length_cons, List.length_nil]
    have h5 := o4.cut hle'
    rw [spl_takeL _ _ _ (by rw [flat_len strC_len]; simp; omega), flat_take strC_len, List.take_left] at h5
    exact ⟨h5, fm2.trans fm4 fun _ _ x => x⟩
end Go.Proofs.Ytloonniiffbopaa.Cr
