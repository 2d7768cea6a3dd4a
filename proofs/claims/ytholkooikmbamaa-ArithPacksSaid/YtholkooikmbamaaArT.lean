/- A call of either decoder. Plain theorems over the abstract machine.
   Conditions: none. -/
import Derived.Test.YtholkooikmbamaaArS
namespace Go.Proofs.Ytholkooikmbamaa.Ar
open Go Go.RowKit Go.Proofs.Ytholkooikmbamaa.Am Go.Proofs.Ytholkooikmbamaa.Af
set_option linter.unusedVariables false
set_option linter.unusedSimpArgs false
set_option maxRecDepth 20000

def ofR (s : De) (R : Except Int (Int × De × List Int)) : Int × Int × List Int × De := match R with
  | .error e => (0, e, [], s)
  | .ok (w, y) => (w, 0, y.2, y.1)
/-- A call of a decoder: the value, the error, the states and the decoder behind it. -/
def readF (bs : List Int) (s : De) (dd : Int) (l : List Int) : Int × Int × List Int × De :=
  if dd = 0 then (dbitB bs s (l.getD 0 0), dbitI bs s (l.getD 0 0), [dbitN bs s (l.getD 0 0)], dbitS bs s (l.getD 0 0)) else if dd = 1 then ofR s (numR bs s l) else ofR s (sgnR (numR bs s l))
def RPost (O : De → Ob) (h : Hp) (d : Nat) (f : Int × Int × List Int × De) (v : Value) (h' : Hp) : Prop :=
  ∃ os cap, v = .tuple #[.int .i64 f.1, .slice os f.2.2.1.length cap, .int .i64 f.2.1] ∧ h'.get d = some (O f.2.2.2) ∧ Ow h' 1 os f.2.2.1.length cap (f.2.2.1.map (Value.int .i64)) ∧ Nw h os ∧ Fm (fun x => x = d) h h'
theorem ups_gd {bs : List Int} (hb : Bytes bs) : ∀ {f j : Nat} {x : De × List Int} {n : Nat} {y : De × List Int}, DGd x.1 bs.length → SOk x.2 → ups bs f j x = .ok (n, y) → DGd y.1 bs.length ∧ SOk y.2
  | 0, j, x, n, y, g, o, h => by rw [ups] at h; cases h
  | f + 1, j, x, n, y, g, o, h => by
    rw [ups] at h
    split at h
    · rename_i ok
      obtain ⟨g2, o2⟩ := rbit_ok g hb o (k := min j 15) (by omega) ok
      split at h
      · cases h; exact ⟨g2, o2⟩
      · exact ups_gd hb g2 o2 h
    · cases h
theorem downs_gd {bs : List Int} (hb : Bytes bs) {n : Nat} : ∀ {r c : Nat} {w w' : Int} {x y : De × List Int}, DGd x.1 bs.length → SOk x.2 → downs bs n r c w x = .ok (w', y) → DGd y.1 bs.length ∧ SOk y.2
  | 0, c, w, w', x, y, g, o, h => by rw [downs] at h; cases h; exact ⟨g, o⟩
  | r + 1, c, w, w', x, y, g, o, h => by
    rw [downs] at h
    split at h
    · split at h
      · rename_i ok
        obtain ⟨g2, o2⟩ := rbit_ok g hb o (k := 16 + min (n - 1) 15) (by omega) ok
        exact downs_gd hb g2 o2 h
      · cases h
    · split at h
      · rename_i ok
        exact downs_gd hb (x := (gst bs x.1 2048, x.2)) (gst_gd g hb st2048 ok) o h
      · cases h
theorem numR_gd {bs l : List Int} {s : De} {w : Int} {y : De × List Int} (hb : Bytes bs) (g : DGd s bs.length) (h : numR bs s l = .ok (w, y)) : DGd y.1 bs.length ∧ SOk y.2 := by
  unfold numR at h
  split at h
  · rename_i hg
    have o := goodB_iff.1 hg
    unfold numD at h
    cases hu : ups bs 21 0 (s, l) with
    | error e' => rw [hu] at h; cases h
    | ok q =>
      obtain ⟨n, z⟩ := q
      obtain ⟨g2, o2⟩ := ups_gd hb (x := (s, l)) g o hu
      rw [hu] at h
      have h : endD (downs bs n (n - 1) 0 1 z) = .ok (w, y) := h
      unfold endD at h
      cases hd : downs bs n (n - 1) 0 1 z with
      | error e' => rw [hd] at h; cases h
      | ok q =>
        obtain ⟨w', y'⟩ := q
        rw [hd] at h
        simp only at h
        have q := downs_gd hb g2 o2 hd
        split at h
        · cases h
        · cases h; exact q
  · cases h
theorem readF_gd {bs l : List Int} {s : De} {dd : Int} (hb : Bytes bs) (g : DGd s bs.length) : DGd (readF bs s dd l).2.2.2 bs.length ∧ (readF bs s dd l).2.2.1.length ≤ 32 ∧ ((readF bs s dd l).2.1 = 0 → 0 < (readF bs s dd l).2.2.1.length ∧ (dd ≠ 0 → (readF bs s dd l).2.2.1.length = 32)) := by
  have hofR : ∀ R : Except Int (Int × De × List Int), (∀ w y, R = .ok (w, y) → DGd y.1 bs.length ∧ SOk y.2) → (∀ e, R = .error e → e ≠ 0) → DGd (ofR s R).2.2.2 bs.length ∧ (ofR s R).2.2.1.length ≤ 32 ∧ ((ofR s R).2.1 = 0 → 0 < (ofR s R).2.2.1.length ∧ (ofR s R).2.2.1.length = 32) := by
    intro R h1 h2
    cases R with
    | error e => exact ⟨g, by simp [ofR], fun h => absurd h (h2 e rfl)⟩
    | ok q =>
      obtain ⟨w, y⟩ := q
      obtain ⟨q1, q2⟩ := h1 w y rfl
      have := q2.len
      exact ⟨q1, by simp only [ofR]; omega, fun _ => ⟨by simp only [ofR]; omega, this⟩⟩
  unfold readF
  split
  · rename_i h0
    refine ⟨?_, by simp, fun _ => ⟨by simp, fun h => absurd h0 h⟩⟩
    simp only [dbitS]
    split
    · rename_i h; exact gst_gd g hb h.1 h.2
    · exact g
  · split
    · obtain ⟨a, b, c⟩ := hofR (numR bs s l) (fun w y h => numR_gd hb g h) (fun e h => by have := numR_err h; omega)
      exact ⟨a, b, fun h => ⟨(c h).1, fun _ => (c h).2⟩⟩
    · obtain ⟨a, b, c⟩ := hofR (sgnR (numR bs s l)) (fun w y h => by
        cases hR : numR bs s l with
        | error e => rw [hR] at h; cases h
        | ok q => rw [hR] at h; cases h; exact numR_gd hb g hR) (fun e h => by
        cases hR : numR bs s l with
        | error e' => rw [hR] at h; cases h; have := numR_err hR; omega
        | ok q => rw [hR] at h; cases h)
      exact ⟨a, b, fun h => ⟨(c h).1, fun _ => (c h).2⟩⟩
theorem c_read {h : Hp} {d n c m lc sn sc : Nat} {a la sa : Option Addr} {bs l : List Int} {s : De} {dd ctx v : Int} (hd : h.get d = some (pO a n c s)) (r : Rd h 1 a n (bs.map (Value.int .u8))) (hb : Bytes bs) (hn : n ≤ 140737488351232) (hn0 : 0 < n)
    (d6 : ¬ At a d) (g : DGd s bs.length) (hl : Rd h 1 la m (l.map (Value.int .i64))) (hm' : 8 * m ≤ 140737488351232) (hm0 : 0 < m) :
    ACalls Try.prog 31 [.pointer (some ⟨d, 0, none⟩), .agg #[.int .i64 dd, .int .i64 ctx, .int .i64 v, .slice sa sn sc], .slice la m lc] h (RPost (pO a n c) h d (readF bs s dd l)) := by
  refine dioramalaw13_read_ok.snd hm rfl fun w => ?_
  rw [WF_eq, dioramalaw13_read]
  have fm0 : Fm No h (h.new ⟨[.int .i64 dd, .int .i64 ctx, .int .i64 v, .slice sa sn sc], .own⟩) := Fm.new Fm.refl
  have hd0 := fm0.keep w hd id
  have r0 := r.keep w fm0 (fun _ _ => id)
  have hl0 := hl.keep w fm0 (fun _ _ => id)
  have hbx : (h.new ⟨[.int .i64 dd, .int .i64 ctx, .int .i64 v, .slice sa sn sc], .own⟩).get h.size = some ⟨[.int .i64 dd, .int .i64 ctx, .int .i64 v, .slice sa sn sc], .own⟩ := gnew
  have hl1 := hl.ilen
  by_cases hd0' : dd = 0
  · subst hd0'
    obtain ⟨bb, off, sp, rfl, f1, x, hx, r1⟩ := hl0.int hm0
    simp only [Nat.add_zero] at r1
    have hg0 : l.getD 0 0 = x := by rw [List.getD_eq_getElem?_getD, hx]; rfl
    have hF : readF bs s 0 l = (dbitB bs s x, dbitI bs s x, [dbitN bs s x], dbitS bs s x) := by rw [readF, if_pos rfl, hg0]
    rw [hF]
    simp +contextual only [↓AM, ↓AV, AP, f1, hm0, r1]
    refine ⟨by omega, (c_DBit hd0 r0 hb hn d6 g).use ?_⟩
    rintro _ h1 w1 ⟨rfl, hd1, fm1⟩
    simp +contextual only [↓AM, ↓AV, AP, tri]
    have fm2 : Fm No h1 (h1.new ⟨[.int .i64 (dbitN bs s x)], .own⟩) := Fm.new Fm.refl
    exact ⟨some ⟨h1.size, 0, none⟩, 1, rfl, fm2.keep w1 hd1 id, Ow.new (n := 1) (m := 1) rfl (by omega), fun y hy => (by rw [At.some] at hy; subst hy; exact Nat.le_trans fm0.size fm1.size), ((fm0.mono fun _ _ h => h.elim).trans fm1 fun _ _ => id).trans fm2 fun _ _ h => h.elim⟩
  have out : ∀ {R : Except Int (Int × De × List Int)} {rv : Value} {h' : Hp}, NPost (pO a n c) bs.length (h.new ⟨[.int .i64 dd, .int .i64 ctx, .int .i64 v, .slice sa sn sc], .own⟩) d s R rv h' → RPost (pO a n c) h d (ofR s R) rv h' := by
    rintro R rv h' ⟨he, hk, fm⟩
    have fm' : Fm (fun x => x = d) h h' := (Fm.new Fm.refl : Fm (fun x => x = d) h (h.new ⟨[.int .i64 dd, .int .i64 ctx, .int .i64 v, .slice sa sn sc], .own⟩)).trans fm fun _ _ => id
    cases R with
    | error e =>
      obtain ⟨rfl, h2⟩ := he e rfl
      exact ⟨none, 0, rfl, h2, Ow.mk0, Nw.none, fm'⟩
    | ok q =>
      obtain ⟨u, y⟩ := q
      obtain ⟨os, cap, rfl, h2, h3, h4, h5, h6⟩ := hk u y rfl
      have hl := h6.len
      refine ⟨os, cap, ?_, h2, ?_, fun x hx => Nat.le_trans fm0.size (h4 x hx), fm'⟩
      · show Value.tuple #[.int .i64 u, .slice os 32 cap, .int .i64 0] = .tuple #[.int .i64 u, .slice os y.2.length cap, .int .i64 0]
        rw [hl]
      · show Ow h' 1 os y.2.length cap _
        rw [hl]; exact h3
  by_cases hd1 : dd = 1
  · subst hd1
    have hF : readF bs s 1 l = ofR s (numR bs s l) := rfl
    rw [hF]
    simp +contextual only [↓AM, ↓AV, AP]
    refine (c_DNumber hd0 r0 hb hn hn0 d6 g hl0 (by omega)).use ?_
    rintro r h1 w1 hq
    obtain ⟨p0, p1, p2⟩ := hq
    have hr : ∃ x y z, r = .tuple #[x, y, z] := by
      cases hR : numR bs s l with
      | error e => exact ⟨_, _, _, (p0 e hR).1⟩
      | ok q => obtain ⟨_, _, q, _⟩ := p1 q.1 q.2 hR; exact ⟨_, _, _, q⟩
    obtain ⟨x, y, z, rfl⟩ := hr
    simp +contextual only [↓AM, ↓AV, AP]
    exact out ⟨p0, p1, p2⟩
  · have hF : readF bs s dd l = ofR s (sgnR (numR bs s l)) := by rw [readF, if_neg hd0', if_neg hd1]
    rw [hF]
    have e0 : EqI dd 0 = False := eq_false hd0'
    have e1 : EqI dd 1 = False := eq_false hd1
    simp +contextual only [↓AM, ↓AV, AP, e0, e1]
    refine (c_DSigned hd0 r0 hb hn hn0 d6 g hl0 (by omega)).use ?_
    rintro r h1 w1 hq
    obtain ⟨p0, p1, p2⟩ := hq
    have hr : ∃ x y z, r = .tuple #[x, y, z] := by
      cases hR : sgnR (numR bs s l) with
      | error e => exact ⟨_, _, _, (p0 e hR).1⟩
      | ok q => obtain ⟨_, _, q, _⟩ := p1 q.1 q.2 hR; exact ⟨_, _, _, q⟩
    obtain ⟨x, y, z, rfl⟩ := hr
    simp +contextual only [↓AM, ↓AV, AP]
    exact out ⟨p0, p1, p2⟩
theorem c_isRead {h : Hp} {d n c m lc sn sc : Nat} {a la sa : Option Addr} {bs l : List Int} {s : De} {dd ctx v : Int} (hd : h.get d = some (rO a n c s)) (r : Rd h 1 a n (bs.map (Value.int .u8))) (hb : Bytes bs) (hn : n ≤ 140737488351232) (hn0 : 0 < n)
    (d6 : ¬ At a d) (g : DGd s bs.length) (hl : Rd h 1 la m (l.map (Value.int .i64))) (hm' : 8 * m ≤ 140737488351232) (hm0 : 0 < m) :
    ACalls Try.prog 32 [.pointer (some ⟨d, 0, none⟩), .agg #[.int .i64 dd, .int .i64 ctx, .int .i64 v, .slice sa sn sc], .slice la m lc] h (RPost (rO a n c) h d (readF bs s dd l)) := by
  refine dioramalaw13_isRead_ok.snd hm rfl fun w => ?_
  rw [WF_eq, dioramalaw13_isRead]
  have fm0 : Fm No h (h.new ⟨[.int .i64 dd, .int .i64 ctx, .int .i64 v, .slice sa sn sc], .own⟩) := Fm.new Fm.refl
  have hd0 := fm0.keep w hd id
  have r0 := r.keep w fm0 (fun _ _ => id)
  have hl0 := hl.keep w fm0 (fun _ _ => id)
  have hbx : (h.new ⟨[.int .i64 dd, .int .i64 ctx, .int .i64 v, .slice sa sn sc], .own⟩).get h.size = some ⟨[.int .i64 dd, .int .i64 ctx, .int .i64 v, .slice sa sn sc], .own⟩ := gnew
  have hl1 := hl.ilen
  by_cases hd0' : dd = 0
  · subst hd0'
    obtain ⟨bb, off, sp, rfl, f1, x, hx, r1⟩ := hl0.int hm0
    simp only [Nat.add_zero] at r1
    have hg0 : l.getD 0 0 = x := by rw [List.getD_eq_getElem?_getD, hx]; rfl
    have hF : readF bs s 0 l = (dbitB bs s x, dbitI bs s x, [dbitN bs s x], dbitS bs s x) := by rw [readF, if_pos rfl, hg0]
    rw [hF]
    simp +contextual only [↓AM, ↓AV, AP, f1, hm0, r1]
    refine ⟨by omega, (c_rDBit hd0 r0 hb hn hn0 d6 g).use ?_⟩
    rintro _ h1 w1 ⟨rfl, hd1, fm1⟩
    simp +contextual only [↓AM, ↓AV, AP, tri]
    have fm2 : Fm No h1 (h1.new ⟨[.int .i64 (dbitN bs s x)], .own⟩) := Fm.new Fm.refl
    exact ⟨some ⟨h1.size, 0, none⟩, 1, rfl, fm2.keep w1 hd1 id, Ow.new (n := 1) (m := 1) rfl (by omega), fun y hy => (by rw [At.some] at hy; subst hy; exact Nat.le_trans fm0.size fm1.size), ((fm0.mono fun _ _ h => h.elim).trans fm1 fun _ _ => id).trans fm2 fun _ _ h => h.elim⟩
  have out : ∀ {R : Except Int (Int × De × List Int)} {rv : Value} {h' : Hp}, NPost (rO a n c) bs.length (h.new ⟨[.int .i64 dd, .int .i64 ctx, .int .i64 v, .slice sa sn sc], .own⟩) d s R rv h' → RPost (rO a n c) h d (ofR s R) rv h' := by
    rintro R rv h' ⟨he, hk, fm⟩
    have fm' : Fm (fun x => x = d) h h' := (Fm.new Fm.refl : Fm (fun x => x = d) h (h.new ⟨[.int .i64 dd, .int .i64 ctx, .int .i64 v, .slice sa sn sc], .own⟩)).trans fm fun _ _ => id
    cases R with
    | error e =>
      obtain ⟨rfl, h2⟩ := he e rfl
      exact ⟨none, 0, rfl, h2, Ow.mk0, Nw.none, fm'⟩
    | ok q =>
      obtain ⟨u, y⟩ := q
      obtain ⟨os, cap, rfl, h2, h3, h4, h5, h6⟩ := hk u y rfl
      have hl := h6.len
      refine ⟨os, cap, ?_, h2, ?_, fun x hx => Nat.le_trans fm0.size (h4 x hx), fm'⟩
      · show Value.tuple #[.int .i64 u, .slice os 32 cap, .int .i64 0] = .tuple #[.int .i64 u, .slice os y.2.length cap, .int .i64 0]
        rw [hl]
      · show Ow h' 1 os y.2.length cap _
        rw [hl]; exact h3
  by_cases hd1 : dd = 1
  · subst hd1
    have hF : readF bs s 1 l = ofR s (numR bs s l) := rfl
    rw [hF]
    simp +contextual only [↓AM, ↓AV, AP]
    refine (c_rDNumber hd0 r0 hb hn hn0 d6 g hl0 (by omega)).use ?_
    rintro r h1 w1 hq
    obtain ⟨p0, p1, p2⟩ := hq
    have hr : ∃ x y z, r = .tuple #[x, y, z] := by
      cases hR : numR bs s l with
      | error e => exact ⟨_, _, _, (p0 e hR).1⟩
      | ok q => obtain ⟨_, _, q, _⟩ := p1 q.1 q.2 hR; exact ⟨_, _, _, q⟩
    obtain ⟨x, y, z, rfl⟩ := hr
    simp +contextual only [↓AM, ↓AV, AP]
    exact out ⟨p0, p1, p2⟩
  · have hF : readF bs s dd l = ofR s (sgnR (numR bs s l)) := by rw [readF, if_neg hd0', if_neg hd1]
    rw [hF]
    have e0 : EqI dd 0 = False := eq_false hd0'
    have e1 : EqI dd 1 = False := eq_false hd1
    simp +contextual only [↓AM, ↓AV, AP, e0, e1]
    refine (c_rDSigned hd0 r0 hb hn hn0 d6 g hl0 (by omega)).use ?_
    rintro r h1 w1 hq
    obtain ⟨p0, p1, p2⟩ := hq
    have hr : ∃ x y z, r = .tuple #[x, y, z] := by
      cases hR : sgnR (numR bs s l) with
      | error e => exact ⟨_, _, _, (p0 e hR).1⟩
      | ok q => obtain ⟨_, _, q, _⟩ := p1 q.1 q.2 hR; exact ⟨_, _, _, q⟩
    obtain ⟨x, y, z, rfl⟩ := hr
    simp +contextual only [↓AM, ↓AV, AP]
    exact out ⟨p0, p1, p2⟩
end Go.Proofs.Ytholkooikmbamaa.Ar
