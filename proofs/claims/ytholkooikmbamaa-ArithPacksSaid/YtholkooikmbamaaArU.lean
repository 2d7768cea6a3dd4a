/- What is written is read back: the range coder, in plain words. Plain theorems.
   Conditions: none. -/
import Derived.Test.YtholkooikmbamaaArT
namespace Go.Proofs.Ytholkooikmbamaa.Ar
open Go Go.RowKit Go.Proofs.Ytholkooikmbamaa.Am Go.Proofs.Ytholkooikmbamaa.Af
set_option linter.unusedVariables false
set_option linter.unusedSimpArgs false
set_option maxRecDepth 20000

/-- The number that bytes say. -/
def val (l : List Int) : Int := l.foldl (fun a x => a * 256 + x) 0
theorem val_snoc (l : List Int) (x : Int) : val (l ++ [x]) = val l * 256 + x := by simp [val, List.foldl_append]
theorem p256 (n : Nat) : (256 : Int) ^ (n + 1) = 256 ^ n * 256 := Int.pow_succ _ _
theorem val_carry : ∀ r : List Int, Bytes r.reverse → val r.reverse + 1 < 256 ^ r.length → val (carryL r.reverse) = val r.reverse + 1
  | [], _, h => by simp [val] at h
  | x :: r, hb, h => by
    rw [List.reverse_cons] at hb h ⊢
    have hx := hb x (by simp)
    have hb2 : Bytes r.reverse := fun y hy => hb y (by simp at hy ⊢; exact .inl hy)
    rw [val_snoc, List.length_cons, p256] at h
    by_cases h255 : x = 255
    · subst h255
      rw [carry_255, val_snoc, val_snoc, val_carry r hb2 (by omega)]
      omega
    · rw [carry_ne _ h255, val_snoc, val_snoc]
      omega
/-- The number that an encoder has written so far. -/
def EV (e : En) : Int := val e.out * 4294967296 + e.low
/-- Its range lies below the last number of so many bytes. -/
def Wd (e : En) : Prop := EV e + e.span ≤ 256 ^ e.out.length * 4294967296
theorem bit1_ev {e : En} {p b : Int} (g : Gd e) (hp : St p) (wd : Wd e) :
    EV (bit1 e p b) = EV e + (if b = 0 then 0 else e.span / 4096 * p) ∧ (bit1 e p b).out.length = e.out.length ∧ (bit1 e p b).span = if b = 0 then e.span / 4096 * p else e.span - e.span / 4096 * p := by
  have hb := bound_le g.span hp
  have hl := g.low
  unfold Wd at wd
  unfold bit1
  split
  · exact ⟨by simp [EV], rfl, rfl⟩
  · split
    · rename_i hc
      have e1 : e.out = e.out.reverse.reverse := by simp
      have hv : val (carryL e.out) = val e.out + 1 := by
        have := val_carry e.out.reverse (by rw [List.reverse_reverse]; exact g.out) (by rw [List.reverse_reverse, List.length_reverse]; unfold EV at wd; omega)
        rwa [List.reverse_reverse] at this
      refine ⟨?_, carry_len _, rfl⟩
      unfold EV
      simp only [hv]
      omega
    · refine ⟨?_, rfl, rfl⟩
      unfold EV
      simp only
      omega
theorem norm_ev {m : En} (hl : 0 ≤ m.low ∧ m.low ≤ 4294967295) : (m.span < 16777216 → EV (norm m) = 256 * EV m ∧ (norm m).out.length = m.out.length + 1 ∧ (norm m).span = m.span * 256) ∧ (¬ m.span < 16777216 → norm m = m) := by
  refine ⟨fun h => ?_, fun h => if_neg h⟩
  have e1 : norm m = ⟨m.low % 16777216 * 256, m.span * 256, m.out ++ [m.low / 16777216], m.n⟩ := if_pos h
  rw [e1]
  refine ⟨?_, by simp, rfl⟩
  unfold EV
  simp only [val_snoc]
  omega
/-- Bytes that an encoder may still become. -/
def Cov (e : En) (B : List Int) : Prop := e.out.length + 4 ≤ B.length ∧ EV e ≤ val (B.take (e.out.length + 4)) ∧ val (B.take (e.out.length + 4)) < EV e + e.span
theorem val_take {B : List Int} {i : Nat} (h : i < B.length) : val (B.take (i + 1)) = val (B.take i) * 256 + B.getD i 0 := by
  rw [List.take_add_one, List.getElem?_eq_getElem h, Option.toList_some, val_snoc, List.getD_eq_getElem?_getD, List.getElem?_eq_getElem h]
  rfl
theorem byteAt {B : List Int} (hB : Bytes B) {i : Nat} (h : i < B.length) : 0 ≤ B.getD i 0 ∧ B.getD i 0 ≤ 255 := by
  rw [List.getD_eq_getElem?_getD, List.getElem?_eq_getElem h]
  exact hB _ (List.getElem_mem h)
theorem put_wd {e : En} {p b : Int} (g : Gd e) (hp : St p) (wd : Wd e) : Wd (put e p b) := by
  obtain ⟨h1, h2, h3⟩ := bit1_ev (b := b) g hp wd
  obtain ⟨l1, l2, l3, l4, l5⟩ := bit1_gd (b := b) g hp
  obtain ⟨n1, n2⟩ := norm_ev ⟨l1, l2⟩
  have hb := bound_le g.span hp
  show EV (norm (bit1 e p b)) + (norm (bit1 e p b)).span ≤ 256 ^ (norm (bit1 e p b)).out.length * 4294967296
  unfold Wd at wd
  have wm : EV (bit1 e p b) + (bit1 e p b).span ≤ 256 ^ (bit1 e p b).out.length * 4294967296 := by
    rw [h1, h2, h3]
    split <;> omega
  by_cases hs : (bit1 e p b).span < 16777216
  · obtain ⟨q1, q2, q3⟩ := n1 hs
    rw [q1, q2, q3, p256]
    omega
  · rw [n2 hs]
    exact wm
/-- In the middle of a bit. -/
theorem cov_mid {e : En} {p b : Int} {B : List Int} (g : Gd e) (hp : St p) (wd : Wd e) (hB : Bytes B) (c : Cov (put e p b) B) :
    e.out.length + 4 ≤ B.length ∧ ((bit1 e p b).span < 16777216 → e.out.length + 4 < B.length) ∧ EV (bit1 e p b) ≤ val (B.take (e.out.length + 4)) ∧ val (B.take (e.out.length + 4)) < EV (bit1 e p b) + (bit1 e p b).span := by
  obtain ⟨h1, h2, h3⟩ := bit1_ev (b := b) g hp wd
  obtain ⟨l1, l2, l3, l4, l5⟩ := bit1_gd (b := b) g hp
  obtain ⟨n1, n2⟩ := norm_ev ⟨l1, l2⟩
  have c : (norm (bit1 e p b)).out.length + 4 ≤ B.length ∧ EV (norm (bit1 e p b)) ≤ val (B.take ((norm (bit1 e p b)).out.length + 4)) ∧ val (B.take ((norm (bit1 e p b)).out.length + 4)) < EV (norm (bit1 e p b)) + (norm (bit1 e p b)).span := c
  by_cases hs : (bit1 e p b).span < 16777216
  · obtain ⟨q1, q2, q3⟩ := n1 hs
    rw [q1, q2, q3, h2, show e.out.length + 1 + 4 = e.out.length + 4 + 1 by omega] at c
    have hlt : e.out.length + 4 < B.length := by omega
    rw [val_take hlt] at c
    have := byteAt hB hlt
    exact ⟨by omega, fun _ => hlt, by omega, by omega⟩
  · rw [n2 hs, h2] at c
    exact ⟨c.1, fun h => absurd h hs, c.2⟩
theorem cov_back {e : En} {p b : Int} {B : List Int} (g : Gd e) (hp : St p) (wd : Wd e) (hB : Bytes B) (c : Cov (put e p b) B) : Cov e B := by
  obtain ⟨h1, h2, h3, h4⟩ := cov_mid g hp wd hB c
  obtain ⟨q1, q2, q3⟩ := bit1_ev (b := b) g hp wd
  have hb := bound_le g.span hp
  rw [q1, q3] at h4
  rw [q1] at h3
  refine ⟨h1, ?_, ?_⟩
  · split at h3 <;> omega
  · split at h4 <;> omega
/-- A decoder of these bytes, where the encoder was. -/
structure Dec (e : En) (s : De) (B : List Int) : Prop where
  span : s.span = e.span
  pos : s.pos = e.out.length + 4
  code : s.code = val (B.take (e.out.length + 4)) - EV e
theorem dec_step {e : En} {s : De} {p b : Int} {B : List Int} (g : Gd e) (hp : St p) (wd : Wd e) (hb01 : b = 0 ∨ b = 1) (hB : Bytes B) (c : Cov (put e p b) B) (d : Dec e s B) :
    gok B s p = true ∧ gbit s p = b ∧ Dec (put e p b) (gst B s p) B := by
  obtain ⟨h1, h2, h3, h4⟩ := cov_mid g hp wd hB c
  obtain ⟨q1, q2, q3⟩ := bit1_ev (b := b) g hp wd
  obtain ⟨l1, l2, l3, l4, l5⟩ := bit1_gd (b := b) g hp
  obtain ⟨n1, n2⟩ := norm_ev ⟨l1, l2⟩
  have hb := bound_le g.span hp
  have hbit : (s.code < s.span / 4096 * p) = (b = 0) := by
    rw [d.code, d.span]
    apply propext
    constructor
    · intro h
      apply Classical.byContradiction
      intro hb0
      rw [q1, if_neg hb0] at h3
      omega
    · intro h
      rw [q1, q3, if_pos h, if_pos h] at h4
      omega
  have hmid : gmid s p = ⟨val (B.take (e.out.length + 4)) - EV (bit1 e p b), (bit1 e p b).span, e.out.length + 4⟩ := by
    unfold gmid
    simp only [hbit]
    rw [d.span, d.code, d.pos, q1, q3]
    split
    · simp
    · congr 1; omega
  have hg : gbit s p = b := by
    unfold gbit
    simp only [hbit]
    split
    · rename_i h; exact h.symm
    · rcases hb01 with h | h
      · exact absurd h (by assumption)
      · exact h.symm
  refine ⟨?_, hg, ?_⟩
  · unfold gok
    rw [hmid]
    by_cases hs : (bit1 e p b).span < 16777216
    · have := h2 hs
      simp only [Bool.or_eq_true, decide_eq_true_eq]
      exact .inr this
    · simp only [Bool.or_eq_true, decide_eq_true_eq]
      exact .inl (by omega)
  · have e0 : (put e p b).span = (norm (bit1 e p b)).span ∧ (put e p b).out = (norm (bit1 e p b)).out ∧ EV (put e p b) = EV (norm (bit1 e p b)) := ⟨rfl, rfl, rfl⟩
    unfold gst
    rw [hmid]
    by_cases hs : (bit1 e p b).span < 16777216
    · have hlt := h2 hs
      obtain ⟨r1, r2, r3⟩ := n1 hs
      have hn : gnorm B ⟨val (B.take (e.out.length + 4)) - EV (bit1 e p b), (bit1 e p b).span, e.out.length + 4⟩ = ⟨(val (B.take (e.out.length + 4)) - EV (bit1 e p b)) % 16777216 * 256 + B.getD (e.out.length + 4) 0, (bit1 e p b).span * 256, e.out.length + 4 + 1⟩ := if_pos ⟨hs, hlt⟩
      rw [hn]
      refine ⟨by rw [e0.1, r3], by rw [e0.2.1, r2, q2], ?_⟩
      rw [e0.2.1, e0.2.2, r1, r2, q2, show e.out.length + 1 + 4 = e.out.length + 4 + 1 by omega, val_take hlt]
      simp only
      omega
    · have hn : gnorm B ⟨val (B.take (e.out.length + 4)) - EV (bit1 e p b), (bit1 e p b).span, e.out.length + 4⟩ = ⟨val (B.take (e.out.length + 4)) - EV (bit1 e p b), (bit1 e p b).span, e.out.length + 4⟩ := if_neg (fun h => hs h.1)
      rw [hn]
      refine ⟨by rw [e0.1, n2 hs], by rw [e0.2.1, n2 hs, q2], ?_⟩
      rw [e0.2.1, e0.2.2, n2 hs, q2]
theorem cov_end {e : En} (g : Gd e) (more : List Int) : Cov e (closed e ++ more) := by
  have hl := g.low
  have hs := g.span
  have hlen : (closed e).length = e.out.length + 4 := by simp [closed]
  have ht : (closed e ++ more).take (e.out.length + 4) = closed e := by rw [← hlen]; exact List.take_left' rfl
  have hv : val (closed e) = EV e := by
    have : closed e = (((e.out ++ [e.low / 16777216]) ++ [e.low / 65536 % 256]) ++ [e.low / 256 % 256]) ++ [e.low % 256] := by simp [closed]
    rw [this, val_snoc, val_snoc, val_snoc, val_snoc, EV]
    omega
  refine ⟨by rw [List.length_append]; omega, ?_, ?_⟩
  · rw [ht, hv]; exact Int.le_refl _
  · rw [ht, hv]; omega
theorem new_wd : Wd new := by unfold Wd; decide
theorem dec_start {B : List Int} (h : 4 ≤ B.length) : Dec new (newD B) B := by
  refine ⟨rfl, rfl, ?_⟩
  show _ = val (B.take (0 + 4)) - 0
  rw [val_take (i := 3) (by omega), val_take (i := 2) (by omega), val_take (i := 1) (by omega), val_take (i := 0) (by omega)]
  simp [newD, val]
/-! ### numbers -/
structure Rel2 (B : List Int) (x : En × List Int) (z : De × List Int) : Prop where
  dec : Dec x.1 z.1 B
  eq : z.2 = x.2
theorem rel_bit {B : List Int} {x : En × List Int} {z : De × List Int} {k : Nat} {b : Int} (R : Rel2 B x z) (g : Gd x.1) (wd : Wd x.1) (o : SOk x.2) (hk : k < 32) (hb : b = 0 ∨ b = 1) (hB : Bytes B) (c : Cov (bitS x k b).1 B) :
    gok B z.1 (z.2.getD k 0) = true ∧ gbit z.1 (z.2.getD k 0) = b ∧ Rel2 B (bitS x k b) (rbit B z k) := by
  rw [R.eq]
  obtain ⟨h1, h2, h3⟩ := dec_step g (o.at hk) wd hb hB c R.dec
  refine ⟨h1, h2, ?_, ?_⟩
  · show Dec (put x.1 (x.2.getD k 0) b) (gst B z.1 (z.2.getD k 0)) B
    rw [R.eq]; exact h3
  · show z.2.set k (stepI (z.2.getD k 0) (gbit z.1 (z.2.getD k 0))) = x.2.set k (stepI (x.2.getD k 0) b)
    rw [R.eq, h2]
theorem bitS_wd {s : En × List Int} (g : Gd s.1) (wd : Wd s.1) (o : SOk s.2) {k : Nat} (hk : k < 32) (b : Int) : Wd (bitS s k b).1 := put_wd g (o.at hk) wd
theorem ones_wd {s : En × List Int} (g : Gd s.1) (wd : Wd s.1) (o : SOk s.2) : ∀ k : Nat, Wd (ones s k).1
  | 0 => wd
  | k + 1 => by
    obtain ⟨a, b, _⟩ := ones_ok g o k
    exact bitS_wd a (ones_wd g wd o k) b (k := min k 15) (by omega) 1
theorem lows_wd {s : En × List Int} (g : Gd s.1) (wd : Wd s.1) (o : SOk s.2) (w n : Nat) : ∀ c : Nat, Wd (lows s w n c).1
  | 0 => wd
  | c + 1 => by
    obtain ⟨a, b, _⟩ := lows_ok g o w n c
    have q := lows_wd g wd o w n c
    rw [lows]
    split
    · exact bitS_wd a q b (by omega) _
    · exact put_wd a st2048 q
theorem ones_back {s : En × List Int} {B : List Int} (g : Gd s.1) (wd : Wd s.1) (o : SOk s.2) (hB : Bytes B) : ∀ k : Nat, Cov (ones s k).1 B → ∀ i, i ≤ k → Cov (ones s i).1 B
  | 0, c, i, hi => by have : i = 0 := by omega
                      subst this; exact c
  | k + 1, c, i, hi => by
    by_cases h : i = k + 1
    · subst h; exact c
    · obtain ⟨a, b, _⟩ := ones_ok g o k
      exact ones_back g wd o hB k (cov_back a (b.at (k := min k 15) (by omega)) (ones_wd g wd o k) hB c) i (by omega)
theorem lows_back {s : En × List Int} {B : List Int} (g : Gd s.1) (wd : Wd s.1) (o : SOk s.2) (hB : Bytes B) (w n : Nat) : ∀ k : Nat, Cov (lows s w n k).1 B → ∀ i, i ≤ k → Cov (lows s w n i).1 B
  | 0, c, i, hi => by have : i = 0 := by omega
                      subst this; exact c
  | k + 1, c, i, hi => by
    by_cases h : i = k + 1
    · subst h; exact c
    · obtain ⟨a, b, _⟩ := lows_ok g o w n k
      have q := lows_wd g wd o w n k
      refine lows_back g wd o hB w n k ?_ i (by omega)
      rw [lows] at c
      split at c
      · exact cov_back a (b.at (by omega)) q hB c
      · exact cov_back a st2048 q hB c
theorem ups_at {s : En × List Int} {z : De × List Int} {B : List Int} (g : Gd s.1) (wd : Wd s.1) (o : SOk s.2) (hB : Bytes B) (R : Rel2 B s z) {N : Nat} (hN : N ≤ 20) (c : Cov (ones s N).1 B) :
    ∀ i, i ≤ N → ∃ z', Rel2 B (ones s i) z' ∧ ups B 21 0 z = ups B (21 - i) i z'
  | 0, _ => ⟨z, R, rfl⟩
  | i + 1, hi => by
    obtain ⟨z', R', e⟩ := ups_at g wd o hB R hN c i (by omega)
    obtain ⟨a, b, _⟩ := ones_ok g o i
    obtain ⟨h1, h2, h3⟩ := rel_bit R' a (ones_wd g wd o i) b (k := min i 15) (by omega) (.inr rfl) hB (ones_back g wd o hB N c (i + 1) hi)
    refine ⟨_, h3, ?_⟩
    rw [e, show 21 - i = (21 - (i + 1)) + 1 by omega, ups, if_pos h1, h2, if_neg (by decide)]
theorem div_step (w m : Nat) : ((w / 2 ^ m : Nat) : Int) = 2 * ((w / 2 ^ (m + 1) : Nat) : Int) + wbit w m := by
  unfold wbit
  have : w / 2 ^ (m + 1) = w / 2 ^ m / 2 := by rw [Nat.pow_succ, Nat.div_div_eq_div_mul]
  rw [this]
  omega
theorem downs_at {s : En × List Int} {z : De × List Int} {B : List Int} (g : Gd s.1) (wd : Wd s.1) (o : SOk s.2) (hB : Bytes B) (R : Rel2 B s z) {w N : Nat} (h1 : w / 2 ^ N = 1) (c : Cov (lows s w (N + 1) N).1 B) :
    ∀ i, i ≤ N → ∃ z', Rel2 B (lows s w (N + 1) i) z' ∧ downs B (N + 1) N 0 1 z = downs B (N + 1) (N - i) i ((w / 2 ^ (N - i) : Nat) : Int) z'
  | 0, _ => ⟨z, R, by rw [Nat.sub_zero, h1]; rfl⟩
  | i + 1, hi => by
    obtain ⟨z', R', e⟩ := downs_at g wd o hB R h1 c i (by omega)
    obtain ⟨a, b, _⟩ := lows_ok g o w (N + 1) i
    have q := lows_wd g wd o w (N + 1) i
    have cv := lows_back g wd o hB w (N + 1) N c (i + 1) hi
    have hw := wbit_01 w (N + 1 - 2 - i)
    have hm : N + 1 - 2 - i = N - (i + 1) := by omega
    have hst := div_step w (N - (i + 1))
    rw [show N - (i + 1) + 1 = N - i by omega] at hst
    rw [lows] at cv ⊢
    rw [e, show N - i = (N - (i + 1)) + 1 by omega, downs]
    rw [show N - (i + 1) + 1 = N - i by omega]
    by_cases hi0 : i = 0
    · rw [if_pos hi0] at cv ⊢
      rw [if_pos hi0]
      obtain ⟨k1, k2, k3⟩ := rel_bit R' a q b (k := 16 + min (N + 1 - 1) 15) (by omega) hw hB cv
      refine ⟨_, k3, ?_⟩
      rw [if_pos k1, k2, hm, ← hst]
    · rw [if_neg hi0] at cv ⊢
      rw [if_neg hi0]
      obtain ⟨k1, k2, k3⟩ := dec_step a st2048 q hw hB cv R'.dec
      refine ⟨(gst B z'.1 2048, z'.2), ⟨k3, R'.eq⟩, ?_⟩
      rw [if_pos k1, k2, hm, ← hst]
theorem bl_div {w : Nat} (hw : 0 < w) : w / 2 ^ (bl w - 1) = 1 := by
  have hb : bl w - 1 = w.log2 := by unfold bl; rw [if_neg (by omega)]; rfl
  rw [hb]
  have h1 := Nat.log2_self_le (n := w) (by omega)
  have h2 := Nat.lt_log2_self (n := w)
  rw [Nat.pow_succ] at h2
  exact Nat.div_eq_of_lt_le (by omega) (by omega)
theorem num_back {s : En × List Int} {z : De × List Int} {B : List Int} {w : Nat} (g : Gd s.1) (wd : Wd s.1) (o : SOk s.2) (hB : Bytes B) (hw : 0 < w) (hw2 : w ≤ 1048576) (c : Cov (numS s w).1 B) :
    Cov s.1 B ∧ Wd (numS s w).1 ∧ (Rel2 B s z → ∃ y, numD B z = .ok ((w : Int) - 1, y) ∧ Rel2 B (numS s w) y) := by
  have hb1 : 1 ≤ bl w := bl_pos hw
  have hb21 : bl w ≤ 21 := bl_le (by omega)
  obtain ⟨N, hN⟩ : ∃ N, bl w = N + 1 := ⟨bl w - 1, by omega⟩
  have hdiv := bl_div hw
  unfold numS at c ⊢
  rw [hN] at c ⊢ hdiv
  rw [show N + 1 - 1 = N by omega] at c ⊢ hdiv
  obtain ⟨a1, b1, _⟩ := ones_ok g o N
  have w1 := ones_wd g wd o N
  obtain ⟨a2, b2, _⟩ := bitS_ok a1 b1 (k := min N 15) (by omega) 0
  have w2 := bitS_wd a1 w1 b1 (k := min N 15) (by omega) 0
  have c2 := lows_back a2 w2 b2 hB w (N + 1) N c 0 (Nat.zero_le _)
  have c1 : Cov (ones s N).1 B := cov_back a1 (b1.at (k := min N 15) (by omega)) w1 hB c2
  refine ⟨ones_back g wd o hB N c1 0 (Nat.zero_le _), lows_wd a2 w2 b2 w (N + 1) N, fun R => ?_⟩
  obtain ⟨z1, R1, e1⟩ := ups_at g wd o hB R (by omega) c1 N (Nat.le_refl _)
  obtain ⟨k1, k2, k3⟩ := rel_bit R1 a1 w1 b1 (k := min N 15) (by omega) (.inl rfl) hB c2
  obtain ⟨z2, R2, e2⟩ := downs_at a2 w2 b2 hB k3 hdiv c N (Nat.le_refl _)
  refine ⟨z2, ?_, R2⟩
  rw [Nat.sub_self, downs, Nat.pow_zero, Nat.div_one] at e2
  unfold numD
  rw [e1, show 21 - N = (20 - N) + 1 by omega, ups, if_pos k1, if_pos k2]
  show endD (downs B (N + 1) (N + 1 - 1) 0 1 _) = _
  rw [show N + 1 - 1 = N by omega, e2, endD, if_neg (by omega)]
end Go.Proofs.Ytholkooikmbamaa.Ar
