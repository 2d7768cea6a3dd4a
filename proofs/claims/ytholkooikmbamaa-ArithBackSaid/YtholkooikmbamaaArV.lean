/- A history of calls: what was written is read back. Plain theorems.
   Conditions: none. -/
import Derived.Test.YtholkooikmbamaaArU
import Derived.Test.YtholkooikmbamaaArK
import Derived.Test.YtholkooikmbamaaArM
namespace Go.Proofs.Ytholkooikmbamaa.Ar
open Go Go.RowKit Go.Proofs.Ytholkooikmbamaa.Am Go.Proofs.Ytholkooikmbamaa.Af
set_option linter.unusedVariables false
set_option linter.unusedSimpArgs false
set_option maxRecDepth 20000

theorem numS_wd {s : En × List Int} (g : Gd s.1) (wd : Wd s.1) (o : SOk s.2) (w : Nat) : Wd (numS s w).1 := by
  obtain ⟨a1, b1, _⟩ := ones_ok g o (bl w - 1)
  have w1 := ones_wd g wd o (bl w - 1)
  obtain ⟨a2, b2, _⟩ := bitS_ok a1 b1 (k := min (bl w - 1) 15) (by omega) 0
  exact lows_wd a2 (bitS_wd a1 w1 b1 (k := min (bl w - 1) 15) (by omega) 0) b2 w (bl w) (bl w - 1)
theorem numE_wd {e : En} (g : Gd e) (wd : Wd e) (l : List Int) (v : Int) : Wd (numE e l v) := by
  unfold numE
  split
  · rename_i h
    obtain ⟨so, _⟩ := numI_0 h
    exact numS_wd (s := (e, l)) g wd so _
  · exact wd
theorem opE_wd {e : En} (g : Gd e) (wd : Wd e) (d : Int) (l : List Int) (v : Int) : Wd (opE e d l v) := by
  unfold opE
  split
  · unfold bitE
    split
    · rename_i h; exact put_wd g h.1 wd
    · exact wd
  · split
    · exact numE_wd g wd _ _
    · exact numE_wd g wd _ _
theorem opE_gd {e : En} (g : Gd e) (d : Int) (l : List Int) (v : Int) : Gd (opE e d l v) ∧ (opE e d l v).n ≤ e.n + 42 := by
  unfold opE
  split
  · exact ⟨bitE_gd g _ _, by have := (bitE_n e (l.getD 0 0) v).1; omega⟩
  · split
    · exact numE_gd g _ _
    · exact numE_gd g _ _
/-- One call, back. -/
theorem num_op_back {e : En} {l : List Int} {v : Int} {B : List Int} (g : Gd e) (wd : Wd e) (hB : Bytes B) (h : numI e l v = 0) (c : Cov (numE e l v) B) :
    Cov e B ∧ ∀ s, Dec e s B → ∃ y, numR B s l = .ok (v, y) ∧ Dec (numE e l v) y.1 B ∧ y.2 = numL e l v := by
  obtain ⟨so, h0, h1, _⟩ := numI_0 h
  rw [numE, if_pos h] at c ⊢
  rw [numL, if_pos h]
  refine ⟨(num_back (s := (e, l)) (z := (newD [], l)) g wd so hB (w := (v + 1).toNat) (by omega) (by omega) c).1, fun s hd => ?_⟩
  obtain ⟨y, hy, R⟩ := (num_back (s := (e, l)) (z := (s, l)) g wd so hB (w := (v + 1).toNat) (by omega) (by omega) c).2.2 ⟨hd, rfl⟩
  refine ⟨y, ?_, R.dec, R.eq⟩
  rw [numR, if_pos (goodB_iff.2 so), hy]
  congr 2
  omega
theorem op_back {e : En} {d : Int} {l : List Int} {v : Int} {B : List Int} (g : Gd e) (wd : Wd e) (hB : Bytes B) (h : opI e d l v = 0) (c : Cov (opE e d l v) B) :
    Cov e B ∧ ∀ s, Dec e s B → ∃ s', readF B s d l = (v, 0, opL e d l v, s') ∧ Dec (opE e d l v) s' B := by
  unfold opI at h
  unfold opE at c ⊢
  unfold opL readF
  by_cases h0 : d = 0
  · rw [if_pos h0] at h c ⊢
    simp only [if_pos h0]
    generalize l.getD 0 0 = p at h c
    unfold bitI at h
    unfold bitE at c ⊢
    unfold bitI
    by_cases hp : St p
    case neg => rw [if_neg hp] at h; cases h
    rw [if_pos hp] at h
    by_cases hb : v = 0 ∨ v = 1
    case neg => rw [if_neg hb] at h; cases h
    rw [if_pos hb] at h
    by_cases hn : 1048576 < e.n
    case pos => rw [if_pos hn] at h; cases h
    have hc : St p ∧ (v = 0 ∨ v = 1) ∧ ¬ 1048576 < e.n := ⟨hp, hb, hn⟩
    rw [if_pos hc] at c ⊢
    refine ⟨cov_back g hp wd hB c, fun s hd => ?_⟩
    obtain ⟨k1, k2, k3⟩ := dec_step g hp wd hb hB c hd
    refine ⟨gst B s p, ?_, k3⟩
    simp only [dbitB, dbitI, dbitN, dbitS, if_pos hp, if_pos hb, if_neg hn, k1, k2, and_true, if_true]
  · rw [if_neg h0] at h c ⊢
    simp only [if_neg h0]
    by_cases h1 : d = 1
    · rw [if_pos h1] at h c ⊢
      simp only [if_pos h1]
      obtain ⟨q1, q2⟩ := num_op_back g wd hB h c
      refine ⟨q1, fun s hd => ?_⟩
      obtain ⟨y, y1, y2, y3⟩ := q2 s hd
      exact ⟨y.1, by rw [y1, ofR, y3], y2⟩
    · rw [if_neg h1] at h c ⊢
      simp only [if_neg h1]
      obtain ⟨q1, q2⟩ := num_op_back g wd hB h c
      refine ⟨q1, fun s hd => ?_⟩
      obtain ⟨y, y1, y2, y3⟩ := q2 s hd
      have hf := (numI_0 h).2.1
      have hu : unfI (foldI v) = v := by
        unfold foldI at hf ⊢
        unfold unfI
        split
        · rw [if_neg (by omega)]; omega
        · rename_i hc
          rw [if_neg hc] at hf
          split
          · rw [if_pos (by omega)]; omega
          · rename_i hc2
            rw [if_neg hc2] at hf
            omega
      exact ⟨y.1, by rw [y1, sgnR, ofR, y3, hu], y2⟩
/-! ### histories -/
structure Hs where
  e : En
  bs : List Int
  ns : List (List Int)
abbrev Op4 := Int × Int × Int × List Int
def Hs.S (s : Hs) (o : Op4) : List Int := poolL s.bs s.ns o.1 o.2.1 o.2.2.2
def Hs.I (s : Hs) (o : Op4) : Int := opI s.e o.1 (s.S o) o.2.2.1
def Hs.L (s : Hs) (o : Op4) : List Int := opL s.e o.1 (s.S o) o.2.2.1
def Hs.stp (s : Hs) (o : Op4) : Hs := ⟨opE s.e o.1 (s.S o) o.2.2.1, if decide (o.2.2.2 = []) = true ∧ o.1 = 0 then s.bs.set (wit o.2.1) ((s.L o).getD 0 0) else s.bs, if decide (o.2.2.2 = []) = true ∧ ¬ o.1 = 0 then s.ns.set (wit o.2.1) (s.L o) else s.ns⟩
def hs0 : Hs := ⟨new, List.replicate 4 2048, List.replicate 4 (List.replicate 32 2048)⟩
def run (l : List Op4) : Hs := l.foldl Hs.stp hs0
theorem run_snoc (l : List Op4) (o : Op4) : run (l ++ [o]) = (run l).stp o := by simp [run, List.foldl_append]
def GoodH (l : List Op4) : Prop := ∀ (j : Nat) (x : Op4), l[j]? = some x → (run (l.take j)).I x = 0
theorem good_nil : GoodH [] := fun j x h => by simp at h
theorem good_snoc {l : List Op4} {o : Op4} (h : GoodH l) (h0 : (run l).I o = 0) : GoodH (l ++ [o]) := by
  intro j x hx
  rcases Nat.lt_trichotomy j l.length with h1 | h1 | h1
  · rw [List.getElem?_append_left h1] at hx
    rw [List.take_append_of_le_length (by omega)]
    exact h j x hx
  · rw [List.getElem?_append_right (by omega), h1, Nat.sub_self] at hx
    cases hx
    rw [List.take_append_of_le_length (by omega), List.take_of_length_le (by omega)]
    exact h0
  · rw [List.getElem?_eq_none (by simp; omega)] at hx
    cases hx
theorem run_take {l : List Op4} {j : Nat} {x : Op4} (h : l[j]? = some x) : run (l.take (j + 1)) = (run (l.take j)).stp x := by
  rw [List.take_add_one, h, Option.toList_some, run_snoc]
theorem run_gd (l : List Op4) : ∀ j, Gd (run (l.take j)).e ∧ Wd (run (l.take j)).e
  | 0 => ⟨new_gd, new_wd⟩
  | j + 1 => by
    obtain ⟨a, b⟩ := run_gd l j
    cases h : l[j]? with
    | none => rw [List.take_add_one, h, Option.toList_none, List.append_nil]; exact ⟨a, b⟩
    | some x =>
      rw [run_take h]
      exact ⟨(opE_gd a _ _ _).1, opE_wd a b _ _ _⟩
theorem run_cov {l : List Op4} {B : List Int} (hB : Bytes B) (g : GoodH l) (c : Cov (run l).e B) : ∀ k, k ≤ l.length → Cov (run (l.take (l.length - k))).e B
  | 0, _ => by rw [Nat.sub_zero, List.take_of_length_le (Nat.le_refl _)]; exact c
  | k + 1, hk => by
    have c' := run_cov hB g c k (by omega)
    obtain ⟨x, hx⟩ : ∃ x, l[l.length - (k + 1)]? = some x := ⟨_, List.getElem?_eq_getElem (by omega)⟩
    obtain ⟨a, b⟩ := run_gd l (l.length - (k + 1))
    rw [show l.length - k = (l.length - (k + 1)) + 1 by omega, run_take hx] at c'
    exact (op_back a b hB (g _ _ hx) c').1
theorem run_dec {l : List Op4} {B : List Int} (hB : Bytes B) (g : GoodH l) (c : Cov (run l).e B) {j : Nat} {x : Op4} (hx : l[j]? = some x) {s : De} (hd : Dec (run (l.take j)).e s B) :
    ∃ s', readF B s x.1 ((run (l.take j)).S x) = (x.2.2.1, 0, (run (l.take j)).L x, s') ∧ Dec (run (l.take (j + 1))).e s' B := by
  have hj := (List.getElem?_eq_some_iff.1 hx).1
  have c' := run_cov hB g c (l.length - (j + 1)) (by omega)
  rw [show l.length - (l.length - (j + 1)) = j + 1 by omega, run_take hx] at c'
  obtain ⟨a, b⟩ := run_gd l j
  obtain ⟨s', h1, h2⟩ := (op_back a b hB (g _ _ hx) c').2 s hd
  exact ⟨s', h1, by rw [run_take hx]; exact h2⟩
end Go.Proofs.Ytholkooikmbamaa.Ar
