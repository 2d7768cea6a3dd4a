/- What going on from a code answers, and the way between two codes: the program's and the reference's, in plain arithmetic.
   Conditions: a valid rate where said. -/
import Derived.Test.YtndbhfbgigefnaaMd
import Derived.Test.YtndbhfbgigefnaaBetween
import Derived.Test.YtndbhfbgigefnaaPAx30
import Derived.Test.YtndbhfbgigefnaaPAx28
namespace Go.Proofs.Ytndbhfbgigefnaa.Me
open Go.RowKit Go.Proofs.Ytndbhfbgigefnaa.PA Go.Proofs.Ytndbhfbgigefnaa.Ma Go.Proofs.Ytndbhfbgigefnaa.Mb Go.Proofs.Ytndbhfbgigefnaa.Mc Go.Proofs.Ytndbhfbgigefnaa.Md
set_option linter.unusedVariables false

theorem tmod_add {x d : Int} (hd : 0 < d) : Int.tmod (Int.tmod x d + d) d = x % d ∧ -d < Int.tmod x d ∧ Int.tmod x d < d := by
  have e := Int.mul_tdiv_add_tmod x d
  have b1 : -d < Int.tmod x d ∧ Int.tmod x d < d := by
    rcases Int.le_total 0 x with h | h
    · have := Int.tmod_nonneg d h; have := Int.tmod_lt_of_pos x hd; omega
    · have h1 : Int.tmod (-x) d = - Int.tmod x d := Int.neg_tmod _ _
      have := Int.tmod_nonneg d (show 0 ≤ -x by omega); have := Int.tmod_lt_of_pos (-x) hd; omega
  refine ⟨?_, b1⟩
  rw [Int.tmod_eq_emod_of_nonneg (by omega), Int.add_emod_right]
  conv => rhs; rw [← e]
  rw [Int.mul_add_emod_self_left]
theorem around_eq {F : Int} {D : Bool} (ho : ok F D = true) {x : Int} : code_steps_around.f F D x = some (x % (144 * ten F D)) := by
  have ht := ten_bd ho
  obtain ⟨q1, q2, q3⟩ := tmod_add (x := x) (d := 144 * ten F D) (by omega)
  unfold code_steps_around.f
  rw [day_eq ho]
  simp only [Option.bind_some]
  rw [if_neg (by omega), if_neg (by omega), w64 (by omega) (by omega), q1]
theorem modulo_eq {F : Int} {D : Bool} (ho : ok F D = true) {x : Int} : dioramaref20_modulo.f x (144 * ten F D) = some (x % (144 * ten F D)) := by
  have ht := ten_bd ho
  obtain ⟨q1, q2, q3⟩ := tmod_add (x := x) (d := 144 * ten F D) (by omega)
  unfold dioramaref20_modulo.f
  rw [if_neg (by omega), w64 (by omega) (by omega), q1]
/-- The number of a place. -/
def num (F : Int) (D : Bool) (T : Nat) (y : Int) : Int := pre (60 * F) (dv F D) T + (y - ms (dv F D) T)
/-- A place. -/
def Place (F : Int) (D : Bool) (T : Nat) (y : Int) : Prop := T < 1440 ∧ ms (dv F D) T ≤ y ∧ y < 60 * F
theorem num_range {F : Int} {D : Bool} (ho : ok F D = true) {T : Nat} {y : Int} (h : Place F D T y) : 0 ≤ num F D T y ∧ num F D T y < 144 * ten F D := num_bd ho h.1 h.2.1 h.2.2
theorem place_at {F : Int} {D : Bool} (ho : ok F D = true) (x : Int) : ∃ T y, Place F D T y ∧ x % (144 * ten F D) = num F D T y := by
  have ht := ten_bd ho
  have h0 : 0 ≤ x % (144 * ten F D) := Int.emod_nonneg _ (by omega)
  have h1 : x % (144 * ten F D) < 144 * ten F D := Int.emod_lt_of_pos _ (by omega)
  obtain ⟨T, y, hT, e, hm, hy⟩ := find (c := 60 * F) (d := dv F D) h0 (by unfold ten at *; omega)
  exact ⟨T, y, ⟨hT, hm, hy⟩, e⟩
theorem place_inj {F : Int} {D : Bool} (ho : ok F D = true) {T U : Nat} {y z : Int} (h : Place F D T y) (g : Place F D U z) (e : num F D T y = num F D U z) : T = U ∧ y = z := by
  have a := num_lt ho h.2.1 h.2.2 g.2.1 g.2.2
  have b := num_lt ho g.2.1 g.2.2 h.2.1 h.2.2
  unfold num at e
  omega
/-- The error of a code that is to go on by n. -/
theorem Add_err (F : Int) (D : Bool) (h m s f n : Int) (k : Nat) (he : err F D h m s f ≠ 0) : code_Add.f (k + 1) F D h m s f n = some (0, 0, 0, 0, err F D h m s f) := by
  unfold code_Add.f
  rw [checked_eq]
  show (if err F D h m s f = 0 then _ else _) = _
  rw [if_neg he]; rfl
theorem Add_far {F : Int} {D : Bool} {h m s f n : Int} (k : Nat) (he : err F D h m s f = 0) (hn : ¬ (-1099511627776 ≤ n ∧ n ≤ 1099511627776)) : code_Add.f (k + 1) F D h m s f n = some (0, 0, 0, 0, 1) := by
  unfold code_Add.f
  rw [checked_eq]
  show (if err F D h m s f = 0 then _ else _) = _
  rw [if_pos he, within_eq]
  simp only [Option.bind_some]
  rw [if_neg (by simpa using hn)]
theorem Add_good {F : Int} {D : Bool} (ho : ok F D = true) {T U : Nat} {y z : Int} (hp : Place F D T y) (hq : Place F D U z) {n : Int} (hn : -1099511627776 ≤ n ∧ n ≤ 1099511627776) (e : (num F D T y + n) % (144 * ten F D) = num F D U z) (k : Nat) :
    code_Add.f (k + 1) F D (cod F T y).1 (cod F T y).2.1 (cod F T y).2.2.1 (cod F T y).2.2.2 n = some ((cod F U z).1, (cod F U z).2.1, (cod F U z).2.2.1, (cod F U z).2.2.2, 0) := by
  have ht := ten_bd ho
  have hb := num_range ho hp
  unfold code_Add.f
  rw [checked_eq, if_pos ho, place_right ho hp.1 hp.2.1 hp.2.2]
  simp only [Option.bind_some, if_true]
  rw [within_eq]
  simp only [Option.bind_some]
  rw [if_pos (by simpa using hn), count_eq ho hp.1 hp.2.1 hp.2.2]
  simp only [Option.bind_some]
  show Option.bind (code_steps_around.f F D (wrap64 (num F D T y + n))) _ = _
  rw [w64 (by omega) (by omega), around_eq ho, e]
  simp only [Option.bind_some]
  rw [num, code_eq ho hq.1 hq.2.1 hq.2.2]
  rfl
/-- What is known of a rate and a code: an error, or a place. -/
theorem code_cases (F : Int) (D : Bool) (h m s f : Int) : err F D h m s f ≠ 0 ∨ (ok F D = true ∧ err F D h m s f = 0 ∧ ∃ T y, Place F D T y ∧ (h, m, s, f) = cod F T y) := by
  by_cases he : err F D h m s f = 0
  · have ho : ok F D = true := by
      unfold err at he
      split at he
      · assumption
      · omega
    have hr : right F D h m s f = 0 := by unfold err at he; rw [if_pos ho] at he; exact he
    obtain ⟨T, y, hT, hm, hy, e⟩ := right_place ho hr
    exact .inr ⟨ho, he, T, y, ⟨hT, hm, hy⟩, e⟩
  · exact .inl he
theorem err_place {F : Int} {D : Bool} (ho : ok F D = true) {T : Nat} {y : Int} (h : Place F D T y) : err F D (cod F T y).1 (cod F T y).2.1 (cod F T y).2.2.1 (cod F T y).2.2.2 = 0 := by
  unfold err; rw [if_pos ho]; exact place_right ho h.1 h.2.1 h.2.2
theorem rAdd_eq (F : Int) (D : Bool) (h m s f n : Int) {k : Nat} (hk : 64 ≤ k) : dioramaref20_Add.f k F D h m s f n = code_Add.f k F D h m s f n := by
  obtain ⟨k, rfl⟩ : ∃ j, k = j + 1 := ⟨k - 1, by omega⟩
  unfold dioramaref20_Add.f
  rw [rCount_eq F D h m s f hk]
  rcases code_cases F D h m s f with he | ⟨ho, he, T, y, hp, e⟩
  · rw [Count_bad rfl he, Add_err F D h m s f n k he]
    show (if err F D h m s f = 0 then _ else _) = _
    rw [if_neg he]; rfl
  · have hG := Count_good ho hp.1 hp.2.1 hp.2.2 k
    simp only [cod, Prod.mk.injEq] at e
    obtain ⟨rfl, rfl, rfl, rfl⟩ := e
    have hG' : code_Count.f (k + 1) F D ((T / 60 : Nat) : Int) ((T % 60 : Nat) : Int) (y / F) (y % F) = _ := hG
    rw [hG']
    simp only [Option.bind_some, if_true]
    rw [in_eq]
    simp only [Option.bind_some]
    by_cases hn : -1099511627776 ≤ n ∧ n ≤ 1099511627776
    · have ht := ten_bd ho
      have hb := num_range ho hp
      obtain ⟨U, z, hq, e⟩ := place_at ho (num F D T y + n)
      have hA := Add_good ho hp hq hn e k
      rw [if_pos (by simpa using hn), rDay_eq F D (by omega), if_pos ho]
      simp only [Option.bind_some]
      have hw : wrap64 (pre (60 * F) (dv F D) T + (y - ms (dv F D) T) + n) = num F D T y + n := w64 (by unfold num at hb; omega) (by unfold num at hb; omega)
      rw [hw, modulo_eq ho, e]
      simp only [Option.bind_some]
      rw [num, rCode_good ho hq.1 hq.2.1 hq.2.2 (by omega)]
      exact hA.symm
    · rw [if_neg (by simpa using hn)]
      exact (Add_far k he hn).symm
/-! ### Between -/
theorem Between_good {F : Int} {D : Bool} (ho : ok F D = true) {T U : Nat} {y z : Int} (hp : Place F D T y) (hq : Place F D U z) (k : Nat) :
    code_Between.f (k + 1) F D (cod F T y).1 (cod F T y).2.1 (cod F T y).2.2.1 (cod F T y).2.2.2 (cod F U z).1 (cod F U z).2.1 (cod F U z).2.2.1 (cod F U z).2.2.2 = some ((num F D U z - num F D T y) % (144 * ten F D), 0) := by
  have hb := num_range ho hp
  have hb' := num_range ho hq
  have ht := ten_bd ho
  unfold code_Between.f
  rw [checked_eq, if_pos ho, place_right ho hp.1 hp.2.1 hp.2.2, checked_eq, if_pos ho, place_right ho hq.1 hq.2.1 hq.2.2, count_eq ho hp.1 hp.2.1 hp.2.2, count_eq ho hq.1 hq.2.1 hq.2.2]
  simp only [Option.bind_some, if_true]
  show Option.bind (code_steps_around.f F D (wrap64 (num F D U z - num F D T y))) _ = _
  rw [w64 (by omega) (by omega), around_eq ho]
  rfl
theorem Between_err1 {F : Int} {D : Bool} {h m s f h' m' s' f' : Int} (k : Nat) (he : err F D h m s f ≠ 0) : code_Between.f (k + 1) F D h m s f h' m' s' f' = some (0, err F D h m s f) := by
  unfold code_Between.f
  rw [checked_eq]
  show (if err F D h m s f = 0 then _ else _) = _
  rw [if_neg he]; rfl
theorem Between_err2 {F : Int} {D : Bool} {h m s f h' m' s' f' : Int} (k : Nat) (he : err F D h m s f = 0) (he' : err F D h' m' s' f' ≠ 0) : code_Between.f (k + 1) F D h m s f h' m' s' f' = some (0, err F D h' m' s' f') := by
  unfold code_Between.f
  rw [checked_eq, checked_eq]
  show (if err F D h m s f = 0 then (if err F D h' m' s' f' = 0 then _ else _) else _) = _
  rw [if_pos he, if_neg he']; rfl
theorem rBetween_eq (F : Int) (D : Bool) (h m s f h' m' s' f' : Int) {k : Nat} (hk : 64 ≤ k) : dioramaref20_Between.f k F D h m s f h' m' s' f' = code_Between.f k F D h m s f h' m' s' f' := by
  obtain ⟨k, rfl⟩ : ∃ j, k = j + 1 := ⟨k - 1, by omega⟩
  unfold dioramaref20_Between.f
  rw [rCount_eq F D h m s f hk, rCount_eq F D h' m' s' f' hk]
  rcases code_cases F D h m s f with he | ⟨ho, he, T, y, hp, e⟩
  · rw [Count_bad rfl he, Between_err1 k he]
    show (if err F D h m s f = 0 then _ else _) = _
    rw [if_neg he]; rfl
  · have hG := Count_good ho hp.1 hp.2.1 hp.2.2 k
    rw [← e] at hG
    have hG' : code_Count.f (k + 1) F D h m s f = some (pre (60 * F) (dv F D) T + (y - ms (dv F D) T), 0) := hG
    rw [hG']
    simp only [Option.bind_some, if_true]
    rcases code_cases F D h' m' s' f' with he' | ⟨_, he', U, z, hq, e'⟩
    · rw [Count_bad rfl he', Between_err2 k he he']
      show (if err F D h' m' s' f' = 0 then _ else _) = _
      rw [if_neg he']; rfl
    · have ht := ten_bd ho
      have hb := num_range ho hp
      have hb' := num_range ho hq
      have hH := Count_good ho hq.1 hq.2.1 hq.2.2 k
      rw [← e'] at hH
      have hH' : code_Count.f (k + 1) F D h' m' s' f' = some (pre (60 * F) (dv F D) U + (z - ms (dv F D) U), 0) := hH
      have hB := Between_good ho hp hq k
      rw [← e, ← e'] at hB
      have hB' : code_Between.f (k + 1) F D h m s f h' m' s' f' = _ := hB
      rw [hH', hB', rDay_eq F D (by omega), if_pos ho]
      simp only [Option.bind_some, if_true]
      show Option.bind (dioramaref20_modulo.f (wrap64 (num F D U z - num F D T y)) (144 * ten F D)) _ = _
      rw [w64 (by omega) (by omega), modulo_eq ho]
      rfl
theorem Between_some (F : Int) (D : Bool) (h m s f h' m' s' f' : Int) (k : Nat) : ∃ n e, code_Between.f (k + 1) F D h m s f h' m' s' f' = some (n, e) := by
  rcases code_cases F D h m s f with he | ⟨ho, he, T, y, hp, e⟩
  · exact ⟨_, _, Between_err1 k he⟩
  · rcases code_cases F D h' m' s' f' with he' | ⟨_, he', U, z, hq, e'⟩
    · exact ⟨_, _, Between_err2 k he he'⟩
    · have hB := Between_good ho hp hq k
      rw [← e, ← e'] at hB
      exact ⟨_, _, hB⟩
theorem Add_some (F : Int) (D : Bool) (h m s f n : Int) (k : Nat) : ∃ a b c d e, code_Add.f (k + 1) F D h m s f n = some (a, b, c, d, e) := by
  rcases code_cases F D h m s f with he | ⟨ho, he, T, y, hp, e⟩
  · exact ⟨_, _, _, _, _, Add_err F D h m s f n k he⟩
  · by_cases hn : -1099511627776 ≤ n ∧ n ≤ 1099511627776
    · obtain ⟨U, z, hq, e'⟩ := place_at ho (num F D T y + n)
      have hA := Add_good ho hp hq hn e' k
      rw [← e] at hA
      exact ⟨_, _, _, _, _, hA⟩
    · exact ⟨_, _, _, _, _, Add_far k he hn⟩
end Go.Proofs.Ytndbhfbgigefnaa.Me
