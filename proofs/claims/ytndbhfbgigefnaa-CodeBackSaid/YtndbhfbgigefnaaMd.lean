/- The text of a time code: what Format answers, its bytes, and that texts are ordered as the numbers are.
   Conditions: a valid rate where said. -/
import Derived.Test.YtndbhfbgigefnaaMc
import Derived.Laws.Strings
import Derived.Laws.BytesArg
namespace Go.Proofs.Ytndbhfbgigefnaa.Md
open Go.RowKit Go.Proofs.Ytndbhfbgigefnaa.PA Go.Proofs.Ytndbhfbgigefnaa.Ma Go.Proofs.Ytndbhfbgigefnaa.Mb Go.Proofs.Ytndbhfbgigefnaa.Mc
set_option linter.unusedVariables false
set_option linter.unusedSimpArgs false

/-- Two digits. -/
def two (x : Int) : ByteArray := strOfNums (([(wrap64 (48 + (wrap64 (Int.tdiv x 10)))) % 256, (wrap64 (48 + (Int.tmod x 10))) % 256] : List Int))
theorem two_size (x : Int) : (two x).size = 2 := strOfNums_size _
/-- What stands ahead of the frames. -/
def mk (D : Bool) : ByteArray := if D = true then ⟨#[59]⟩ else ⟨#[58]⟩
theorem mk_size (D : Bool) : (mk D).size = 1 := by cases D <;> rfl
theorem colon_size : (⟨#[58]⟩ : ByteArray).size = 1 := rfl
/-- The text of a code. -/
def txt (D : Bool) (h m s f : Int) : ByteArray := (((((two h ++ (⟨#[58]⟩ : ByteArray)) ++ two m) ++ (⟨#[58]⟩ : ByteArray)) ++ two s) ++ mk D) ++ two f
/-- The error of a rate and a code. -/
def err (F : Int) (D : Bool) (h m s f : Int) : Int := if ok F D = true then right F D h m s f else 1
theorem mark_eq (F : Int) (D : Bool) : code_mark.f F D = some (mk D) := by unfold code_mark.f mk; split <;> rfl
theorem Format_eq (F : Int) (D : Bool) (h m s f : Int) (k : Nat) : code_Format.f (k + 1) F D h m s f = some (if err F D h m s f = 0 then (txt D h m s f, 0) else ((⟨#[]⟩ : ByteArray), err F D h m s f)) := by
  unfold code_Format.f
  rw [checked_eq]
  show (if err F D h m s f = 0 then _ else _) = _
  by_cases he : err F D h m s f = 0
  · rw [if_pos he, if_pos he]
    have t : ∀ x, code_two.f x = some (two x) := fun _ => rfl
    rw [t, mark_eq]
    simp only [Option.bind_some]
    rw [if_pos (by rw [two_size]; omega), t]
    simp only [Option.bind_some, ByteArray.size_append, two_size, mk_size, colon_size]
    rw [if_pos (by omega), if_pos (by omega), t]
    simp only [Option.bind_some, ByteArray.size_append, two_size, mk_size, colon_size]
    rw [if_pos (by omega), if_pos (by omega), t]
    simp only [Option.bind_some, ByteArray.size_append, two_size, mk_size, colon_size]
    rw [if_pos (by omega)]
    rfl
  · rw [if_neg he, if_neg he]; rfl
theorem rFormat_eq (F : Int) (D : Bool) (h m s f : Int) {k : Nat} (hk : 64 ≤ k) : dioramaref20_Format.f k F D h m s f = code_Format.f k F D h m s f := by
  obtain ⟨k, rfl⟩ : ∃ j, k = j + 1 := ⟨k - 1, by omega⟩
  unfold dioramaref20_Format.f code_Format.f
  rw [rCount_eq F D h m s f hk, checked_eq]
  unfold code_Count.f
  rw [checked_eq]
  simp only [Option.bind_some]
  show Option.bind (if err F D h m s f = 0 then _ else _) _ = (if err F D h m s f = 0 then _ else _)
  by_cases he : err F D h m s f = 0
  · have ho : ok F D = true := by
      unfold err at he
      split at he
      · assumption
      · omega
    have hr : right F D h m s f = 0 := by unfold err at he; rw [if_pos ho] at he; exact he
    obtain ⟨T, y, hT, hm, hy, e⟩ := right_place ho hr
    have hc := count_eq ho hT hm hy
    rw [← e] at hc
    simp only [] at hc
    rw [if_pos he, if_pos he, hc]
    rfl
  · rw [if_neg he, if_neg he]
    show (if err F D h m s f = 0 then _ else _) = _
    rw [if_neg he]
theorem Count_some (F : Int) (D : Bool) (h m s f : Int) (k : Nat) : ∃ n e, code_Count.f (k + 1) F D h m s f = some (n, e) := by
  by_cases he : err F D h m s f = 0
  · have ho : ok F D = true := by
      unfold err at he
      split at he
      · assumption
      · omega
    have hr : right F D h m s f = 0 := by unfold err at he; rw [if_pos ho] at he; exact he
    obtain ⟨T, y, hT, hm, hy, e⟩ := right_place ho hr
    have hc := Count_good ho hT hm hy k
    rw [← e] at hc
    exact ⟨_, _, hc⟩
  · exact ⟨_, _, Count_bad rfl he k⟩
/-! ### its bytes -/
theorem two_list {x : Int} (h0 : 0 ≤ x) (h1 : x < 100) : (two x).data.toList = [UInt8.ofNat (48 + x.toNat / 10), UInt8.ofNat (48 + x.toNat % 10)] := by
  unfold two
  rw [Int.tdiv_eq_ediv_of_nonneg h0, Int.tmod_eq_emod_of_nonneg h0, w64 (x := x / 10) (by omega) (by omega), w64 (by omega) (by omega), w64 (by omega) (by omega), strOfNums_data]
  simp only [List.map_cons, List.map_nil]
  congr 2
  · omega
  · congr 2; omega
theorem mk_list (D : Bool) : (mk D).data.toList = [if D = true then 59 else 58] := by cases D <;> rfl
theorem app_list (a b : ByteArray) : (a ++ b).data.toList = a.data.toList ++ b.data.toList := by simp
theorem less_app : ∀ (a b : List UInt8) (c d : List UInt8), a.length = b.length → Op.bytesLess (a ++ c) (b ++ d) = (Op.bytesLess a b || (a == b && Op.bytesLess c d))
  | [], [], c, d, _ => by simp [Op.bytesLess]
  | x :: a, y :: b, c, d, h => by
    have ih := less_app a b c d (by simpa using h)
    simp only [List.cons_append, Op.bytesLess, ih]
    by_cases e : x = y
    · subst e; simp
    · have : (x == y) = false := by simpa using e
      simp [this]
theorem u8_lt (a b : Nat) (ha : a < 256) (hb : b < 256) : (UInt8.ofNat a < UInt8.ofNat b) ↔ a < b := by
  rw [UInt8.lt_iff_toNat_lt]; simp [Nat.mod_eq_of_lt ha, Nat.mod_eq_of_lt hb]
theorem u8_eq (a b : Nat) (ha : a < 256) (hb : b < 256) : (UInt8.ofNat a = UInt8.ofNat b) ↔ a = b := by
  rw [← UInt8.toNat_inj]; simp [Nat.mod_eq_of_lt ha, Nat.mod_eq_of_lt hb]
theorem two_eq {x y : Int} (h0 : 0 ≤ x) (h1 : x < 100) (g0 : 0 ≤ y) (g1 : y < 100) : ((two x).data.toList == (two y).data.toList) = decide (x = y) := by
  rw [two_list h0 h1, two_list g0 g1, Bool.eq_iff_iff]
  simp only [beq_iff_eq, decide_eq_true_eq, List.cons.injEq, and_true]
  rw [u8_eq _ _ (by omega) (by omega), u8_eq _ _ (by omega) (by omega)]
  omega
theorem two_less {x y : Int} (h0 : 0 ≤ x) (h1 : x < 100) (g0 : 0 ≤ y) (g1 : y < 100) : Op.bytesLess (two x).data.toList (two y).data.toList = decide (x < y) := by
  rw [two_list h0 h1, two_list g0 g1, Bool.eq_iff_iff]
  simp only [Op.bytesLess, Bool.or_eq_true, Bool.and_eq_true, decide_eq_true_eq, beq_iff_eq, Bool.or_false, Bool.and_false, Bool.false_eq_true]
  rw [u8_lt _ _ (by omega) (by omega), u8_lt _ _ (by omega) (by omega), u8_eq _ _ (by omega) (by omega)]
  omega
theorem txt_list (D : Bool) (h m s f : Int) : (txt D h m s f).toList = (two h).data.toList ++ ([58] ++ ((two m).data.toList ++ ([58] ++ ((two s).data.toList ++ ((mk D).data.toList ++ (two f).data.toList))))) := by
  unfold txt
  rw [ByteArray.toList_eq]
  simp only [app_list, List.append_assoc]
theorem len2 (x : Int) : (two x).data.toList.length = 2 := two_size x
theorem less_same (a : List UInt8) : Op.bytesLess a a = false := by
  induction a with
  | nil => rfl
  | cons x a ih => simp [Op.bytesLess, ih]
theorem eq_app (a b c d : List UInt8) (h : a.length = b.length) : ((a ++ c) == (b ++ d)) = (a == b && c == d) := by
  rw [Bool.eq_iff_iff]
  simp only [beq_iff_eq, Bool.and_eq_true]
  exact ⟨fun e => List.append_inj e h, fun ⟨e1, e2⟩ => by rw [e1, e2]⟩
theorem txt_less (D : Bool) {h m s f h' m' s' f' : Int} (a1 : 0 ≤ h ∧ h < 100) (a2 : 0 ≤ m ∧ m < 100) (a3 : 0 ≤ s ∧ s < 100) (a4 : 0 ≤ f ∧ f < 100) (b1 : 0 ≤ h' ∧ h' < 100) (b2 : 0 ≤ m' ∧ m' < 100) (b3 : 0 ≤ s' ∧ s' < 100) (b4 : 0 ≤ f' ∧ f' < 100) :
    Op.bytesLess (txt D h m s f).toList (txt D h' m' s' f').toList = decide (h < h' ∨ (h = h' ∧ (m < m' ∨ (m = m' ∧ (s < s' ∨ (s = s' ∧ f < f')))))) := by
  rw [txt_list, txt_list, less_app _ _ _ _ (by rw [len2, len2]), less_app _ _ _ _ rfl, less_app _ _ _ _ (by rw [len2, len2]), less_app _ _ _ _ rfl, less_app _ _ _ _ (by rw [len2, len2]), less_app _ _ _ _ rfl, two_less a1.1 a1.2 b1.1 b1.2, two_less a2.1 a2.2 b2.1 b2.2, two_less a3.1 a3.2 b3.1 b3.2, two_less a4.1 a4.2 b4.1 b4.2, two_eq a1.1 a1.2 b1.1 b1.2, two_eq a2.1 a2.2 b2.1 b2.2, two_eq a3.1 a3.2 b3.1 b3.2, less_same, less_same, Bool.eq_iff_iff]
  simp
theorem txt_eq (D : Bool) {h m s f h' m' s' f' : Int} (a1 : 0 ≤ h ∧ h < 100) (a2 : 0 ≤ m ∧ m < 100) (a3 : 0 ≤ s ∧ s < 100) (a4 : 0 ≤ f ∧ f < 100) (b1 : 0 ≤ h' ∧ h' < 100) (b2 : 0 ≤ m' ∧ m' < 100) (b3 : 0 ≤ s' ∧ s' < 100) (b4 : 0 ≤ f' ∧ f' < 100) :
    ((txt D h m s f).toList == (txt D h' m' s' f').toList) = decide (h = h' ∧ m = m' ∧ s = s' ∧ f = f') := by
  rw [txt_list, txt_list, eq_app _ _ _ _ (by rw [len2, len2]), eq_app _ _ _ _ rfl, eq_app _ _ _ _ (by rw [len2, len2]), eq_app _ _ _ _ rfl, eq_app _ _ _ _ (by rw [len2, len2]), eq_app _ _ _ _ rfl, two_eq a1.1 a1.2 b1.1 b1.2, two_eq a2.1 a2.2 b2.1 b2.2, two_eq a3.1 a3.2 b3.1 b3.2, two_eq a4.1 a4.2 b4.1 b4.2, Bool.eq_iff_iff]
  simp
/-- Places are ordered as their numbers. -/
theorem num_lt {F : Int} {D : Bool} (ho : ok F D = true) {T U : Nat} {y z : Int} (hm : ms (dv F D) T ≤ y) (hy : y < 60 * F) (hm' : ms (dv F D) U ≤ z) (hz : z < 60 * F) :
    (pre (60 * F) (dv F D) T + (y - ms (dv F D) T) < pre (60 * F) (dv F D) U + (z - ms (dv F D) U)) ↔ (T < U ∨ (T = U ∧ y < z)) := by
  obtain ⟨h1, h2, h3⟩ := ok_iff.1 ho
  have hd := dv_bd ho
  have eT : pre (60 * F) (dv F D) (T + 1) = pre (60 * F) (dv F D) T + (60 * F - ms (dv F D) T) := rfl
  have eU : pre (60 * F) (dv F D) (U + 1) = pre (60 * F) (dv F D) U + (60 * F - ms (dv F D) U) := rfl
  rcases Nat.lt_trichotomy T U with c | c | c
  · have := pre_mono (c := 60 * F) (d := dv F D) hd.1 (by omega) (T + 1) U c
    omega
  · subst c; omega
  · have := pre_mono (c := 60 * F) (d := dv F D) hd.1 (by omega) (U + 1) T c
    omega
theorem y_lt {F : Int} (h1 : 1 ≤ F) {y z : Int} : y < z ↔ (y / F < z / F ∨ (y / F = z / F ∧ y % F < z % F)) := by
  have ey := Int.mul_ediv_add_emod y F
  have ez := Int.mul_ediv_add_emod z F
  have a0 := Int.emod_nonneg y (show F ≠ 0 by omega)
  have a1 := Int.emod_lt_of_pos y (show 0 < F by omega)
  have b0 := Int.emod_nonneg z (show F ≠ 0 by omega)
  have b1 := Int.emod_lt_of_pos z (show 0 < F by omega)
  rcases Int.lt_trichotomy (y / F) (z / F) with c | c | c
  · have := Int.mul_le_mul_of_nonneg_left (show y / F + 1 ≤ z / F from c) (show 0 ≤ F by omega)
    rw [Int.mul_add, Int.mul_one] at this
    omega
  · rw [c] at ey ⊢; omega
  · have := Int.mul_le_mul_of_nonneg_left (show z / F + 1 ≤ y / F from c) (show 0 ≤ F by omega)
    rw [Int.mul_add, Int.mul_one] at this
    omega
end Go.Proofs.Ytndbhfbgigefnaa.Md
