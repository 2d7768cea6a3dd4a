/- What the program's Parse answers at any text, in plain arithmetic; and that the text of a code is read as the code.
   Conditions: none. -/
import Derived.Test.YtndbhfbgigefnaaMd
import Derived.Test.YtndbhfbgigefnaaPAx43
namespace Go.Proofs.Ytndbhfbgigefnaa.Mf
open Go.RowKit Go.Proofs.Ytndbhfbgigefnaa.PA Go.Proofs.Ytndbhfbgigefnaa.Ma Go.Proofs.Ytndbhfbgigefnaa.Mb Go.Proofs.Ytndbhfbgigefnaa.Mc Go.Proofs.Ytndbhfbgigefnaa.Md Go.Proofs.YtndbhfbgigefnaaW.PrintWords
set_option linter.unusedVariables false

/-- The form of a text. -/
def frm (D : Bool) : ByteArray := ((⟨#[48, 48, 58, 48, 48, 58, 48, 48]⟩ : ByteArray) ++ mk D) ++ (⟨#[48, 48]⟩ : ByteArray)
theorem frm_size (D : Bool) : (frm D).size = 11 := by unfold frm; simp only [ByteArray.size_append, mk_size]; rfl
theorem frm_at (D : Bool) : bt (frm D) 0 = 48 ∧ bt (frm D) 1 = 48 ∧ bt (frm D) 2 = 58 ∧ bt (frm D) 3 = 48 ∧ bt (frm D) 4 = 48 ∧ bt (frm D) 5 = 58 ∧ bt (frm D) 6 = 48 ∧ bt (frm D) 7 = 48 ∧ bt (frm D) 8 = (if D = true then 59 else 58) ∧ bt (frm D) 9 = 48 ∧ bt (frm D) 10 = 48 := by
  cases D <;> decide +kernel
/-- Is there a digit? -/
def dg (s : ByteArray) (i : Int) : Prop := 48 ≤ bt s i ∧ bt s i ≤ 57
instance (s : ByteArray) (i : Int) : Decidable (dg s i) := by unfold dg; exact inferInstance
/-- The number of two digits. -/
def v2 (s : ByteArray) (i : Int) : Int := (bt s i - 48) * 10 + (bt s (i + 1) - 48)
theorem stepS {s : ByteArray} {F : Int} {D : Bool} (hs : s.size = 11) {i : Int} (h0 : 0 ≤ i) (h1 : i < 11) (hf : bt (frm D) i ≠ 48) (o : List Int) (k : Nat) :
    code_Parse.l0 (k + 3) s (frm D) o 11 i F D = if bt s i = bt (frm D) i then code_Parse.l0 k s (frm D) o 11 (i + 1) F D else some (0, 0, 0, 0, 270) := by
  have hz := frm_size D
  simp only [code_Parse.l0]
  rw [if_pos h1, if_pos h0, if_pos (by omega), if_neg hf, if_pos (by omega)]
  by_cases he : bt s i = bt (frm D) i
  · rw [if_pos he, show (bt s i != bt (frm D) i) = false by simp [he]]
    simp only [code_Parse.j1]
    rw [if_neg (by simp), if_pos h0, if_pos (by omega), if_neg hf]
    simp only [code_Parse.j2]
    rw [if_neg (by simp), if_pos h0, if_pos (by omega), if_neg hf, w64 (x := i + 1) (by omega) (by omega)]
  · rw [if_neg he, show (bt s i != bt (frm D) i) = true by simp [he]]
    simp only [code_Parse.j1, if_true, code_Parse.j2]
theorem stepD {s : ByteArray} {F : Int} {D : Bool} (hs : s.size = 11) {i : Int} (h0 : 0 ≤ i) (h1 : i < 11) (hf : bt (frm D) i = 48) (o : List Int) (ho : o.length < 10) (k : Nat) (hp : i % 3 = 1 → dg s (i - 1)) :
    code_Parse.l0 (k + 3) s (frm D) o 11 i F D = if dg s i then code_Parse.l0 k s (frm D) (if i % 3 = 1 then o ++ [v2 s (i - 1)] else o) 11 (i + 1) F D else some (0, 0, 0, 0, 270) := by
  have hz := frm_size D
  simp only [code_Parse.l0]
  rw [if_pos h1, if_pos h0, if_pos (by omega), if_pos hf]
  simp only [code_Parse.j1]
  rw [if_neg (by simp), if_pos h0, if_pos (by omega), if_pos hf, if_pos (by omega)]
  by_cases hd : dg s i
  · obtain ⟨d0, d1⟩ := hd
    rw [if_neg (by omega), decide_eq_false (by omega), if_pos ⟨d0, d1⟩]
    simp only [code_Parse.j2]
    rw [if_neg (by simp), if_pos h0, if_pos (by omega), if_pos hf, Int.tmod_eq_emod_of_nonneg h0]
    by_cases hm : i % 3 = 1
    · obtain ⟨p0, p1⟩ := hp hm
      rw [if_pos hm, if_pos hm, w64 (x := i - 1) (by omega) (by omega), if_pos (by omega), if_pos (by omega), if_pos (by omega), if_pos (by omega), w64 (x := i + 1) (by omega) (by omega)]
      unfold v2
      rw [show i - 1 + 1 = i by omega, Int.emod_eq_of_lt (a := bt s (i - 1) - 48) (by omega) (by omega), Int.emod_eq_of_lt (a := bt s i - 48) (by omega) (by omega)]
    · rw [if_neg hm, if_neg hm, w64 (x := i + 1) (by omega) (by omega)]
  · rw [if_neg hd]
    by_cases d0 : bt s i < 48
    · rw [if_pos d0]; simp only [code_Parse.j2, if_true]
    · rw [if_neg d0, decide_eq_true (by unfold dg at hd; omega)]; simp only [code_Parse.j2, if_true]
/-- A text of the form. -/
def okText (D : Bool) (s : ByteArray) : Prop :=
  s.size = 11 ∧ dg s 0 ∧ dg s 1 ∧ bt s 2 = 58 ∧ dg s 3 ∧ dg s 4 ∧ bt s 5 = 58 ∧ dg s 6 ∧ dg s 7 ∧ bt s 8 = (if D = true then 59 else 58) ∧ dg s 9 ∧ dg s 10
instance (D : Bool) (s : ByteArray) : Decidable (okText D s) := by unfold okText; exact inferInstance
/-- What Parse answers behind its loop. -/
def parsed (F : Int) (D : Bool) (s : ByteArray) : Int × Int × Int × Int × Int :=
  if err F D (v2 s 0) (v2 s 3) (v2 s 6) (v2 s 9) = 0 then (v2 s 0, v2 s 3, v2 s 6, v2 s 9, 0) else (0, 0, 0, 0, err F D (v2 s 0) (v2 s 3) (v2 s 6) (v2 s 9))
/-- What Parse answers. -/
def parseV (F : Int) (D : Bool) (s : ByteArray) : Int × Int × Int × Int × Int :=
  if ok F D = true then (if okText D s then parsed F D s else (0, 0, 0, 0, 270)) else (0, 0, 0, 0, 1)
theorem loop_eq {s : ByteArray} (F : Int) (D : Bool) (hs : s.size = 11) (k : Nat) :
    code_Parse.l0 (k + 35) s (frm D) [] 11 0 F D = some (if okText D s then parsed F D s else (0, 0, 0, 0, 270)) := by
  obtain ⟨f0, f1, f2, f3, f4, f5, f6, f7, f8, f9, f10⟩ := frm_at D
  have f8n : bt (frm D) 8 ≠ 48 := by rw [f8]; split <;> omega
  by_cases c0 : dg s 0
  rotate_left
  · rw [stepD hs (by omega) (by omega) f0 _ (by simp) (k + 32) (by omega), if_neg c0, if_neg (fun h => c0 h.2.1)]
  rw [stepD hs (by omega) (by omega) f0 _ (by simp) (k + 32) (by omega), if_pos c0]
  simp only [show ¬ ((0 : Int) % 3 = 1) by decide, if_false, Int.zero_add]
  by_cases c1 : dg s 1
  rotate_left
  · rw [stepD hs (by omega) (by omega) f1 _ (by simp) (k + 29) (fun _ => c0), if_neg c1, if_neg (fun h => c1 h.2.2.1)]
  rw [stepD hs (by omega) (by omega) f1 _ (by simp) (k + 29) (fun _ => c0), if_pos c1]
  simp only [show ((1 : Int) % 3 = 1) by decide, if_true, List.nil_append, show ((1 : Int) + 1) = 2 by decide, show ((1 : Int) - 1) = 0 by decide]
  by_cases c2 : bt s 2 = 58
  rotate_left
  · rw [stepS hs (by omega) (by omega) (by omega) _ (k + 26), if_neg (by omega), if_neg (fun h => c2 h.2.2.2.1)]
  rw [stepS hs (by omega) (by omega) (by omega) _ (k + 26), if_pos (by omega)]
  simp only [show ((2 : Int) + 1) = 3 by decide]
  by_cases c3 : dg s 3
  rotate_left
  · rw [stepD hs (by omega) (by omega) f3 _ (by simp) (k + 23) (by omega), if_neg c3, if_neg (fun h => c3 h.2.2.2.2.1)]
  rw [stepD hs (by omega) (by omega) f3 _ (by simp) (k + 23) (by omega), if_pos c3]
  simp only [show ¬ ((3 : Int) % 3 = 1) by decide, if_false, show ((3 : Int) + 1) = 4 by decide]
  by_cases c4 : dg s 4
  rotate_left
  · rw [stepD hs (by omega) (by omega) f4 _ (by simp) (k + 20) (fun _ => c3), if_neg c4, if_neg (fun h => c4 h.2.2.2.2.2.1)]
  rw [stepD hs (by omega) (by omega) f4 _ (by simp) (k + 20) (fun _ => c3), if_pos c4]
  simp only [show ((4 : Int) % 3 = 1) by decide, if_true, show ((4 : Int) + 1) = 5 by decide, show ((4 : Int) - 1) = 3 by decide]
  by_cases c5 : bt s 5 = 58
  rotate_left
  · rw [stepS hs (by omega) (by omega) (by omega) _ (k + 17), if_neg (by omega), if_neg (fun h => c5 h.2.2.2.2.2.2.1)]
  rw [stepS hs (by omega) (by omega) (by omega) _ (k + 17), if_pos (by omega)]
  simp only [show ((5 : Int) + 1) = 6 by decide]
  by_cases c6 : dg s 6
  rotate_left
  · rw [stepD hs (by omega) (by omega) f6 _ (by simp) (k + 14) (by omega), if_neg c6, if_neg (fun h => c6 h.2.2.2.2.2.2.2.1)]
  rw [stepD hs (by omega) (by omega) f6 _ (by simp) (k + 14) (by omega), if_pos c6]
  simp only [show ¬ ((6 : Int) % 3 = 1) by decide, if_false, show ((6 : Int) + 1) = 7 by decide]
  by_cases c7 : dg s 7
  rotate_left
  · rw [stepD hs (by omega) (by omega) f7 _ (by simp) (k + 11) (fun _ => c6), if_neg c7, if_neg (fun h => c7 h.2.2.2.2.2.2.2.2.1)]
  rw [stepD hs (by omega) (by omega) f7 _ (by simp) (k + 11) (fun _ => c6), if_pos c7]
  simp only [show ((7 : Int) % 3 = 1) by decide, if_true, show ((7 : Int) + 1) = 8 by decide, show ((7 : Int) - 1) = 6 by decide]
  by_cases c8 : bt s 8 = (if D = true then 59 else 58)
  rotate_left
  · rw [stepS hs (by omega) (by omega) f8n _ (k + 8), if_neg (by rw [f8]; exact c8), if_neg (fun h => c8 h.2.2.2.2.2.2.2.2.2.1)]
  rw [stepS hs (by omega) (by omega) f8n _ (k + 8), if_pos (by rw [f8]; exact c8)]
  simp only [show ((8 : Int) + 1) = 9 by decide]
  by_cases c9 : dg s 9
  rotate_left
  · rw [stepD hs (by omega) (by omega) f9 _ (by simp) (k + 5) (by omega), if_neg c9, if_neg (fun h => c9 h.2.2.2.2.2.2.2.2.2.2.1)]
  rw [stepD hs (by omega) (by omega) f9 _ (by simp) (k + 5) (by omega), if_pos c9]
  simp only [show ¬ ((9 : Int) % 3 = 1) by decide, if_false, show ((9 : Int) + 1) = 10 by decide]
  by_cases c10 : dg s 10
  rotate_left
  · rw [stepD hs (by omega) (by omega) f10 _ (by simp) (k + 2) (fun _ => c9), if_neg c10, if_neg (fun h => c10 h.2.2.2.2.2.2.2.2.2.2.2)]
  rw [stepD hs (by omega) (by omega) f10 _ (by simp) (k + 2) (fun _ => c9), if_pos c10]
  simp only [show ((10 : Int) % 3 = 1) by decide, if_true, show ((10 : Int) + 1) = 11 by decide, show ((10 : Int) - 1) = 9 by decide]
  rw [if_pos ⟨hs, c0, c1, c2, c3, c4, c5, c6, c7, c8, c9, c10⟩]
  simp only [code_Parse.l0, List.cons_append, List.nil_append]
  rw [if_neg (by omega), if_pos (by simp), if_pos (by simp), if_pos (by simp), if_pos (by simp), checked_eq]
  show (if err F D (v2 s 0) (v2 s 3) (v2 s 6) (v2 s 9) = 0 then some (v2 s 0, v2 s 3, v2 s 6, v2 s 9, (0 : Int)) else some (0, 0, 0, 0, err F D (v2 s 0) (v2 s 3) (v2 s 6) (v2 s 9))) = some (parsed F D s)
  unfold parsed
  split <;> rfl
theorem Parse_eq (F : Int) (D : Bool) (s : ByteArray) (k : Nat) : code_Parse.f (k + 35) F D s = some (parseV F D s) := by
  unfold code_Parse.f parseV
  rw [check_eq, mark_eq]
  simp only [Option.bind_some]
  by_cases ho : ok F D = true
  · rw [if_pos ho, if_pos ho, if_pos rfl, if_pos (by rw [mk_size]; omega), if_pos (by simp only [ByteArray.size_append, mk_size]; exact (by decide : (8 + 1 + 2 ≤ 9223372036854775807)))]
    have hz : (((⟨#[48, 48, 58, 48, 48, 58, 48, 48]⟩ : ByteArray) ++ mk D) ++ (⟨#[48, 48]⟩ : ByteArray)).size = 11 := frm_size D
    rw [hz]
    by_cases hs : s.size = 11
    · rw [if_pos (by omega), hs]
      exact loop_eq F D hs k
    · rw [if_neg (by omega), if_neg (fun h => hs h.1)]
  · rw [if_neg ho, if_neg ho, if_neg (by decide)]
/-! ### the text of a code is read as the code -/
theorem bt_of {s : ByteArray} {l : List UInt8} (h : s.data.toList = l) (i : Nat) (hi : i < l.length) : bt s (i : Int) = ((l[i]).toNat : Int) := by
  have hsz : s.size = l.length := by rw [← h]; exact Array.length_toList.symm
  unfold bt
  rw [Int.toNat_natCast, dif_pos (by omega)]
  congr 2
  have : s.data.toList[i]'(by rw [h]; exact hi) = l[i] := by simp only [h]
  rw [← this]
  rfl
theorem txt_data (D : Bool) (h m s f : Int) : (txt D h m s f).data.toList = (two h).data.toList ++ ([58] ++ ((two m).data.toList ++ ([58] ++ ((two s).data.toList ++ ((mk D).data.toList ++ (two f).data.toList))))) := by
  rw [← ByteArray.toList_eq]; exact txt_list D h m s f
theorem parse_txt {F : Int} {D : Bool} {h m s f : Int} (he : err F D h m s f = 0) (a1 : 0 ≤ h ∧ h < 100) (a2 : 0 ≤ m ∧ m < 100) (a3 : 0 ≤ s ∧ s < 100) (a4 : 0 ≤ f ∧ f < 100) (ho : ok F D = true) :
    parseV F D (txt D h m s f) = (h, m, s, f, 0) := by
  have hd := txt_data D h m s f
  rw [two_list a1.1 a1.2, two_list a2.1 a2.2, two_list a3.1 a3.2, two_list a4.1 a4.2, mk_list] at hd
  simp only [List.cons_append, List.nil_append] at hd
  have hsz : (txt D h m s f).size = 11 := by
    have : (txt D h m s f).data.toList.length = 11 := by rw [hd]; rfl
    rw [← this]; exact Array.length_toList.symm
  have u : ∀ n : Nat, n < 256 → ((UInt8.ofNat n).toNat : Int) = n := by
    intro n hn
    rw [UInt8.toNat_ofNat', Nat.mod_eq_of_lt (by omega)]
  have b0 := bt_of hd 0 (by simp)
  have b1 := bt_of hd 1 (by simp)
  have b2 := bt_of hd 2 (by simp)
  have b3 := bt_of hd 3 (by simp)
  have b4 := bt_of hd 4 (by simp)
  have b5 := bt_of hd 5 (by simp)
  have b6 := bt_of hd 6 (by simp)
  have b7 := bt_of hd 7 (by simp)
  have b8 := bt_of hd 8 (by simp)
  have b9 := bt_of hd 9 (by simp)
  have b10 := bt_of hd 10 (by simp)
  simp only [List.getElem_cons_zero, List.getElem_cons_succ] at b0 b1 b2 b3 b4 b5 b6 b7 b8 b9 b10
  rw [u _ (by omega)] at b0 b1 b3 b4 b6 b7 b9 b10
  have c2 : bt (txt D h m s f) 2 = 58 := b2
  have c5 : bt (txt D h m s f) 5 = 58 := b5
  have c8 : bt (txt D h m s f) 8 = (if D = true then 59 else 58) := by
    rw [show (8 : Int) = ((8 : Nat) : Int) from rfl, b8]
    cases D <;> rfl
  have v0 : v2 (txt D h m s f) 0 = h := by
    have e0 : bt (txt D h m s f) 0 = _ := b0
    have e1 : bt (txt D h m s f) (0 + 1) = _ := b1
    unfold v2; rw [e0, e1]; omega
  have v3 : v2 (txt D h m s f) 3 = m := by
    have e0 : bt (txt D h m s f) 3 = _ := b3
    have e1 : bt (txt D h m s f) (3 + 1) = _ := b4
    unfold v2; rw [e0, e1]; omega
  have v6 : v2 (txt D h m s f) 6 = s := by
    have e0 : bt (txt D h m s f) 6 = _ := b6
    have e1 : bt (txt D h m s f) (6 + 1) = _ := b7
    unfold v2; rw [e0, e1]; omega
  have v9 : v2 (txt D h m s f) 9 = f := by
    have e0 : bt (txt D h m s f) 9 = _ := b9
    have e1 : bt (txt D h m s f) (9 + 1) = _ := b10
    unfold v2; rw [e0, e1]; omega
  unfold parseV parsed
  rw [v0, v3, v6, v9, he, if_pos ho, if_pos, if_pos rfl]
  refine ⟨hsz, ?_, ?_, c2, ?_, ?_, c5, ?_, ?_, c8, ?_, ?_⟩
  · have e : bt (txt D h m s f) 0 = _ := b0
    unfold dg; rw [e]; omega
  · have e : bt (txt D h m s f) 1 = _ := b1
    unfold dg; rw [e]; omega
  · have e : bt (txt D h m s f) 3 = _ := b3
    unfold dg; rw [e]; omega
  · have e : bt (txt D h m s f) 4 = _ := b4
    unfold dg; rw [e]; omega
  · have e : bt (txt D h m s f) 6 = _ := b6
    unfold dg; rw [e]; omega
  · have e : bt (txt D h m s f) 7 = _ := b7
    unfold dg; rw [e]; omega
  · have e : bt (txt D h m s f) 9 = _ := b9
    unfold dg; rw [e]; omega
  · have e : bt (txt D h m s f) 10 = _ := b10
    unfold dg; rw [e]; omega
end Go.Proofs.Ytndbhfbgigefnaa.Mf
