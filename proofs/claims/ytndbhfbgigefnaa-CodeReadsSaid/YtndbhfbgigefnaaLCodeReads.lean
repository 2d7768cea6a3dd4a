/- The law CodeReads, walked: the rate and the numbers of any track are the reference's.
   Conditions: the bytes of the track are bytes. -/
import Derived.Test.YtndbhfbgigefnaaPAx53
import Derived.Test.YtndbhfbgigefnaaMb
import Derived.Laws.BitsLemmas
namespace Go.Proofs.Ytndbhfbgigefnaa.LCodeReads
open Go.RowKit Go.Proofs.Ytndbhfbgigefnaa.PA Go.Proofs.Ytndbhfbgigefnaa.Ma Go.Proofs.Ytndbhfbgigefnaa.Mb Go.Proofs.YtndbhfbgigefnaaW.PrintWords
set_option linter.unusedVariables false
/-- Bytes. -/
def Bytes (l : List Int) : Prop := ∀ x ∈ l, 0 ≤ x ∧ x < 256
theorem rd_bytes {l : List Int} (h : Bytes l) (i : Int) : 0 ≤ rd l i ∧ rd l i < 256 := by
  unfold rd
  rw [List.getD_eq_getElem?_getD]
  rcases Nat.lt_or_ge i.toNat l.length with h1 | h1
  · rw [List.getElem?_eq_getElem h1]; exact h _ (List.getElem_mem h1)
  · rw [List.getElem?_eq_none h1]; simp
/-- The rate of a track, or its error. -/
def rateV (codec : ByteArray) (kd : Int) (l : List Int) : Int × Bool × Int :=
  if codec.toList = ([116, 109, 99, 49] : List UInt8) ∧ kd = 6 then
    (if l.length = 2 ∧ rd l 1 ≤ 1 then (if ok (rd l 0) (rd l 1 == 1) = true then (rd l 0, rd l 1 == 1, 0) else (0, false, 1)) else (0, false, 4)) else (0, false, 7)
theorem rate_j1 {l : List Int} (h : Bytes l) (hl : l.length = 2) (hr : rd l 1 ≤ 1) (k : Nat) (a b : Int) (c : ByteArray) (d : Int) (e f : ByteArray) (g : Int) (x : List S97) (y : List S95) (z : List S82) :
    code_Rate.j1 (k + 1) false a b c d l e f g x y z = some (if ok (rd l 0) (rd l 1 == 1) = true then (rd l 0, rd l 1 == 1, 0) else (0, false, 1)) := by
  have hb := rd_bytes h 0
  simp only [code_Rate.j1]
  rw [if_neg (by simp), if_pos (by omega), if_pos (by omega), w64 (x := rd l 0) (by omega) (by omega), check_eq]
  simp only [Option.bind_some]
  by_cases ho : ok (rd l 0) (rd l 1 == 1) = true
  · rw [if_pos ho, if_pos ho, if_pos rfl]
  · rw [if_neg ho, if_neg ho, if_neg (by decide)]
theorem rate_j0 {l : List Int} (h : Bytes l) (k : Nat) (a b : Int) (c : ByteArray) (d : Int) (e f : ByteArray) (g : Int) (x : List S97) (y : List S95) (z : List S82) :
    code_Rate.j0 (k + 2) false a b c d l e f g x y z = some (if l.length = 2 ∧ rd l 1 ≤ 1 then (if ok (rd l 0) (rd l 1 == 1) = true then (rd l 0, rd l 1 == 1, 0) else (0, false, 1)) else (0, false, 4)) := by
  simp only [code_Rate.j0]
  rw [if_neg (by simp)]
  by_cases hl : l.length = 2
  · rw [if_pos (by omega), if_pos (by omega)]
    by_cases hr : rd l 1 ≤ 1
    · rw [decide_eq_false (by omega), rate_j1 h hl hr]; simp [hl, hr]
    · rw [decide_eq_true (by omega), if_neg (by omega)]
      simp [code_Rate.j1]
  · rw [if_neg (by omega), if_neg (by omega)]
    simp [code_Rate.j1]
theorem Rate_eq {l : List Int} (h : Bytes l) (k : Nat) (a b : Int) (c : ByteArray) (d : Int) (e f : ByteArray) (g : Int) (x : List S97) (y : List S95) (z : List S82) :
    code_Rate.f (k + 2) a b c d l e f g x y z = some (rateV c b l) := by
  unfold code_Rate.f rateV
  by_cases hc : c.toList = ([116, 109, 99, 49] : List UInt8)
  · rw [if_pos hc]
    by_cases hb : b = 6
    · rw [if_pos ⟨hc, hb⟩, show (b != 6) = false by simp [hb], rate_j0 h]
    · rw [if_neg (fun q => hb q.2), show (b != 6) = true by simp [hb]]
      simp [code_Rate.j0]
  · rw [if_neg hc, if_neg (fun q => hc q.1)]
    simp [code_Rate.j0]
theorem rRate_eq {l : List Int} (h : Bytes l) (k : Nat) (a b : Int) (c : ByteArray) (d : Int) (e f : ByteArray) (g : Int) (x : List S97) (y : List S95) (z : List S82) :
    dioramaref20_Rate.f (k + 2) a b c d l e f g x y z = some (rateV c b l) := by
  unfold dioramaref20_Rate.f rateV
  have key : dioramaref20_Rate.j0 (k + 2) false a b c d l e f g x y z = code_Rate.j0 (k + 2) false a b c d l e f g x y z := rfl
  by_cases hb : b = 6
  · rw [if_pos hb]
    by_cases hc : c.toList = ([116, 109, 99, 49] : List UInt8)
    · rw [if_pos ⟨hc, hb⟩, show (c.toList != ([116, 109, 99, 49] : List UInt8)) = false by simp [hc], key, rate_j0 h]
    · rw [if_neg (fun q => hc q.1), show (c.toList != ([116, 109, 99, 49] : List UInt8)) = true by simp [hc]]
      simp [dioramaref20_Rate.j0]
  · rw [if_neg hb, if_neg (fun q => hb q.2)]
    simp [dioramaref20_Rate.j0]
/-! ### the numbers -/
theorem wraps_i64 (n : Int) (h0 : 0 ≤ n) (h1 : n < 2 ^ 40) : IntKind.i64.wrap n = n := by rw [IntKind.wrap_i64]; omega
theorem or8 {x y : Int} (hx0 : 0 ≤ x) (hx : x < 16777216) (h0 : 0 ≤ y) (h1 : y < 256) : bits .or .i64 (x * 256) y = x * 256 + y := by
  refine bits_join .i64 40 (by decide) wraps_i64 8 (x * 256) y ?_ ?_ ?_ h0 ?_ ?_
  all_goals omega
/-- The number of four bytes. -/
def numV (l : List Int) : Int := ((rd l 0 * 256 + rd l 1) * 256 + rd l 2) * 256 + rd l 3
theorem numV_bd {l : List Int} (h : Bytes l) : 0 ≤ numV l ∧ numV l < 4294967296 := by
  have := rd_bytes h 0; have := rd_bytes h 1; have := rd_bytes h 2; have := rd_bytes h 3
  unfold numV; omega
theorem fold4 {l : List Int} (h : Bytes l) (hl : l.length = 4) (k : Nat) (o : List Int) (z : List S82) (n i F : Int) (D : Bool) :
    code_Numbers.l1 (k + 5) o 0 z n i l (l.length : Int) 0 F D = code_Numbers.l1 (k + 1) o (numV l) z n i l (l.length : Int) 4 F D := by
  have b0 := rd_bytes h 0; have b1 := rd_bytes h 1; have b2 := rd_bytes h 2; have b3 := rd_bytes h 3
  have e4 : (l.length : Int) = 4 := by omega
  have s1 : ∀ (m : Nat) (x j : Int), 0 ≤ x → x < 16777216 → 0 ≤ j → j < 4 → code_Numbers.l1 (m + 1) o x z n i l (l.length : Int) j F D = code_Numbers.l1 m o (x * 256 + rd l j) z n i l (l.length : Int) (j + 1) F D := by
    intro m x j hx0 hx1 hj0 hj1
    have bj := rd_bytes h j
    conv => lhs; simp only [code_Numbers.l1]
    rw [if_pos (by omega), if_pos hj0, if_pos (by omega), w64 (x := x * 256) (by omega) (by omega), w64 (x := rd l j) (by omega) (by omega), or8 hx0 (by omega) bj.1 bj.2, w64 (x := j + 1) (by omega) (by omega)]
  have t0 := s1 (k + 4) 0 0 (by omega) (by omega) (by omega) (by omega)
  have t1 := s1 (k + 3) (0 * 256 + rd l 0) 1 (by omega) (by omega) (by omega) (by omega)
  have t2 := s1 (k + 2) ((0 * 256 + rd l 0) * 256 + rd l 1) 2 (by omega) (by omega) (by omega) (by omega)
  have t3 := s1 (k + 1) (((0 * 256 + rd l 0) * 256 + rd l 1) * 256 + rd l 2) 3 (by omega) (by omega) (by omega) (by omega)
  refine t0.trans (t1.trans (t2.trans (t3.trans ?_)))
  unfold numV
  simp
/-- The numbers from a place on: an error at the first that is no number of a day. -/
def numbersV (day : Int) : List S82 → List Int → List Int × Int
  | [], o => (o, 0)
  | s :: r, o => if numV s.f5 ≥ day then ([], 1) else numbersV day r (o ++ [numV s.f5])
theorem rd_at (z : List S82) (i : Nat) (h : i < z.length) : rd_T82 z (i : Int) = z[i] := by
  unfold rd_T82
  rw [Int.toNat_natCast, List.getD_eq_getElem?_getD, List.getElem?_eq_getElem h]
  rfl
theorem numbers_loop {F : Int} {D : Bool} (ho : ok F D = true) {z : List S82} (hz : ∀ s ∈ z, Bytes s.f5) (h4 : ∀ s ∈ z, s.f5.length = 4) (hl : z.length ≤ 1000) (r : Nat) :
    ∀ (k i : Nat) (o : List Int), i + r = z.length → o.length ≤ i → 6 * r < k → code_Numbers.l0 k o z (z.length : Int) i F D = some (numbersV (144 * ten F D) (z.drop i) o) := by
  induction r with
  | zero =>
    intro k i o hi hoi hk
    obtain ⟨k, rfl⟩ : ∃ j, k = j + 1 := ⟨k - 1, by omega⟩
    simp only [code_Numbers.l0]
    rw [if_neg (by omega), List.drop_eq_nil_of_le (by omega)]
    rfl
  | succ r ih =>
    intro k i o hi hoi hk
    obtain ⟨k, rfl⟩ : ∃ j, k = j + 6 := ⟨k - 6, by omega⟩
    have hlt : i < z.length := by omega
    have hs := hz _ (List.getElem_mem hlt)
    have h5 := h4 _ (List.getElem_mem hlt)
    simp only [code_Numbers.l0]
    rw [if_pos (by omega), if_pos (by omega), if_pos (by omega), rd_at z i hlt, fold4 hs h5]
    simp only [code_Numbers.l1]
    rw [if_neg (by omega), day_eq ho]
    simp only [Option.bind_some]
    rw [List.drop_eq_getElem_cons hlt]
    simp only [numbersV]
    by_cases hd : numV z[i].f5 ≥ 144 * ten F D
    · rw [if_pos hd, if_pos hd]
    · rw [if_neg hd, if_neg hd, if_pos (by omega), w64 (by omega) (by omega)]
      exact ih k (i + 1) _ (by omega) (by simp; omega) (by omega)
theorem rnumbers_loop {day : Int} {z : List S82} (hz : ∀ s ∈ z, Bytes s.f5) (h4 : ∀ s ∈ z, s.f5.length = 4) (hl : z.length ≤ 1000) (a b : Int) (c : ByteArray) (d : Int) (l : List Int) (e f : ByteArray) (g : Int) (x : List S97) (y : List S95) (r : Nat) :
    ∀ (k i : Nat) (o : List Int), i + r = z.length → o.length ≤ i → r < k → dioramaref20_Numbers.l1 k day o i a b c d l e f g x y z = some (numbersV day (z.drop i) o) := by
  induction r with
  | zero =>
    intro k i o hi hoi hk
    obtain ⟨k, rfl⟩ : ∃ j, k = j + 1 := ⟨k - 1, by omega⟩
    simp only [dioramaref20_Numbers.l1]
    rw [if_neg (by omega), List.drop_eq_nil_of_le (by omega)]
    rfl
  | succ r ih =>
    intro k i o hi hoi hk
    obtain ⟨k, rfl⟩ : ∃ j, k = j + 1 := ⟨k - 1, by omega⟩
    have hlt : i < z.length := by omega
    have hs := hz _ (List.getElem_mem hlt)
    have h5 := h4 _ (List.getElem_mem hlt)
    have b0 := rd_bytes hs 0; have b1 := rd_bytes hs 1; have b2 := rd_bytes hs 2; have b3 := rd_bytes hs 3
    simp only [dioramaref20_Numbers.l1]
    rw [rd_at z i hlt, if_pos (by omega), if_pos (by omega), if_pos (by omega), if_pos (by omega), if_pos (by omega), if_pos (by omega)]
    have en : wrap64 ((wrap64 ((wrap64 ((wrap64 ((wrap64 (rd z[i].f5 0)) * 16777216)) + (wrap64 ((wrap64 (rd z[i].f5 1)) * 65536)))) + (wrap64 ((wrap64 (rd z[i].f5 2)) * 256)))) + (wrap64 (rd z[i].f5 3))) = numV z[i].f5 := by
      unfold numV wrap64; omega
    rw [en, List.drop_eq_getElem_cons hlt]
    simp only [numbersV]
    by_cases hd : numV z[i].f5 ≥ day
    · rw [if_pos hd, if_pos hd]
    · rw [if_neg hd, if_neg hd, if_pos (by omega), w64 (by omega) (by omega)]
      exact ih k (i + 1) _ (by omega) (by simp; omega) (by omega)
theorem rcheck_loop {day : Int} {z : List S82} (hl : z.length ≤ 1000) (a b : Int) (c : ByteArray) (d : Int) (l : List Int) (e f : ByteArray) (g : Int) (x : List S97) (y : List S95) (r : Nat) :
    ∀ (k i : Nat), i + r = z.length → (∀ j, (h : j < z.length) → j < i → z[j].f5.length = 4) → r < k → ∃ k', k ≤ k' + r + 1 ∧ dioramaref20_Numbers.l0 k day i a b c d l e f g x y z = if z.any not4 = true then some ([], 4) else dioramaref20_Numbers.l1 k' day [] 0 a b c d l e f g x y z := by
  induction r with
  | zero =>
    intro k i hi ha hk
    obtain ⟨k, rfl⟩ : ∃ j, k = j + 1 := ⟨k - 1, by omega⟩
    have hn : z.any not4 = false := by
      rw [List.any_eq_false]
      intro s hs hp
      obtain ⟨j, hj, rfl⟩ := List.getElem_of_mem hs
      have := ha j hj (by omega)
      simp [not4, this] at hp
    refine ⟨k, by omega, ?_⟩
    simp only [dioramaref20_Numbers.l0]
    rw [if_neg (by omega), hn]
    rfl
  | succ r ih =>
    intro k i hi ha hk
    obtain ⟨k, rfl⟩ : ∃ j, k = j + 1 := ⟨k - 1, by omega⟩
    have hlt : i < z.length := by omega
    simp only [dioramaref20_Numbers.l0]
    rw [if_pos (by omega), if_pos (by omega), rd_at z i hlt]
    by_cases h4 : z[i].f5.length = 4
    · obtain ⟨k', hk', he⟩ := ih k (i + 1) (by omega) (fun j hj hji => by
        rcases Nat.lt_or_ge j i with h | h
        · exact ha j hj h
        · obtain rfl : j = i := by omega
          exact h4) (by omega)
      refine ⟨k', by omega, ?_⟩
      rw [if_pos (by omega), w64 (by omega) (by omega)]
      exact he
    · refine ⟨k, by omega, ?_⟩
      have hn : z.any not4 = true := List.any_eq_true.2 ⟨z[i], List.getElem_mem hlt, by simp [not4]; omega⟩
      rw [if_neg (by omega), hn]
      rfl
theorem eqints_loop {l : List Int} (hl : l.length ≤ 100000) (r : Nat) : ∀ (k i : Nat), i + r = l.length → r < k → dioramaref00_EqInts.l0 k l l i = some true := by
  induction r with
  | zero =>
    intro k i hi hk
    obtain ⟨k, rfl⟩ : ∃ j, k = j + 1 := ⟨k - 1, by omega⟩
    simp only [dioramaref00_EqInts.l0]
    rw [if_neg (by omega)]
  | succ r ih =>
    intro k i hi hk
    obtain ⟨k, rfl⟩ : ∃ j, k = j + 1 := ⟨k - 1, by omega⟩
    simp only [dioramaref00_EqInts.l0]
    rw [if_pos (by omega), if_pos (by omega), if_pos (by omega), if_pos trivial, w64 (by omega) (by omega)]
    exact ih k (i + 1) (by omega) (by omega)
theorem eqints {l : List Int} (hl : l.length ≤ 100000) {k : Nat} (hk : l.length < k) : dioramaref00_EqInts.f k l l = some true := by
  unfold dioramaref00_EqInts.f
  rw [if_pos rfl]
  exact eqints_loop hl l.length k 0 (by omega) hk
theorem numbersV_len (day : Int) : ∀ (z : List S82) (o : List Int), (numbersV day z o).1.length ≤ o.length + z.length := by
  intro z
  induction z with
  | nil => intro o; simp [numbersV]
  | cons s r ih =>
    intro o
    simp only [numbersV]
    split
    · simp
    · have := ih (o ++ [numV s.f5])
      simp at this ⊢
      omega
theorem pure {K : Nat} (hK : 9000 ≤ K) (a b : Int) (c : ByteArray) (d : Int) (l : List Int) (e f : ByteArray) (g : Int) (x : List S97) (y : List S95) (z : List S82) (hl : Bytes l) (hz : ∀ s ∈ z, Bytes s.f5) :
    dioramalaw20_CodeReads.f K a b c d l e f g x y z = some true := by
  obtain ⟨K, rfl⟩ : ∃ j, K = j + 2 := ⟨K - 2, by omega⟩
  unfold dioramalaw20_CodeReads.f
  by_cases h1 : (z.length : Int) > 1000
  · rw [if_pos h1, awake_eq (by omega)]; rfl
  · rw [if_neg h1, Rate_eq hl K, rRate_eq hl K, awake_eq (by omega)]
    simp only [Option.bind_some]
    have key : ∃ v n, v.length ≤ 1000 ∧ code_Numbers.f (K + 2) a b c d l e f g x y z = some (v, n) ∧ dioramaref20_Numbers.f (K + 2) a b c d l e f g x y z = some (v, n) := by
      unfold code_Numbers.f dioramaref20_Numbers.f
      rw [Rate_eq hl K, rRate_eq hl K]
      simp only [Option.bind_some]
      by_cases h2 : (rateV c b l).2.2 = 0
      · rw [if_pos h2, if_pos h2]
        have ho : ok (rateV c b l).1 (rateV c b l).2.1 = true := by
          revert h2
          unfold rateV
          split
          · split
            · split
              · intro _; assumption
              · intro h; exact absurd h (by decide)
            · intro h; exact absurd h (by decide)
          · intro h; exact absurd h (by decide)
        have hday : 61 ≤ K + 2 := by omega
        rw [rDay_eq _ _ hday, if_pos ho]
        simp only [Option.bind_some, api_Sample_52.f, if_true]
        obtain ⟨k', hk', he⟩ := rcheck_loop (day := 144 * ten (rateV c b l).1 (rateV c b l).2.1) (z := z) (by omega) a b c d l e f g x y z.length (K + 2) 0 (by omega) (fun j hj hji => absurd hji (by omega)) (by omega)
        have he' : dioramaref20_Numbers.l0 (K + 2) (144 * ten (rateV c b l).1 (rateV c b l).2.1) 0 a b c d l e f g x y z = _ := he
        rw [he']
        by_cases h3 : z.any not4 = true
        · rw [if_pos h3, if_pos h3]
          exact ⟨[], 4, by simp, rfl, rfl⟩
        · rw [if_neg h3, if_neg h3]
          have h4 : ∀ s ∈ z, s.f5.length = 4 := by
            intro s hs
            rw [Bool.not_eq_true, List.any_eq_false] at h3
            have := h3 s hs
            simp [not4] at this
            omega
          have q1 := numbers_loop ho hz h4 (by omega) z.length (K + 2) 0 [] (by omega) (by simp) (by omega)
          have q2 := rnumbers_loop (day := 144 * ten (rateV c b l).1 (rateV c b l).2.1) hz h4 (by omega) a b c d l e f g x y z.length k' 0 [] (by omega) (by simp) (by omega)
          refine ⟨(numbersV (144 * ten (rateV c b l).1 (rateV c b l).2.1) z []).1, (numbersV (144 * ten (rateV c b l).1 (rateV c b l).2.1) z []).2, ?_, q1, q2⟩
          have := numbersV_len (144 * ten (rateV c b l).1 (rateV c b l).2.1) z []
          simp at this
          omega
      · rw [if_neg h2, if_neg h2]
        exact ⟨[], _, by simp, rfl, rfl⟩
    obtain ⟨v, n, hv, k1, k2⟩ := key
    rw [k1, k2]
    simp only [Option.bind_some]
    rw [eqints (by omega) (by omega)]
    simp
theorem bytes_of {l : List Int} (h : ∀ x ∈ l, (Lit.int .u8 x).wf = true) : Bytes l := by
  intro x hx
  have := h x hx
  have e0 : IntKind.u8.min = 0 := rfl
  have e1 : IntKind.u8.max = 255 := rfl
  simp only [Lit.wf, e0, e1, Bool.and_eq_true, decide_eq_true_eq] at this
  omega
theorem walk (a0_0 : Int) (a0_1 : Int) (a0_2 : ByteArray) (a0_3 : Int) (A0_4 : Option Addr) (c0_4 : Nat) (l0_4 : List Int) (a0_5 : ByteArray) (a0_6 : ByteArray) (a0_7 : Int) (A0_8 : Option Addr) (c0_8 : Nat) (l0_8 : List S97) (A0_9 : Option Addr) (c0_9 : Nat) (l0_9 : List S95) (A0_10 : Option Addr) (c0_10 : Nat) (l0_10 : List S82) (W : World) (w0_0 : (Lit.int .i64 a0_0).wf = true) (w0_1 : (Lit.int .i64 a0_1).wf = true) (w0_2 : a0_2.size ≤ 140737488351232) (w0_3 : (Lit.int .i64 a0_3).wf = true) (hr0_4 : Kd.C (Kd.int .u8) W A0_4 l0_4.length l0_4) (hl0_4 : l0_4.length ≤ c0_4) (hf0_4 : l0_4.length ≤ maxLen ∧ l0_4.length * Try.prog.bytesOf 5 ≤ 140737488351232 ∧ ∀ x ∈ l0_4, (Lit.int .u8 x).wf = true) (w0_5 : a0_5.size ≤ 140737488351232) (w0_6 : a0_6.size ≤ 140737488351232) (w0_7 : (Lit.int .i64 a0_7).wf = true) (hr0_8 : Kd.C k97 W A0_8 l0_8.length l0_8) (hl0_8 : l0_8.length ≤ c0_8) (hf0_8 : l0_8.length ≤ maxLen ∧ l0_8.length * Try.prog.bytesOf 97 ≤ 140737488351232 ∧ ∀ x ∈ l0_8, ((Lit.int .i64 x.f0).wf = true) ∧ ((Lit.int .i64 x.f1).wf = true) ∧ ((Lit.int .i64 x.f2).wf = true) ∧ ((Lit.int .i64 x.f3).wf = true)) (hr0_9 : Kd.C k95 W A0_9 l0_9.length l0_9) (hl0_9 : l0_9.length ≤ c0_9) (hf0_9 : l0_9.length ≤ maxLen ∧ l0_9.length * Try.prog.bytesOf 95 ≤ 140737488351232 ∧ ∀ x ∈ l0_9, (x.f0.size ≤ 140737488351232) ∧ ((Lit.int .i64 x.f1).wf = true)) (hr0_10 : Kd.C k82 W A0_10 l0_10.length l0_10) (hl0_10 : l0_10.length ≤ c0_10) (hf0_10 : l0_10.length ≤ maxLen ∧ l0_10.length * Try.prog.bytesOf 82 ≤ 140737488351232 ∧ ∀ x ∈ l0_10, ((Lit.int .i64 x.f0).wf = true) ∧ ((Lit.int .i64 x.f1).wf = true) ∧ ((Lit.int .i64 x.f2).wf = true) ∧ (True) ∧ (x.f4.length ≤ maxLen ∧ x.f4.length * Try.prog.bytesOf 3 ≤ 140737488351232 ∧ ∀ y ∈ x.f4, (Lit.int .i64 y).wf = true) ∧ (x.f5.length ≤ maxLen ∧ x.f5.length * Try.prog.bytesOf 5 ≤ 140737488351232 ∧ ∀ y ∈ x.f5, (Lit.int .u8 y).wf = true)) :
    Calls Try.prog 9 #[.agg #[.int .i64 a0_0, .int .i64 a0_1, .string a0_2, .int .i64 a0_3, .slice A0_4 l0_4.length c0_4, .string a0_5, .string a0_6, .int .i64 a0_7, .slice A0_8 l0_8.length c0_8, .slice A0_9 l0_9.length c0_9, .slice A0_10 l0_10.length c0_10]] W fun e w' => e = .returned (.bool true) ∧ Below W.heap.size W w' :=
  dioramalaw20_CodeReads.calls 9000 a0_0 a0_1 a0_2 a0_3 A0_4 c0_4 l0_4 a0_5 a0_6 a0_7 A0_8 c0_8 l0_8 A0_9 c0_9 l0_9 A0_10 c0_10 l0_10 true W hr0_4 hl0_4 hr0_8 hl0_8 hr0_9 hl0_9 hr0_10 hl0_10
    (pure (Nat.le_refl 9000) a0_0 a0_1 a0_2 a0_3 l0_4 a0_5 a0_6 a0_7 l0_8 l0_9 l0_10 (bytes_of hf0_4.2.2) (fun s hs => bytes_of (hf0_10.2.2 s hs).2.2.2.2.2.2.2)) rfl
end Go.Proofs.Ytndbhfbgigefnaa.LCodeReads
