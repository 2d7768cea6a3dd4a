/- The decoders' signed numbers; a call of either decoder. Plain theorems over the abstract machine.
   Conditions: none. -/
import Derived.Test.YtholkooikmbamaaArR
namespace Go.Proofs.Ytholkooikmbamaa.Ar
open Go Go.RowKit Go.Proofs.Ytholkooikmbamaa.Am Go.Proofs.Ytholkooikmbamaa.Af
set_option linter.unusedVariables false
set_option linter.unusedSimpArgs false
set_option maxRecDepth 20000

theorem downs_pos {bs : List Int} {n : Nat} : ∀ {r c : Nat} {w w' : Int} {x x' : De × List Int}, 1 ≤ w → downs bs n r c w x = .ok (w', x') → 1 ≤ w'
  | 0, c, w, w', x, x', h1, h => by rw [downs] at h; cases h; exact h1
  | r + 1, c, w, w', x, x', h1, h => by
    rw [downs] at h
    have q1 := gbit_01 x.1 (x.2.getD (16 + min (n - 1) 15) 0)
    have q2 := gbit_01 x.1 2048
    split at h
    · split at h
      · exact downs_pos (by omega) h
      · cases h
    · split at h
      · exact downs_pos (by omega) h
      · cases h
theorem numD_ok {bs : List Int} {x y : De × List Int} {w : Int} (h : numD bs x = .ok (w, y)) : 0 ≤ w ∧ w ≤ 1048575 := by
  unfold numD at h
  cases hu : ups bs 21 0 x with
  | error e' => rw [hu] at h; cases h
  | ok q =>
    obtain ⟨n, z⟩ := q
    rw [hu] at h
    have h : endD (downs bs n (n - 1) 0 1 z) = .ok (w, y) := h
    unfold endD at h
    cases hd : downs bs n (n - 1) 0 1 z with
    | error e' => rw [hd] at h; cases h
    | ok q =>
      obtain ⟨w', y'⟩ := q
      rw [hd] at h
      simp only at h
      have := downs_pos (by omega) hd
      split at h
      · cases h
      · cases h; omega
theorem numR_ok {bs l : List Int} {s : De} {y : De × List Int} {w : Int} (h : numR bs s l = .ok (w, y)) : 0 ≤ w ∧ w ≤ 1048575 := by
  unfold numR at h
  split at h
  · exact numD_ok h
  · cases h
theorem numR_err {bs l : List Int} {s : De} {e : Int} (h : numR bs s l = .error e) : e = 3 ∨ e = 4 ∨ e = 130 := by
  unfold numR at h
  split at h
  · exact (numD_err h).imp id .inl
  · cases h; exact .inr (.inr rfl)
def unfI (v : Int) : Int := if v % 2 = 1 then -(v / 2) - 1 else v / 2
def sgnR (R : Except Int (Int × De × List Int)) : Except Int (Int × De × List Int) := match R with
  | .error e => .error e
  | .ok (w, y) => .ok (unfI w, y)
theorem NPost.sgn {O : De → Ob} {m d : Nat} {h h' : Hp} {s : De} {R : Except Int (Int × De × List Int)} {w : Int} {y : De × List Int} {os : Option Addr} {cap : Nat} (hR : R = .ok (w, y)) (h1 : h'.get d = some (O y.1)) (h2 : Ow h' 1 os 32 cap (y.2.map (Value.int .i64))) (h3 : Nw h os) (g : DGd y.1 m) (o : SOk y.2) (fm : Fm (fun x => x = d) h h') :
    NPost O m h d s (sgnR R) (.tuple #[.int .i64 (unfI w), .slice os 32 cap, .int .i64 0]) h' :=
  ⟨fun e he => (by rw [hR] at he; cases he), fun w' y' he => (by rw [hR] at he; cases he; exact ⟨os, cap, rfl, h1, h2, h3, g, o⟩), fm⟩
theorem and1 {v : Int} (hv : 0 ≤ v ∧ v ≤ 1048575) : IntKind.i64.wrap ((BitVec.ofInt IntKind.i64.bits v &&& BitVec.ofInt IntKind.i64.bits 1).toNat : Int) = v % 2 := by
  obtain ⟨x, rfl⟩ : ∃ x : Nat, v = x := ⟨v.toNat, by omega⟩
  have e3 : (BitVec.ofInt IntKind.i64.bits (x : Int) &&& BitVec.ofInt IntKind.i64.bits 1).toNat = x % 2 := by
    show (BitVec.ofInt 64 (x : Int) &&& BitVec.ofInt 64 1).toNat = _
    rw [BitVec.toNat_and]
    have h1 : (BitVec.ofInt 64 (x : Int)).toNat = x := by simp [BitVec.toNat_ofInt]; omega
    have h2 : (BitVec.ofInt 64 1).toNat = 1 := by decide
    rw [h1, h2, Nat.and_one_is_mod]
  rw [e3, i64 (by omega)]
  rfl
theorem c_Unfold {h : Hp} {v : Int} (hv : 0 ≤ v ∧ v ≤ 1048575) : ACalls Try.prog 77 [.int .i64 v] h fun r h' => r = .int .i64 (unfI v) ∧ h' = h := by
  refine dioramaref01_Unfold_ok.snd hm rfl fun w => ?_
  rw [WF_eq, dioramaref01_Unfold]
  have e1 : IntKind.i64.wrap (v.tmod 2) = v % 2 := by rw [Int.tmod_eq_emod_of_nonneg (by omega), i64 (by omega)]
  have e1' : v.tmod 2 = v % 2 := by rw [Int.tmod_eq_emod_of_nonneg (by omega)]
  have e2 : IntKind.i64.wrap (v.tdiv 2) = v / 2 := by rw [Int.tdiv_eq_ediv_of_nonneg (by omega), i64 (by omega)]
  have e3 : IntKind.i64.wrap (0 - v / 2) = -(v / 2) := by rw [i64 (by omega)]; omega
  have e4 : IntKind.i64.wrap (-(v / 2) - 1) = -(v / 2) - 1 := i64 (by omega)
  have h0 : ¬ v < 0 := by omega
  have h1 : ¬ 4611686018427387904 < v := by omega
  by_cases hodd : v % 2 = 1
  · have e5 : EqI (v % 2) 1 = True := eq_true hodd
    have hu : unfI v = -(v / 2) - 1 := if_pos hodd
    simp +contextual only [↓AM, ↓AV, AP, h0, h1, e1, e1', e2, e3, e4, e5, hu]
    try decide
  · have e5 : EqI (v % 2) 1 = False := eq_false hodd
    have hu : unfI v = v / 2 := if_neg hodd
    simp +contextual only [↓AM, ↓AV, AP, h0, h1, e1, e1', e2, e3, e4, e5, hu]
    try decide
theorem c_DSigned {h : Hp} {d n c m lc : Nat} {a la : Option Addr} {bs l : List Int} {s : De} (hd : h.get d = some (pO a n c s)) (r : Rd h 1 a n (bs.map (Value.int .u8))) (hb : Bytes bs) (hn : n ≤ 140737488351232) (hn0 : 0 < n)
    (d6 : ¬ At a d) (g : DGd s bs.length) (hl : Rd h 1 la m (l.map (Value.int .i64))) (hm' : m ≤ 140737488351232) :
    ACalls Try.prog 42 [.pointer (some ⟨d, 0, none⟩), .slice la m lc] h (NPost (pO a n c) bs.length h d s (sgnR (numR bs s l))) := by
  refine arith_Decoder__Signed_ok.snd hm rfl fun w => ?_
  rw [WF_eq, arith_Decoder__Signed]
  simp +contextual only [↓AM, ↓AV, AP]
  refine (c_DNumber hd r hb hn hn0 d6 g hl hm').use ?_
  rintro r h1 w1 ⟨he, hk, fm⟩
  cases hR : numR bs s l with
  | error e =>
    obtain ⟨rfl, h2⟩ := he e hR
    have e0 : EqI e 0 = False := eq_false fun h => by have := numR_err hR; have h : e = 0 := h; omega
    simp +contextual only [↓AM, ↓AV, AP, e0]
    exact NPost.err rfl h2 fm
  | ok q =>
    obtain ⟨v, y⟩ := q
    obtain ⟨os, cap, rfl, h2, h3, h4, h5, h6⟩ := hk v y hR
    have hv := numR_ok hR
    have e1 := and1 hv
    have fin := NPost.sgn (O := pO a n c) (s := s) (R := .ok (v, y)) rfl h2 h3 h4 h5 h6 fm
    by_cases hodd : v % 2 = 1
    · have e5 : EqI (v % 2) 1 = True := eq_true hodd
      have hu : unfI v = -(v / 2) - 1 := if_pos hodd
      have e2 : IntKind.i64.wrap (v + 1) = v + 1 := i64 (by omega)
      have e3 : IntKind.i64.wrap (0 - (v + 1)) = -(v + 1) := by rw [i64 (by omega)]; omega
      have e4 : IntKind.i64.wrap ((-(v + 1)).tdiv 2) = -(v / 2) - 1 := by
        rw [Int.neg_tdiv, Int.tdiv_eq_ediv_of_nonneg (by omega), i64 (by omega)]; omega
      rw [hu] at fin
      simp +contextual only [↓AM, ↓AV, AP, e1, e2, e3, e4, e5]
      refine ⟨by decide, fin⟩
    · have e5 : EqI (v % 2) 1 = False := eq_false hodd
      have hu : unfI v = v / 2 := if_neg hodd
      have e2 : IntKind.i64.wrap (v.tdiv 2) = v / 2 := by rw [Int.tdiv_eq_ediv_of_nonneg (by omega), i64 (by omega)]
      rw [hu] at fin
      simp +contextual only [↓AM, ↓AV, AP, e1, e2, e5]
      refine ⟨by decide, fin⟩
theorem c_rDSigned {h : Hp} {d n c m lc : Nat} {a la : Option Addr} {bs l : List Int} {s : De} (hd : h.get d = some (rO a n c s)) (r : Rd h 1 a n (bs.map (Value.int .u8))) (hb : Bytes bs) (hn : n ≤ 140737488351232) (hn0 : 0 < n)
    (d6 : ¬ At a d) (g : DGd s bs.length) (hl : Rd h 1 la m (l.map (Value.int .i64))) (hm' : 8 * m ≤ 140737488351232) :
    ACalls Try.prog 58 [.pointer (some ⟨d, 0, none⟩), .slice la m lc] h (NPost (rO a n c) bs.length h d s (sgnR (numR bs s l))) := by
  refine dioramaref13_Decoder__Signed_ok.snd hm rfl fun w => ?_
  rw [WF_eq, dioramaref13_Decoder__Signed]
  simp +contextual only [↓AM, ↓AV, AP]
  refine (c_rDNumber hd r hb hn hn0 d6 g hl hm').use ?_
  rintro r h1 w1 ⟨he, hk, fm⟩
  cases hR : numR bs s l with
  | error e =>
    obtain ⟨rfl, h2⟩ := he e hR
    have e0 : EqI e 0 = False := eq_false fun h => by have := numR_err hR; have h : e = 0 := h; omega
    simp +contextual only [↓AM, ↓AV, AP, e0]
    exact NPost.err rfl h2 fm
  | ok q =>
    obtain ⟨v, y⟩ := q
    obtain ⟨os, cap, rfl, h2, h3, h4, h5, h6⟩ := hk v y hR
    simp +contextual only [↓AM, ↓AV, AP]
    refine (c_Unfold (numR_ok hR)).use ?_
    rintro _ h1 w1 ⟨rfl, rfl⟩
    simp +contextual only [↓AM, ↓AV, AP]
    exact NPost.sgn (O := rO a n c) (s := s) (R := .ok (v, y)) rfl h2 h3 h4 h5 h6 fm
end Go.Proofs.Ytholkooikmbamaa.Ar
