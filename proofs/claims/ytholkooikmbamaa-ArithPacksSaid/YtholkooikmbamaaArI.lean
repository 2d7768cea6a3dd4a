/- The reference's encoder: its calls. Plain theorems over the abstract machine.
   Conditions: none. -/
import Derived.Test.YtholkooikmbamaaArH
namespace Go.Proofs.Ytholkooikmbamaa.Ar
open Go Go.RowKit Go.Proofs.Ytholkooikmbamaa.Am Go.Proofs.Ytholkooikmbamaa.Af
set_option linter.unusedVariables false
set_option linter.unusedSimpArgs false
set_option maxRecDepth 20000

theorem c_rBit {h : Hp} {b : Nat} {oa : Option Addr} {e : En} {p bt : Int} (he : EncAt .i64 h b oa e) (g : Fit e) :
    ACalls Try.prog 50 [.pointer (some ⟨b, 0, none⟩), .int .i64 p, .int .i64 bt] h fun v h' => v = pairV (bitI e p bt) ∧ ∃ oa', EncAt .i64 h' b oa' (bitE e p bt) ∧ Fm (Ft b oa) h h' ∧ ∀ x, At oa' x → At oa x ∨ h.size ≤ x := by
  refine dioramaref13_Encoder__Bit_ok.snd hm rfl fun w => ?_
  rw [WF_eq, dioramaref13_Encoder__Bit]
  simp +contextual only [↓AM, ↓AV, AP]
  refine c_rNext.use ?_
  rintro _ h w1 ⟨rfl, rfl⟩
  have he' := he
  obtain ⟨ln, cap, hg, ow, hna⟩ := he'
  have stay : ¬ (St p ∧ (bt = 0 ∨ bt = 1) ∧ ¬ 1048576 < e.n) → ∃ oa', EncAt .i64 h b oa' (bitE e p bt) ∧ Fm (Ft b oa) h h ∧ ∀ x, At oa' x → At oa x ∨ h.size ≤ x := by
    intro hno
    rw [bitE, if_neg hno]
    exact ⟨oa, he, Fm.refl, fun x hx => .inl hx⟩
  by_cases hp : St p
  · by_cases hb : bt = 0 ∨ bt = 1
    · have hq : nextI p bt = (stepI p bt, 0) := by rw [nextI, if_pos hp, if_pos hb]
      rw [hq]
      simp +contextual only [↓AM, ↓AV, AP, pairV, rd_mk hg]
      refine ⟨fun hn => ⟨by simp [bitI, hp, hb, hn], stay (by simp [hn])⟩, fun hn => ?_⟩
      refine (c_rput he g.toGd hp hb g.short g.num).use ?_
      rintro _ h1 w2 ⟨oa', q1, q2, q3⟩
      simp +contextual only [↓AM, ↓AV, AP]
      refine ⟨by simp [bitI, hp, hb, hn], oa', ?_, q2, q3⟩
      rw [bitE, if_pos ⟨hp, hb, hn⟩]
      exact q1
    · have hq : nextI p bt = (0, 1) := by rw [nextI, if_pos hp, if_neg hb]
      rw [hq]
      simp +contextual only [↓AM, ↓AV, AP, pairV]
      exact ⟨by simp [bitI, hp, hb], stay (fun h => hb h.2.1)⟩
  · have hq : nextI p bt = (0, 130) := by rw [nextI, if_neg hp]
    rw [hq]
    simp +contextual only [↓AM, ↓AV, AP, pairV]
    exact ⟨by simp [bitI, hp], stay (fun h => hp h.1)⟩
theorem c_rNewEncoder {h : Hp} : ACalls Try.prog 14 [] h fun v h' => v = .pointer (some ⟨h.size, 0, none⟩) ∧ EncAt .i64 h' h.size none new ∧ Fm No h h' ∧ h.size < h'.size := by
  refine dioramaref13_NewEncoder_ok.snd hm rfl fun w => ?_
  rw [WF_eq, dioramaref13_NewEncoder]
  simp +contextual only [↓AM, ↓AV, AP]
  exact ⟨⟨0, 0, gnew, Ow.mk0, At.none⟩, Fm.new Fm.refl, Nat.lt_succ_self _⟩
theorem c_rClose {h : Hp} {b : Nat} {oa : Option Addr} {e : En} (he : EncAt .i64 h b oa e) (g : Fit e) :
    ACalls Try.prog 23 [.pointer (some ⟨b, 0, none⟩)] h fun v h' => ∃ oa n cap, v = .slice oa n cap ∧ Ow h' 1 oa n cap ((closed e).map (Value.int .u8)) ∧ Nw h oa ∧ Fm No h h' := by
  refine dioramaref13_Encoder__Close_ok.snd hm rfl fun w => ?_
  rw [WF_eq, dioramaref13_Encoder__Close]
  obtain ⟨ln, cap, hg, ow, hna⟩ := he
  have la := ow.rd.ilen
  have hlen := g.short
  have hlo := g.low
  simp +contextual only [↓AM, ↓AV, AP, rd_mk hg]
  refine (c_CopyBytes ow.rd (by omega)).use ?_
  rintro _ h1 w2 ⟨oa1, cap1, rfl, ow1, nw, fm⟩
  have hg1 := fm.keep w hg id
  have e24 : IntKind.u8.wrap (e.low.fdiv (2 ^ min 24 IntKind.i64.bits)) = e.low / 16777216 := by
    rw [show min 24 IntKind.i64.bits = 24 from rfl, shr_u (by omega)]; exact u8 (by omega)
  have e16 : IntKind.u8.wrap (e.low.fdiv (2 ^ min 16 IntKind.i64.bits)) = e.low / 65536 % 256 := by
    rw [show min 16 IntKind.i64.bits = 16 from rfl, shr_u (by omega), IntKind.wrap_u8]; rfl
  have e8 : IntKind.u8.wrap (e.low.fdiv (2 ^ min 8 IntKind.i64.bits)) = e.low / 256 % 256 := by
    rw [show min 8 IntKind.i64.bits = 8 from rfl, shr_u (by omega), IntKind.wrap_u8]; rfl
  have e0 : IntKind.u8.wrap e.low = e.low % 256 := IntKind.wrap_u8 _
  simp +contextual only [↓AM, ↓AV, AP, rd_mk hg1, src_new, e24, e16, e8, e0]
  refine ow1.push w2 rfl (by omega) fun oa2 c2 h2 ow2 w3 f2 n2 => ?_
  obtain ⟨g1, g2⟩ := grown fm nw f2 n2
  simp +contextual only [↓AM, ↓AV, AP]
  refine ⟨_, _, _, rfl, ?_, g2, g1⟩
  rw [closed, List.map_append]
  exact ow2
def goodB (l : List Int) : Bool := (!l.any fun p => !decide (St p)) && decide (l.length = 32)
theorem c_good {h : Hp} {a : Option Addr} {n c : Nat} {l : List Int} (hl : Rd h 1 a n (l.map (Value.int .i64))) (hn : n ≤ 140737488351232) :
    ACalls Try.prog 71 [.slice a n c] h fun v h' => v = .bool (goodB l) ∧ h' = h := by
  refine dioramaref13_good_ok.snd hm rfl fun w => ?_
  rw [WF_eq, dioramaref13_good]
  have la := hl.ilen
  simp +contextual only [↓AM, ↓AV, AP]
  refine WL.mk (fun k t h' => h' = h ∧ ∃ i : Nat, i ≤ n ∧ k = n - i ∧ ((l.take i).any fun p => !decide (St p)) = false ∧ t = [(0, some (.slice a n c)), (3, some (.int .i64 i))]) ⟨n, rfl, 0, by simp, rfl, rfl, rfl⟩ ?_
  rintro k t _ ⟨rfl, i, hi, rfl, hall, rfl⟩
  by_cases hin : i < n
  · obtain ⟨b1, o1, s1, rfl, f1, u, hu, r1⟩ := hl.int hin
    simp +contextual only [↓AM, ↓AV, AP, f1, r1, hin]
    refine c_State.use ?_
    rintro _ h w1 ⟨rfl, rfl⟩
    simp +contextual only [↓AM, ↓AV, AP]
    refine ⟨fun hs => ?_, fun hs => ⟨_, ?_, i + 1, hin, rfl, ?_, ?_⟩⟩
    · have : (l.any fun p => !decide (St p)) = true := List.any_eq_true.2 ⟨u, List.mem_of_getElem? hu, by simp [hs]⟩
      simp only [goodB, this]
      rfl
    · omega
    · simp only [not_dec] at hall
      rw [List.take_add_one, hu, List.any_append, hall]; simp [hs]
    · rw [i64 (by omega)]; rfl
  · have : n = i := by omega
    subst this
    rw [List.take_of_length_le (by omega)] at hall
    simp +contextual only [↓AM, ↓AV, AP, hin]
    have e32 : decide (EqI ((l.length : Nat) : Int) 32) = decide (l.length = 32) := decide_eq_decide.2 (by simp only [EqI]; omega)
    simp only [goodB, hall, ← la, e32]
    rfl
theorem c_first {h : Hp} {i : Nat} (hi : i ≤ 1000) : ACalls Try.prog 73 [.int .i64 i] h fun v h' => v = .int .i64 (min i 15 : Nat) ∧ h' = h := by
  refine dioramaref13_first_ok.snd hm rfl fun w => ?_
  rw [WF_eq, dioramaref13_first]
  simp +contextual only [↓AM, ↓AV, AP]
  refine ⟨fun h => ?_, fun h => ?_⟩ <;> congr 1 <;> omega
theorem c_Length {h : Hp} {w : Nat} (hw : w ≤ 2097152) : ACalls Try.prog 72 [.int .i64 w] h fun v h' => v = .int .i64 (bl w) ∧ h' = h := by
  refine dioramaref01_Length_ok.snd hm rfl fun wf => ?_
  rw [WF_eq, dioramaref01_Length]
  simp +contextual only [↓AM, ↓AV, AP]
  refine WL.mk (fun m t h' => h' = h ∧ ∃ x c : Nat, m = x ∧ x ≤ w ∧ c + bl x = bl w ∧ c ≤ 100 ∧ t = [(0, some (.int .i64 x)), (3, some (.int .i64 c))]) ⟨w, rfl, w, 0, rfl, Nat.le_refl _, by omega, by omega, rfl⟩ ?_
  rintro x t _ ⟨rfl, _, c, rfl, hx, hc, hc2, rfl⟩
  have hblw : bl w ≤ 22 := bl_le (by omega)
  by_cases h0 : (0 : Int) < (x : Int)
  · have e2 : IntKind.i64.wrap ((x : Int).tdiv 2) = ((x / 2 : Nat) : Int) := by rw [IntWalk.i64_quo _ _ (by omega)]; omega
    simp +contextual only [↓AM, ↓AV, AP, h0, e2, show (2 : Int) ≠ 0 by decide]
    refine ⟨_, ?_, x / 2, c + 1, rfl, by omega, ?_, ?_, ?_⟩
    · omega
    · rw [bl_half (by omega)] at hc; omega
    · rw [bl_half (by omega)] at hc; omega
    · rw [i64 (by omega)]; rfl
  · have : x = 0 := by omega
    subst this
    simp +contextual only [↓AM, ↓AV, AP, h0]
    congr 2
theorem c_Fold {h : Hp} {s : Int} (hs : -1000000 ≤ s ∧ s ≤ 1000000) : ACalls Try.prog 74 [.int .i64 s] h fun v h' => v = .int .i64 (if s < 0 then -2 * s - 1 else 2 * s) ∧ h' = h := by
  refine dioramaref01_Fold_ok.snd hm rfl fun w => ?_
  rw [WF_eq, dioramaref01_Fold]
  have h1 : ¬ s < -2305843009213693952 := by omega
  have h2 : ¬ 2305843009213693952 < s := by omega
  simp +contextual only [↓AM, ↓AV, AP, h1, h2]
  refine ⟨fun h => ?_, fun h => ?_⟩
  · rw [i64 (n := -2 * s) (by omega), i64 (by omega)]
  · rw [i64 (by omega)]
end Go.Proofs.Ytholkooikmbamaa.Ar
