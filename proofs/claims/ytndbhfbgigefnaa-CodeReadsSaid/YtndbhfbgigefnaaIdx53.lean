/- slices.ContainsFunc over samples, walked by hand: it tells whether there is an element that the function takes.
   Conditions: the function is the one that asks for four bytes. -/
import Derived.Test.YtndbhfbgigefnaaPAx0
namespace Go.Proofs.Ytndbhfbgigefnaa.PA
open Go.RowKit Go.Proofs.YtndbhfbgigefnaaW.PrintWords Go.Proofs.YtndbhfbgigefnaaW.PrintLast Go.Proofs.YtndbhfbgigefnaaW.PrintMore
set_option linter.unusedVariables false
set_option linter.unusedSimpArgs false
/-- Are these not four bytes? -/
def not4 (x : S82) : Bool := (x.f5.length : Int) != 4
set_option maxRecDepth 100000 in
theorem not4.calls (f0 f1 f2 : Int) (f3 : Bool) (A4 : Option Addr) (n4 c4 : Nat) (A5 : Option Addr) (n5 c5 : Nat) (w : World) :
    Calls Try.prog 53 #[.agg #[.int .i64 f0, .int .i64 f1, .int .i64 f2, .bool f3, .slice A4 n4 c4, .slice A5 n5 c5]] w fun e w' => e = .returned (.bool ((n5 : Int) != 4)) ∧ Below w.heap.size w w' := by
  go_enter Try.func53, Try.ntmps53
  go_wp2
  go_ret
  exact ⟨rfl, below_alloc (Below.refl _ _) _⟩
/-- The place of the first element that is asked for, or -1. -/
def idxOf {α : Type} (p : α → Bool) (l : List α) : Int := if l.findIdx p < l.length then (l.findIdx p : Int) else -1
theorem idx_hit {α : Type} {p : α → Bool} {l : List α} {d : α} {n : Nat} (hn : n < l.length) (h : n ≤ l.findIdx p) (hp : p (l.getD n d) = true) : idxOf p l = n := by
  have e : l.getD n d = l[n] := by rw [List.getD_eq_getElem?_getD, List.getElem?_eq_getElem hn]; rfl
  rw [e] at hp
  have h2 : l.findIdx p = n := by
    rcases Nat.lt_or_ge n (l.findIdx p) with h3 | h3
    · exact absurd hp (by simpa using List.not_of_lt_findIdx h3)
    · omega
  unfold idxOf
  rw [h2, if_pos hn]
theorem idx_step {α : Type} {p : α → Bool} {l : List α} {d : α} {n : Nat} (hn : n < l.length) (h : n ≤ l.findIdx p) (hp : p (l.getD n d) = false) : n + 1 ≤ l.findIdx p := by
  have e : l.getD n d = l[n] := by rw [List.getD_eq_getElem?_getD, List.getElem?_eq_getElem hn]; rfl
  rw [e] at hp
  rcases Nat.lt_or_ge n (l.findIdx p) with h3 | h3
  · omega
  · have h4 : l.findIdx p = n := by omega
    have := List.findIdx_getElem (p := p) (xs := l) (w := by omega)
    simp only [h4] at this
    rw [hp] at this
    exact absurd this (by simp)
theorem idx_none {α : Type} {p : α → Bool} {l : List α} (h : l.length ≤ l.findIdx p) : idxOf p l = -1 := by
  unfold idxOf
  rw [if_neg (by omega)]
theorem any_idx {α : Type} (p : α → Bool) (l : List α) : decide (idxOf p l ≥ 0) = l.any p := by
  unfold idxOf
  by_cases h : l.findIdx p < l.length
  · rw [if_pos h]
    have := List.findIdx_getElem (p := p) (xs := l) (w := h)
    have h2 : l.any p = true := List.any_eq_true.2 ⟨_, List.getElem_mem h, this⟩
    rw [h2]; simp
  · rw [if_neg h]
    have h2 : l.any p = false := by
      rw [List.any_eq_false]
      intro x hx hp
      exact h (List.findIdx_lt_length_of_exists ⟨x, hx, hp⟩)
    rw [h2]; simp
set_option maxHeartbeats 800000 in
set_option maxRecDepth 100000 in
theorem index53 (A : Option Addr) (c : Nat) (l : List S82) (w : World) (hr : Kd.C k82 w A l.length l) (hc : l.length ≤ c) :
    Calls Try.prog 63 #[.slice A l.length c, .func (.func 53) #[] #[]] w fun e w' => e = .returned (.int .i64 (idxOf not4 l)) ∧ Below w.heap.size w w' := by
  have hm : l.length ≤ 9223372036854775807 := hr.2.1
  have HR := Aside0.mk hr
  clear hr
  go_enter Try.func63, Try.ntmps63
  go_wp2
  go_loopw [8] (fun i wr => ∃ n : Nat, i = .int .i64 n ∧ n ≤ l.length ∧ Aside0 (n ≤ l.findIdx not4) ∧ Aside0 (Below w.heap.size w wr)) (fun i _ => l.length - (intOf i).toNat)
  case atStart => exact ⟨0, rfl, Nat.zero_le _, ⟨Nat.zero_le _⟩, ⟨Below.refl _ _⟩⟩
  case round =>
    obtain ⟨n, rfl, hn, HN, HB⟩ := hrel
    by_cases hlt : n < l.length
    · obtain ⟨ad, A4, c4, A5, c5, rfl, e0, e1, e2, e3, e4, e5, rest⟩ := at_T82 (Kd.C_below HR.out HB.out) (n : Int) (by omega) (by omega)
      clear rest
      simp only [Int.toNat_natCast] at e0 e1 e2 e3 e4 e5
      go_wp2_with (go_at_call 53; (with_reducible refine (not4.calls _ _ _ _ _ _ _ _ _ _ _).mono ?_); rintro e w1 ⟨rfl, hb⟩)
      · go_ret
        have hp : not4 (rd_T82 l (n : Int)) = true := by assumption
        exact ⟨by rw [idx_hit hlt HN.out hp]; rfl, below_step HB.out hb⟩
      · have hp : not4 (rd_T82 l (n : Int)) = false := by assumption
        go_roundw
        case rel => exact ⟨n + 1, by go_num, by omega, ⟨idx_step hlt HN.out hp⟩, ⟨below_step HB.out hb⟩⟩
        case measure => simp [intOf]; omega
    · go_wp2
      go_ret
      exact ⟨by rw [idx_none (l := l) (p := not4) (by have := HN.out; omega)]; rfl, HB.out⟩
set_option maxRecDepth 100000 in
theorem contains53 (A : Option Addr) (c : Nat) (l : List S82) (w : World) (hr : Kd.C k82 w A l.length l) (hc : l.length ≤ c) :
    Calls Try.prog 52 #[.slice A l.length c, .func (.func 53) #[] #[]] w fun e w' => e = .returned (.bool (l.any not4)) ∧ Below w.heap.size w w' := by
  have hq := any_idx not4 l
  have HQ := Aside0.mk hq
  clear hq
  go_enter Try.func52, Try.ntmps52
  go_wp2_with (go_at_call 63; (with_reducible refine (index53 A c l _ hr hc).mono ?_); rintro e w1 ⟨rfl, hb⟩)
  go_ret
  exact ⟨by rw [← HQ.out]; rfl, hb⟩
def api_Sample_52.f (l : List S82) (fn : Nat) : Option Bool := if fn = 53 then some (l.any not4) else none
theorem api_Sample_52.calls (A0 : Option Addr) (c0 : Nat) (l0 : List S82) (a1 : Nat) (r : Bool) (w : World) (hr0 : Kd.C k82 w A0 l0.length l0) (hc0 : l0.length ≤ c0) (h : api_Sample_52.f l0 a1 = some r) :
    Calls Try.prog 52 #[.slice A0 l0.length c0, .func (.func a1) #[] #[]] w fun e w' => e = .returned (.bool r) ∧ Below w.heap.size w w' := by
  unfold api_Sample_52.f at h
  split at h
  · rename_i e
    subst e
    rw [← Option.some.inj h]
    exact contains53 A0 c0 l0 w hr0 hc0
  · simp at h
end Go.Proofs.Ytndbhfbgigefnaa.PA
