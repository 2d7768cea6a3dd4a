/- dioramaref20.Parse: what it answers, out of its ways.
   Conditions: the pure function answers. -/
import Derived.Test.YtndbhfbgigefnaaRefTail
namespace Go.Proofs.Ytndbhfbgigefnaa.PA
open Go.RowKit Go.Proofs.YtndbhfbgigefnaaW.PrintWords Go.Proofs.YtndbhfbgigefnaaW.PrintLast Go.Proofs.YtndbhfbgigefnaaW.PrintMore
theorem dioramaref20_Parse.calls (k : Nat) (a0_0 : Int) (a0_1 : Bool) (a1 : ByteArray) (r1 : Int) (r2 : Int) (r3 : Int) (r4 : Int) (r5 : Int) (w : World) (h : dioramaref20_Parse.f k a0_0 a0_1 a1 = some (r1, r2, r3, r4, r5)) :
    Calls Try.prog 28 #[.agg #[.int .i64 a0_0, .bool a0_1], .string a1] w fun e w' => e = .returned (.tuple #[.agg #[.int .i64 r1, .int .i64 r2, .int .i64 r3, .int .i64 r4], .int .i64 r5]) ∧ Below w.heap.size w w' := by
  unfold dioramaref20_Parse.f at h
  rw [Option.bind_eq_some_iff] at h
  obtain ⟨e, he, h⟩ := h
  by_cases h0 : e = 0
  rotate_left
  · rw [if_neg h0] at h
    cases h
    exact rp_err _ _ _ _ w he h0
  rw [if_pos h0] at h
  subst h0
  by_cases hf : rform a0_1 a1
  rotate_left
  · rw [if_neg hf] at h
    cases h
    by_cases hs : a1.size = 11
    · by_cases h2 : bt a1 2 = 58
      · by_cases h5 : bt a1 5 = 58
        · exact rp_eight _ _ _ w he hs h2 h5 (fun h8 => hf ⟨hs, h2, h5, h8⟩)
        · exact rp_five _ _ _ w he hs h2 h5
      · exact rp_two _ _ _ w he hs h2
    · exact rp_size _ _ _ w he hs
  rw [if_pos hf] at h
  obtain ⟨hs, h2, h5, h8⟩ := hf
  by_cases hd : rdigits a1
  rotate_left
  · rw [if_neg hd] at h
    cases h
    exact rp_bad _ _ _ w he hs h2 h5 h8 hd
  rw [if_pos hd, Option.bind_eq_some_iff] at h
  obtain ⟨⟨n, e⟩, hc, h⟩ := h
  by_cases hn : e = 0
  · subst hn
    cases h
    exact rp_good k n _ _ _ w he hs h2 h5 h8 hd hc
  · rw [if_neg hn] at h
    cases h
    exact rp_none k n e _ _ _ w he hs h2 h5 h8 hd hc hn
end Go.Proofs.Ytndbhfbgigefnaa.PA
