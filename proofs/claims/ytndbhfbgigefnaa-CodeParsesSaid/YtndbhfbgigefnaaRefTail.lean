/- dioramaref20.Parse, its way to the end (an array whose places are no constants; two loops, unrolled): what the printed functions it calls answer.
   Conditions: the pure function answers. -/
import Derived.Test.YtndbhfbgigefnaaPAx13
import Derived.Test.YtndbhfbgigefnaaPAx26
import Derived.Test.YtndbhfbgigefnaaPAx40
import Derived.Test.YtndbhfbgigefnaaRefParse
import Derived.LoopN
import Derived.RegionTactic
import Derived.ChangeAlike
namespace Go.Proofs.Ytndbhfbgigefnaa.PA
open Go.RowKit Go.Proofs.YtndbhfbgigefnaaW.PrintWords Go.Proofs.YtndbhfbgigefnaaW.PrintLast Go.Proofs.YtndbhfbgigefnaaW.PrintMore
set_option linter.unusedVariables false
set_option linter.unusedSimpArgs false
set_option maxHeartbeats 4000000 in
set_option maxRecDepth 100000 in
theorem rp_good (k : Nat) (n : Int) (F : Int) (D : Bool) (s : ByteArray) (w : World) (he : dioramaref20_Check.f F D = some 0) (hs : s.size = 11) (h2 : bt s 2 = 58) (h5 : bt s 5 = 58) (h8 : bt s 8 = if D = true then 59 else 58) (hd : rdigits s) (hc : dioramaref20_Count.f k F D (rv2 s 0) (rv2 s 3) (rv2 s 6) (rv2 s 9) = some (n, 0)) :
    Calls Try.prog 28 #[.agg #[.int .i64 F, .bool D], .string s] w fun e w' => e = .returned (.tuple #[.agg #[.int .i64 (rv2 s 0), .int .i64 (rv2 s 3), .int .i64 (rv2 s 6), .int .i64 (rv2 s 9)], .int .i64 0]) ∧ Below w.heap.size w w' := by
  have hu23 := Try.underlying23
  have hu25 := Try.underlying25
  have HE := Aside0.mk he
  clear he
  have q1 : ((0 : Int) != 0) = false := rfl
  have n0 : 0 < s.size := by omega
  have n1 : 1 < s.size := by omega
  have n2 : 2 < s.size := by omega
  have n3 : 3 < s.size := by omega
  have n4 : 4 < s.size := by omega
  have n5 : 5 < s.size := by omega
  have n6 : 6 < s.size := by omega
  have n7 : 7 < s.size := by omega
  have n8 : 8 < s.size := by omega
  have n9 : 9 < s.size := by omega
  have n10 : 10 < s.size := by omega
  have hz : ((s.size : Int) != 11) = false := by simp [hs]
  have hz2 : (2 : Int) < s.size := by omega
  have hz5 : (5 : Int) < s.size := by omega
  have hz9 : (9 : Int) ≤ s.size := by omega
  have g2 : (((s[2]'n2).toNat : Int) != 58) = false := by rw [← rp_get s 2 n2]; exact bne_eq_false_iff_eq.mpr h2
  have g5 : (((s[5]'n5).toNat : Int) != 58) = false := by rw [← rp_get s 5 n5]; exact bne_eq_false_iff_eq.mpr h5
  have g8 : ((s.extract 8 9).toList == (sgn D).toList) = true := by rw [rp_ext8 s n8, sgn_at, ← rp_get s 8 n8]; exact decide_eq_true h8
  obtain ⟨d0, d1, d3, d4, d6, d7, d9, d10⟩ := hd
  have d0' : (48 : Int) ≤ ((s[0]'n0).toNat : Int) ∧ ((s[0]'n0).toNat : Int) ≤ (57 : Int) := by rw [← rp_get s 0 n0]; exact d0
  obtain ⟨x0, y0⟩ := d0'
  have d1' : (48 : Int) ≤ ((s[1]'n1).toNat : Int) ∧ ((s[1]'n1).toNat : Int) ≤ (57 : Int) := by rw [← rp_get s 1 n1]; exact d1
  obtain ⟨x1, y1⟩ := d1'
  have d3' : (48 : Int) ≤ ((s[3]'n3).toNat : Int) ∧ ((s[3]'n3).toNat : Int) ≤ (57 : Int) := by rw [← rp_get s 3 n3]; exact d3
  obtain ⟨x3, y3⟩ := d3'
  have d4' : (48 : Int) ≤ ((s[4]'n4).toNat : Int) ∧ ((s[4]'n4).toNat : Int) ≤ (57 : Int) := by rw [← rp_get s 4 n4]; exact d4
  obtain ⟨x4, y4⟩ := d4'
  have d6' : (48 : Int) ≤ ((s[6]'n6).toNat : Int) ∧ ((s[6]'n6).toNat : Int) ≤ (57 : Int) := by rw [← rp_get s 6 n6]; exact d6
  obtain ⟨x6, y6⟩ := d6'
  have d7' : (48 : Int) ≤ ((s[7]'n7).toNat : Int) ∧ ((s[7]'n7).toNat : Int) ≤ (57 : Int) := by rw [← rp_get s 7 n7]; exact d7
  obtain ⟨x7, y7⟩ := d7'
  have d9' : (48 : Int) ≤ ((s[9]'n9).toNat : Int) ∧ ((s[9]'n9).toNat : Int) ≤ (57 : Int) := by rw [← rp_get s 9 n9]; exact d9
  obtain ⟨x9, y9⟩ := d9'
  have d10' : (48 : Int) ≤ ((s[10]'n10).toNat : Int) ∧ ((s[10]'n10).toNat : Int) ≤ (57 : Int) := by rw [← rp_get s 10 n10]; exact d10
  obtain ⟨x10, y10⟩ := d10'
  have e0 : ((((s[0]'n0).toNat : Int) - (48 : Int)) * (10 : Int) + (((s[1]'n1).toNat : Int) - (48 : Int))) = rv2 s 0 := by unfold rv2; rw [← rp_get s 0 n0, ← rp_get s 1 n1]; rfl
  have e1 : ((((s[3]'n3).toNat : Int) - (48 : Int)) * (10 : Int) + (((s[4]'n4).toNat : Int) - (48 : Int))) = rv2 s 3 := by unfold rv2; rw [← rp_get s 3 n3, ← rp_get s 4 n4]; rfl
  have e2 : ((((s[6]'n6).toNat : Int) - (48 : Int)) * (10 : Int) + (((s[7]'n7).toNat : Int) - (48 : Int))) = rv2 s 6 := by unfold rv2; rw [← rp_get s 6 n6, ← rp_get s 7 n7]; rfl
  have e3 : ((((s[9]'n9).toNat : Int) - (48 : Int)) * (10 : Int) + (((s[10]'n10).toNat : Int) - (48 : Int))) = rv2 s 9 := by unfold rv2; rw [← rp_get s 9 n9, ← rp_get s 10 n10]; rfl
  rw [← e0, ← e1, ← e2, ← e3] at hc ⊢
  have HC := Aside0.mk hc
  clear hc e0 e1 e2 e3 d0 d1 d3 d4 d6 d7 d9 d10 h2 h5 h8 hs
  go_enter Try.func28, Try.ntmps28
  go_wp2_with (go_at_call 26; (with_reducible refine (dioramaref20_Check.calls F D 0 _ HE.out).mono ?_); rintro e w1 ⟨rfl, hb⟩)
  have H0 := P2.start hb
  have S0 : S2 w F D w1 := H0.S
  clear H0
  go_region_held3 (S2 w F D) (first | assumption | exact S2.keep (by assumption) (by assumption) | exact S2.keep (by assumption) (below_drew (Below.refl _ _)))
    ((go_at_call 51; refine (sign_any F D _).mono ?_; rintro e w' ⟨rfl, hb2⟩))
  rename_i hS
  have H2 := hS.2.2
  have hgg : w.heap.size + 1 < w'.heap.size := blk_lt H2.out.b4
  go_wp2
  refine wp_loop_rounds 5 ?_
  refine abs_rounds (P7 w w'.heap.size F D 0 0 0 0) ⟨⟨blk_alloc H2.out.b2 _, blk_alloc H2.out.b4 _, below_alloc H2.out.bl _⟩, blk_new _ _, hgg⟩ ?_
  generalize w'.heap.size = g at *
  intro W0 S
  have HS := Aside0.mk S
  clear S
  rw [rounds_succ]
  go_wp2
  refine wp_loop_rounds 3 ?_
  rw [rounds_succ]
  have k0 : W0.cell? ⟨g, 0, none⟩ = some (.int .i64 0) := (blk_cell HS.out.b7 0).trans rfl
  have z0 := blk_frozen HS.out.b7 0
  go_wp2
  go_region
  go_wp2
  refine abs_rounds (P7 w g F D (((s[0]'n0).toNat : Int) - (48 : Int)) 0 0 0) ⟨P2.store (P2.drew HS.out.p) HS.out.hg 0 _, blk_put (blk_drew HS.out.b7) 0 _ rfl, HS.out.hg⟩ ?_
  clear k0 z0 HS
  intro W1 S
  have HS := Aside0.mk S
  clear S
  rw [rounds_succ]
  have k0 : W1.cell? ⟨g, 0, none⟩ = some (.int .i64 (((s[0]'n0).toNat : Int) - (48 : Int))) := (blk_cell HS.out.b7 0).trans rfl
  have z0 := blk_frozen HS.out.b7 0
  go_wp2
  go_region
  go_wp2
  refine abs_rounds (P7 w g F D ((((s[0]'n0).toNat : Int) - (48 : Int)) * (10 : Int) + (((s[1]'n1).toNat : Int) - (48 : Int))) 0 0 0) ⟨P2.store (P2.drew HS.out.p) HS.out.hg 0 _, blk_put (blk_drew HS.out.b7) 0 _ rfl, HS.out.hg⟩ ?_
  clear k0 z0 HS
  intro W2 S
  have HS := Aside0.mk S
  clear S
  rw [rounds_succ]
  go_wp2
  rw [rounds_succ]
  go_wp2
  refine wp_loop_rounds 3 ?_
  rw [rounds_succ]
  have k0 : W2.cell? ⟨g, 1, none⟩ = some (.int .i64 0) := (blk_cell HS.out.b7 1).trans rfl
  have z0 := blk_frozen HS.out.b7 1
  go_wp2
  go_region
  go_wp2
  refine abs_rounds (P7 w g F D ((((s[0]'n0).toNat : Int) - (48 : Int)) * (10 : Int) + (((s[1]'n1).toNat : Int) - (48 : Int))) (((s[3]'n3).toNat : Int) - (48 : Int)) 0 0) ⟨P2.store (P2.drew HS.out.p) HS.out.hg 1 _, blk_put (blk_drew HS.out.b7) 1 _ rfl, HS.out.hg⟩ ?_
  clear k0 z0 HS
  intro W3 S
  have HS := Aside0.mk S
  clear S
  rw [rounds_succ]
  have k0 : W3.cell? ⟨g, 1, none⟩ = some (.int .i64 (((s[3]'n3).toNat : Int) - (48 : Int))) := (blk_cell HS.out.b7 1).trans rfl
  have z0 := blk_frozen HS.out.b7 1
  go_wp2
  go_region
  go_wp2
  refine abs_rounds (P7 w g F D ((((s[0]'n0).toNat : Int) - (48 : Int)) * (10 : Int) + (((s[1]'n1).toNat : Int) - (48 : Int))) ((((s[3]'n3).toNat : Int) - (48 : Int)) * (10 : Int) + (((s[4]'n4).toNat : Int) - (48 : Int))) 0 0) ⟨P2.store (P2.drew HS.out.p) HS.out.hg 1 _, blk_put (blk_drew HS.out.b7) 1 _ rfl, HS.out.hg⟩ ?_
  clear k0 z0 HS
  intro W4 S
  have HS := Aside0.mk S
  clear S
  rw [rounds_succ]
  go_wp2
  rw [rounds_succ]
  go_wp2
  refine wp_loop_rounds 3 ?_
  rw [rounds_succ]
  have k0 : W4.cell? ⟨g, 2, none⟩ = some (.int .i64 0) := (blk_cell HS.out.b7 2).trans rfl
  have z0 := blk_frozen HS.out.b7 2
  go_wp2
  go_region
  go_wp2
  refine abs_rounds (P7 w g F D ((((s[0]'n0).toNat : Int) - (48 : Int)) * (10 : Int) + (((s[1]'n1).toNat : Int) - (48 : Int))) ((((s[3]'n3).toNat : Int) - (48 : Int)) * (10 : Int) + (((s[4]'n4).toNat : Int) - (48 : Int))) (((s[6]'n6).toNat : Int) - (48 : Int)) 0) ⟨P2.store (P2.drew HS.out.p) HS.out.hg 2 _, blk_put (blk_drew HS.out.b7) 2 _ rfl, HS.out.hg⟩ ?_
  clear k0 z0 HS
  intro W5 S
  have HS := Aside0.mk S
  clear S
  rw [rounds_succ]
  have k0 : W5.cell? ⟨g, 2, none⟩ = some (.int .i64 (((s[6]'n6).toNat : Int) - (48 : Int))) := (blk_cell HS.out.b7 2).trans rfl
  have z0 := blk_frozen HS.out.b7 2
  go_wp2
  go_region
  go_wp2
  refine abs_rounds (P7 w g F D ((((s[0]'n0).toNat : Int) - (48 : Int)) * (10 : Int) + (((s[1]'n1).toNat : Int) - (48 : Int))) ((((s[3]'n3).toNat : Int) - (48 : Int)) * (10 : Int) + (((s[4]'n4).toNat : Int) - (48 : Int))) ((((s[6]'n6).toNat : Int) - (48 : Int)) * (10 : Int) + (((s[7]'n7).toNat : Int) - (48 : Int))) 0) ⟨P2.store (P2.drew HS.out.p) HS.out.hg 2 _, blk_put (blk_drew HS.out.b7) 2 _ rfl, HS.out.hg⟩ ?_
  clear k0 z0 HS
  intro W6 S
  have HS := Aside0.mk S
  clear S
  rw [rounds_succ]
  go_wp2
  rw [rounds_succ]
  go_wp2
  refine wp_loop_rounds 3 ?_
  rw [rounds_succ]
  have k0 : W6.cell? ⟨g, 3, none⟩ = some (.int .i64 0) := (blk_cell HS.out.b7 3).trans rfl
  have z0 := blk_frozen HS.out.b7 3
  go_wp2
  go_region
  go_wp2
  refine abs_rounds (P7 w g F D ((((s[0]'n0).toNat : Int) - (48 : Int)) * (10 : Int) + (((s[1]'n1).toNat : Int) - (48 : Int))) ((((s[3]'n3).toNat : Int) - (48 : Int)) * (10 : Int) + (((s[4]'n4).toNat : Int) - (48 : Int))) ((((s[6]'n6).toNat : Int) - (48 : Int)) * (10 : Int) + (((s[7]'n7).toNat : Int) - (48 : Int))) (((s[9]'n9).toNat : Int) - (48 : Int))) ⟨P2.store (P2.drew HS.out.p) HS.out.hg 3 _, blk_put (blk_drew HS.out.b7) 3 _ rfl, HS.out.hg⟩ ?_
  clear k0 z0 HS
  intro W7 S
  have HS := Aside0.mk S
  clear S
  rw [rounds_succ]
  have k0 : W7.cell? ⟨g, 3, none⟩ = some (.int .i64 (((s[9]'n9).toNat : Int) - (48 : Int))) := (blk_cell HS.out.b7 3).trans rfl
  have z0 := blk_frozen HS.out.b7 3
  go_wp2
  go_region
  go_wp2
  refine abs_rounds (P7 w g F D ((((s[0]'n0).toNat : Int) - (48 : Int)) * (10 : Int) + (((s[1]'n1).toNat : Int) - (48 : Int))) ((((s[3]'n3).toNat : Int) - (48 : Int)) * (10 : Int) + (((s[4]'n4).toNat : Int) - (48 : Int))) ((((s[6]'n6).toNat : Int) - (48 : Int)) * (10 : Int) + (((s[7]'n7).toNat : Int) - (48 : Int))) ((((s[9]'n9).toNat : Int) - (48 : Int)) * (10 : Int) + (((s[10]'n10).toNat : Int) - (48 : Int)))) ⟨P2.store (P2.drew HS.out.p) HS.out.hg 3 _, blk_put (blk_drew HS.out.b7) 3 _ rfl, HS.out.hg⟩ ?_
  clear k0 z0 HS
  intro W8 S
  have HS := Aside0.mk S
  clear S
  rw [rounds_succ]
  go_wp2
  rw [rounds_succ]
  have L0 : w.heap.size < W8.heap.size := blk_lt HS.out.p.b2
  have L1 : w.heap.size + 1 < W8.heap.size := blk_lt HS.out.p.b4
  have L2 : g < W8.heap.size := blk_lt HS.out.b7
  have k0 : W8.cell? ⟨g, 0, none⟩ = some (.int .i64 ((((s[0]'n0).toNat : Int) - (48 : Int)) * (10 : Int) + (((s[1]'n1).toNat : Int) - (48 : Int)))) := (blk_cell HS.out.b7 0).trans rfl
  have f0 := (blk_cell HS.out.p.b4 0).trans (show _ = some (Value.int .i64 0) from rfl)
  have z0 := blk_frozen HS.out.p.b4 0
  have k1 : W8.cell? ⟨g, 1, none⟩ = some (.int .i64 ((((s[3]'n3).toNat : Int) - (48 : Int)) * (10 : Int) + (((s[4]'n4).toNat : Int) - (48 : Int)))) := (blk_cell HS.out.b7 1).trans rfl
  have f1 := (blk_cell HS.out.p.b4 1).trans (show _ = some (Value.int .i64 0) from rfl)
  have z1 := blk_frozen HS.out.p.b4 1
  have k2 : W8.cell? ⟨g, 2, none⟩ = some (.int .i64 ((((s[6]'n6).toNat : Int) - (48 : Int)) * (10 : Int) + (((s[7]'n7).toNat : Int) - (48 : Int)))) := (blk_cell HS.out.b7 2).trans rfl
  have f2 := (blk_cell HS.out.p.b4 2).trans (show _ = some (Value.int .i64 0) from rfl)
  have z2 := blk_frozen HS.out.p.b4 2
  have k3 : W8.cell? ⟨g, 3, none⟩ = some (.int .i64 ((((s[9]'n9).toNat : Int) - (48 : Int)) * (10 : Int) + (((s[10]'n10).toNat : Int) - (48 : Int)))) := (blk_cell HS.out.b7 3).trans rfl
  have f3 := (blk_cell HS.out.p.b4 3).trans (show _ = some (Value.int .i64 0) from rfl)
  have z3 := blk_frozen HS.out.p.b4 3
  have j0 : W8.cell? ⟨w.heap.size, 0, none⟩ = some (.int .i64 F) := (blk_cell HS.out.p.b2 0).trans rfl
  have j1 : W8.cell? ⟨w.heap.size, 1, none⟩ = some (.bool D) := (blk_cell HS.out.p.b2 1).trans rfl
  go_wp2_with (go_at_call 22; (with_reducible refine (dioramaref20_Count.calls k F D _ _ _ _ n 0 _ HC.out).mono ?_); rintro e_ w9 ⟨rfl, hb9⟩; have B4 := Aside0.mk (blk_below (blk_alloc HS.out.p.b4 _) hb9); have B9 := Aside0.mk (blk_below (blk_new W8 _) hb9); have y0 := (blk_cell B4.out 0).trans (show _ = some (Value.int .i64 0) from rfl); have u0 := blk_frozen B4.out 0; have x0 := (blk_cell B9.out 0).trans (show _ = some (Value.int .i64 ((((s[0]'n0).toNat : Int) - (48 : Int)) * (10 : Int) + (((s[1]'n1).toNat : Int) - (48 : Int)))) from rfl); have y1 := (blk_cell B4.out 1).trans (show _ = some (Value.int .i64 0) from rfl); have u1 := blk_frozen B4.out 1; have x1 := (blk_cell B9.out 1).trans (show _ = some (Value.int .i64 ((((s[3]'n3).toNat : Int) - (48 : Int)) * (10 : Int) + (((s[4]'n4).toNat : Int) - (48 : Int)))) from rfl); have y2 := (blk_cell B4.out 2).trans (show _ = some (Value.int .i64 0) from rfl); have u2 := blk_frozen B4.out 2; have x2 := (blk_cell B9.out 2).trans (show _ = some (Value.int .i64 ((((s[6]'n6).toNat : Int) - (48 : Int)) * (10 : Int) + (((s[7]'n7).toNat : Int) - (48 : Int)))) from rfl); have y3 := (blk_cell B4.out 3).trans (show _ = some (Value.int .i64 0) from rfl); have u3 := blk_frozen B4.out 3; have x3 := (blk_cell B9.out 3).trans (show _ = some (Value.int .i64 ((((s[9]'n9).toNat : Int) - (48 : Int)) * (10 : Int) + (((s[10]'n10).toNat : Int) - (48 : Int)))) from rfl))
  refine bodyPost_ret (results_ct rfl _ _ (w.heap.size + 1) 25 #[.int .i64 ((((s[0]'n0).toNat : Int) - (48 : Int)) * (10 : Int) + (((s[1]'n1).toNat : Int) - (48 : Int))), .int .i64 ((((s[3]'n3).toNat : Int) - (48 : Int)) * (10 : Int) + (((s[4]'n4).toNat : Int) - (48 : Int))), .int .i64 ((((s[6]'n6).toNat : Int) - (48 : Int)) * (10 : Int) + (((s[7]'n7).toNat : Int) - (48 : Int))), .int .i64 ((((s[9]'n9).toNat : Int) - (48 : Int)) * (10 : Int) + (((s[10]'n10).toNat : Int) - (48 : Int)))] (0, 0) _ rfl (blk_put (blk_put (blk_put (blk_put B4.out 0 _ rfl) 1 _ rfl) 2 _ rfl) 3 _ rfl) Try.underlying25 rfl (by kernel_rfl)) rfl ?_
  exact ⟨rfl, below_set (below_set (below_set (below_set (below_step (below_alloc HS.out.p.bl _) hb9) (by omega)) (by omega)) (by omega)) (by omega)⟩
set_option maxHeartbeats 4000000 in
set_option maxRecDepth 100000 in
theorem rp_none (k : Nat) (n er : Int) (F : Int) (D : Bool) (s : ByteArray) (w : World) (he : dioramaref20_Check.f F D = some 0) (hs : s.size = 11) (h2 : bt s 2 = 58) (h5 : bt s 5 = 58) (h8 : bt s 8 = if D = true then 59 else 58) (hd : rdigits s) (hc : dioramaref20_Count.f k F D (rv2 s 0) (rv2 s 3) (rv2 s 6) (rv2 s 9) = some (n, er)) (hn : er ≠ 0) :
    Calls Try.prog 28 #[.agg #[.int .i64 F, .bool D], .string s] w fun e w' => e = .returned (.tuple #[.agg #[.int .i64 0, .int .i64 0, .int .i64 0, .int .i64 0], .int .i64 er]) ∧ Below w.heap.size w w' := by
  have hu23 := Try.underlying23
  have hu25 := Try.underlying25
  have HE := Aside0.mk he
  clear he
  have q1 : (er != 0) = true := bne_iff_ne.mpr hn
  have q2 : (er == 0) = false := beq_eq_false_iff_ne.mpr hn
  clear hn
  have n0 : 0 < s.size := by omega
  have n1 : 1 < s.size := by omega
  have n2 : 2 < s.size := by omega
  have n3 : 3 < s.size := by omega
  have n4 : 4 < s.size := by omega
  have n5 : 5 < s.size := by omega
  have n6 : 6 < s.size := by omega
  have n7 : 7 < s.size := by omega
  have n8 : 8 < s.size := by omega
  have n9 : 9 < s.size := by omega
  have n10 : 10 < s.size := by omega
  have hz : ((s.size : Int) != 11) = false := by simp [hs]
  have hz2 : (2 : Int) < s.size := by omega
  have hz5 : (5 : Int) < s.size := by omega
  have hz9 : (9 : Int) ≤ s.size := by omega
  have g2 : (((s[2]'n2).toNat : Int) != 58) = false := by rw [← rp_get s 2 n2]; exact bne_eq_false_iff_eq.mpr h2
  have g5 : (((s[5]'n5).toNat : Int) != 58) = false := by rw [← rp_get s 5 n5]; exact bne_eq_false_iff_eq.mpr h5
  have g8 : ((s.extract 8 9).toList == (sgn D).toList) = true := by rw [rp_ext8 s n8, sgn_at, ← rp_get s 8 n8]; exact decide_eq_true h8
  obtain ⟨d0, d1, d3, d4, d6, d7, d9, d10⟩ := hd
  have d0' : (48 : Int) ≤ ((s[0]'n0).toNat : Int) ∧ ((s[0]'n0).toNat : Int) ≤ (57 : Int) := by rw [← rp_get s 0 n0]; exact d0
  obtain ⟨x0, y0⟩ := d0'
  have d1' : (48 : Int) ≤ ((s[1]'n1).toNat : Int) ∧ ((s[1]'n1).toNat : Int) ≤ (57 : Int) := by rw [← rp_get s 1 n1]; exact d1
  obtain ⟨x1, y1⟩ := d1'
  have d3' : (48 : Int) ≤ ((s[3]'n3).toNat : Int) ∧ ((s[3]'n3).toNat : Int) ≤ (57 : Int) := by rw [← rp_get s 3 n3]; exact d3
  obtain ⟨x3, y3⟩ := d3'
  have d4' : (48 : Int) ≤ ((s[4]'n4).toNat : Int) ∧ ((s[4]'n4).toNat : Int) ≤ (57 : Int) := by rw [← rp_get s 4 n4]; exact d4
  obtain ⟨x4, y4⟩ := d4'
  have d6' : (48 : Int) ≤ ((s[6]'n6).toNat : Int) ∧ ((s[6]'n6).toNat : Int) ≤ (57 : Int) := by rw [← rp_get s 6 n6]; exact d6
  obtain ⟨x6, y6⟩ := d6'
  have d7' : (48 : Int) ≤ ((s[7]'n7).toNat : Int) ∧ ((s[7]'n7).toNat : Int) ≤ (57 : Int) := by rw [← rp_get s 7 n7]; exact d7
  obtain ⟨x7, y7⟩ := d7'
  have d9' : (48 : Int) ≤ ((s[9]'n9).toNat : Int) ∧ ((s[9]'n9).toNat : Int) ≤ (57 : Int) := by rw [← rp_get s 9 n9]; exact d9
  obtain ⟨x9, y9⟩ := d9'
  have d10' : (48 : Int) ≤ ((s[10]'n10).toNat : Int) ∧ ((s[10]'n10).toNat : Int) ≤ (57 : Int) := by rw [← rp_get s 10 n10]; exact d10
  obtain ⟨x10, y10⟩ := d10'
  have e0 : ((((s[0]'n0).toNat : Int) - (48 : Int)) * (10 : Int) + (((s[1]'n1).toNat : Int) - (48 : Int))) = rv2 s 0 := by unfold rv2; rw [← rp_get s 0 n0, ← rp_get s 1 n1]; rfl
  have e1 : ((((s[3]'n3).toNat : Int) - (48 : Int)) * (10 : Int) + (((s[4]'n4).toNat : Int) - (48 : Int))) = rv2 s 3 := by unfold rv2; rw [← rp_get s 3 n3, ← rp_get s 4 n4]; rfl
  have e2 : ((((s[6]'n6).toNat : Int) - (48 : Int)) * (10 : Int) + (((s[7]'n7).toNat : Int) - (48 : Int))) = rv2 s 6 := by unfold rv2; rw [← rp_get s 6 n6, ← rp_get s 7 n7]; rfl
  have e3 : ((((s[9]'n9).toNat : Int) - (48 : Int)) * (10 : Int) + (((s[10]'n10).toNat : Int) - (48 : Int))) = rv2 s 9 := by unfold rv2; rw [← rp_get s 9 n9, ← rp_get s 10 n10]; rfl
  rw [← e0, ← e1, ← e2, ← e3] at hc 
  have HC := Aside0.mk hc
  clear hc e0 e1 e2 e3 d0 d1 d3 d4 d6 d7 d9 d10 h2 h5 h8 hs
  go_enter Try.func28, Try.ntmps28
  go_wp2_with (go_at_call 26; (with_reducible refine (dioramaref20_Check.calls F D 0 _ HE.out).mono ?_); rintro e w1 ⟨rfl, hb⟩)
  have H0 := P2.start hb
  have S0 : S2 w F D w1 := H0.S
  clear H0
  go_region_held3 (S2 w F D) (first | assumption | exact S2.keep (by assumption) (by assumption) | exact S2.keep (by assumption) (below_drew (Below.refl _ _)))
    ((go_at_call 51; refine (sign_any F D _).mono ?_; rintro e w' ⟨rfl, hb2⟩))
  rename_i hS
  have H2 := hS.2.2
  have hgg : w.heap.size + 1 < w'.heap.size := blk_lt H2.out.b4
  go_wp2
  refine wp_loop_rounds 5 ?_
  refine abs_rounds (P7 w w'.heap.size F D 0 0 0 0) ⟨⟨blk_alloc H2.out.b2 _, blk_alloc H2.out.b4 _, below_alloc H2.out.bl _⟩, blk_new _ _, hgg⟩ ?_
  generalize w'.heap.size = g at *
  intro W0 S
  have HS := Aside0.mk S
  clear S
  rw [rounds_succ]
  go_wp2
  refine wp_loop_rounds 3 ?_
  rw [rounds_succ]
  have k0 : W0.cell? ⟨g, 0, none⟩ = some (.int .i64 0) := (blk_cell HS.out.b7 0).trans rfl
  have z0 := blk_frozen HS.out.b7 0
  go_wp2
  go_region
  go_wp2
  refine abs_rounds (P7 w g F D (((s[0]'n0).toNat : Int) - (48 : Int)) 0 0 0) ⟨P2.store (P2.drew HS.out.p) HS.out.hg 0 _, blk_put (blk_drew HS.out.b7) 0 _ rfl, HS.out.hg⟩ ?_
  clear k0 z0 HS
  intro W1 S
  have HS := Aside0.mk S
  clear S
  rw [rounds_succ]
  have k0 : W1.cell? ⟨g, 0, none⟩ = some (.int .i64 (((s[0]'n0).toNat : Int) - (48 : Int))) := (blk_cell HS.out.b7 0).trans rfl
  have z0 := blk_frozen HS.out.b7 0
  go_wp2
  go_region
  go_wp2
  refine abs_rounds (P7 w g F D ((((s[0]'n0).toNat : Int) - (48 : Int)) * (10 : Int) + (((s[1]'n1).toNat : Int) - (48 : Int))) 0 0 0) ⟨P2.store (P2.drew HS.out.p) HS.out.hg 0 _, blk_put (blk_drew HS.out.b7) 0 _ rfl, HS.out.hg⟩ ?_
  clear k0 z0 HS
  intro W2 S
  have HS := Aside0.mk S
  clear S
  rw [rounds_succ]
  go_wp2
  rw [rounds_succ]
  go_wp2
  refine wp_loop_rounds 3 ?_
  rw [rounds_succ]
  have k0 : W2.cell? ⟨g, 1, none⟩ = some (.int .i64 0) := (blk_cell HS.out.b7 1).trans rfl
  have z0 := blk_frozen HS.out.b7 1
  go_wp2
  go_region
  go_wp2
  refine abs_rounds (P7 w g F D ((((s[0]'n0).toNat : Int) - (48 : Int)) * (10 : Int) + (((s[1]'n1).toNat : Int) - (48 : Int))) (((s[3]'n3).toNat : Int) - (48 : Int)) 0 0) ⟨P2.store (P2.drew HS.out.p) HS.out.hg 1 _, blk_put (blk_drew HS.out.b7) 1 _ rfl, HS.out.hg⟩ ?_
  clear k0 z0 HS
  intro W3 S
  have HS := Aside0.mk S
  clear S
  rw [rounds_succ]
  have k0 : W3.cell? ⟨g, 1, none⟩ = some (.int .i64 (((s[3]'n3).toNat : Int) - (48 : Int))) := (blk_cell HS.out.b7 1).trans rfl
  have z0 := blk_frozen HS.out.b7 1
  go_wp2
  go_region
  go_wp2
  refine abs_rounds (P7 w g F D ((((s[0]'n0).toNat : Int) - (48 : Int)) * (10 : Int) + (((s[1]'n1).toNat : Int) - (48 : Int))) ((((s[3]'n3).toNat : Int) - (48 : Int)) * (10 : Int) + (((s[4]'n4).toNat : Int) - (48 : Int))) 0 0) ⟨P2.store (P2.drew HS.out.p) HS.out.hg 1 _, blk_put (blk_drew HS.out.b7) 1 _ rfl, HS.out.hg⟩ ?_
  clear k0 z0 HS
  intro W4 S
  have HS := Aside0.mk S
  clear S
  rw [rounds_succ]
  go_wp2
  rw [rounds_succ]
  go_wp2
  refine wp_loop_rounds 3 ?_
  rw [rounds_succ]
  have k0 : W4.cell? ⟨g, 2, none⟩ = some (.int .i64 0) := (blk_cell HS.out.b7 2).trans rfl
  have z0 := blk_frozen HS.out.b7 2
  go_wp2
  go_region
  go_wp2
  refine abs_rounds (P7 w g F D ((((s[0]'n0).toNat : Int) - (48 : Int)) * (10 : Int) + (((s[1]'n1).toNat : Int) - (48 : Int))) ((((s[3]'n3).toNat : Int) - (48 : Int)) * (10 : Int) + (((s[4]'n4).toNat : Int) - (48 : Int))) (((s[6]'n6).toNat : Int) - (48 : Int)) 0) ⟨P2.store (P2.drew HS.out.p) HS.out.hg 2 _, blk_put (blk_drew HS.out.b7) 2 _ rfl, HS.out.hg⟩ ?_
  clear k0 z0 HS
  intro W5 S
  have HS := Aside0.mk S
  clear S
  rw [rounds_succ]
  have k0 : W5.cell? ⟨g, 2, none⟩ = some (.int .i64 (((s[6]'n6).toNat : Int) - (48 : Int))) := (blk_cell HS.out.b7 2).trans rfl
  have z0 := blk_frozen HS.out.b7 2
  go_wp2
  go_region
  go_wp2
  refine abs_rounds (P7 w g F D ((((s[0]'n0).toNat : Int) - (48 : Int)) * (10 : Int) + (((s[1]'n1).toNat : Int) - (48 : Int))) ((((s[3]'n3).toNat : Int) - (48 : Int)) * (10 : Int) + (((s[4]'n4).toNat : Int) - (48 : Int))) ((((s[6]'n6).toNat : Int) - (48 : Int)) * (10 : Int) + (((s[7]'n7).toNat : Int) - (48 : Int))) 0) ⟨P2.store (P2.drew HS.out.p) HS.out.hg 2 _, blk_put (blk_drew HS.out.b7) 2 _ rfl, HS.out.hg⟩ ?_
  clear k0 z0 HS
  intro W6 S
  have HS := Aside0.mk S
  clear S
  rw [rounds_succ]
  go_wp2
  rw [rounds_succ]
  go_wp2
  refine wp_loop_rounds 3 ?_
  rw [rounds_succ]
  have k0 : W6.cell? ⟨g, 3, none⟩ = some (.int .i64 0) := (blk_cell HS.out.b7 3).trans rfl
  have z0 := blk_frozen HS.out.b7 3
  go_wp2
  go_region
  go_wp2
  refine abs_rounds (P7 w g F D ((((s[0]'n0).toNat : Int) - (48 : Int)) * (10 : Int) + (((s[1]'n1).toNat : Int) - (48 : Int))) ((((s[3]'n3).toNat : Int) - (48 : Int)) * (10 : Int) + (((s[4]'n4).toNat : Int) - (48 : Int))) ((((s[6]'n6).toNat : Int) - (48 : Int)) * (10 : Int) + (((s[7]'n7).toNat : Int) - (48 : Int))) (((s[9]'n9).toNat : Int) - (48 : Int))) ⟨P2.store (P2.drew HS.out.p) HS.out.hg 3 _, blk_put (blk_drew HS.out.b7) 3 _ rfl, HS.out.hg⟩ ?_
  clear k0 z0 HS
  intro W7 S
  have HS := Aside0.mk S
  clear S
  rw [rounds_succ]
  have k0 : W7.cell? ⟨g, 3, none⟩ = some (.int .i64 (((s[9]'n9).toNat : Int) - (48 : Int))) := (blk_cell HS.out.b7 3).trans rfl
  have z0 := blk_frozen HS.out.b7 3
  go_wp2
  go_region
  go_wp2
  refine abs_rounds (P7 w g F D ((((s[0]'n0).toNat : Int) - (48 : Int)) * (10 : Int) + (((s[1]'n1).toNat : Int) - (48 : Int))) ((((s[3]'n3).toNat : Int) - (48 : Int)) * (10 : Int) + (((s[4]'n4).toNat : Int) - (48 : Int))) ((((s[6]'n6).toNat : Int) - (48 : Int)) * (10 : Int) + (((s[7]'n7).toNat : Int) - (48 : Int))) ((((s[9]'n9).toNat : Int) - (48 : Int)) * (10 : Int) + (((s[10]'n10).toNat : Int) - (48 : Int)))) ⟨P2.store (P2.drew HS.out.p) HS.out.hg 3 _, blk_put (blk_drew HS.out.b7) 3 _ rfl, HS.out.hg⟩ ?_
  clear k0 z0 HS
  intro W8 S
  have HS := Aside0.mk S
  clear S
  rw [rounds_succ]
  go_wp2
  rw [rounds_succ]
  have L0 : w.heap.size < W8.heap.size := blk_lt HS.out.p.b2
  have L1 : w.heap.size + 1 < W8.heap.size := blk_lt HS.out.p.b4
  have L2 : g < W8.heap.size := blk_lt HS.out.b7
  have k0 : W8.cell? ⟨g, 0, none⟩ = some (.int .i64 ((((s[0]'n0).toNat : Int) - (48 : Int)) * (10 : Int) + (((s[1]'n1).toNat : Int) - (48 : Int)))) := (blk_cell HS.out.b7 0).trans rfl
  have f0 := (blk_cell HS.out.p.b4 0).trans (show _ = some (Value.int .i64 0) from rfl)
  have z0 := blk_frozen HS.out.p.b4 0
  have k1 : W8.cell? ⟨g, 1, none⟩ = some (.int .i64 ((((s[3]'n3).toNat : Int) - (48 : Int)) * (10 : Int) + (((s[4]'n4).toNat : Int) - (48 : Int)))) := (blk_cell HS.out.b7 1).trans rfl
  have f1 := (blk_cell HS.out.p.b4 1).trans (show _ = some (Value.int .i64 0) from rfl)
  have z1 := blk_frozen HS.out.p.b4 1
  have k2 : W8.cell? ⟨g, 2, none⟩ = some (.int .i64 ((((s[6]'n6).toNat : Int) - (48 : Int)) * (10 : Int) + (((s[7]'n7).toNat : Int) - (48 : Int)))) := (blk_cell HS.out.b7 2).trans rfl
  have f2 := (blk_cell HS.out.p.b4 2).trans (show _ = some (Value.int .i64 0) from rfl)
  have z2 := blk_frozen HS.out.p.b4 2
  have k3 : W8.cell? ⟨g, 3, none⟩ = some (.int .i64 ((((s[9]'n9).toNat : Int) - (48 : Int)) * (10 : Int) + (((s[10]'n10).toNat : Int) - (48 : Int)))) := (blk_cell HS.out.b7 3).trans rfl
  have f3 := (blk_cell HS.out.p.b4 3).trans (show _ = some (Value.int .i64 0) from rfl)
  have z3 := blk_frozen HS.out.p.b4 3
  have j0 : W8.cell? ⟨w.heap.size, 0, none⟩ = some (.int .i64 F) := (blk_cell HS.out.p.b2 0).trans rfl
  have j1 : W8.cell? ⟨w.heap.size, 1, none⟩ = some (.bool D) := (blk_cell HS.out.p.b2 1).trans rfl
  go_wp2_with (go_at_call 22; (with_reducible refine (dioramaref20_Count.calls k F D _ _ _ _ n er _ HC.out).mono ?_); rintro e_ w9 ⟨rfl, hb9⟩; have B4 := Aside0.mk (blk_below (blk_alloc HS.out.p.b4 _) hb9); have B9 := Aside0.mk (blk_below (blk_new W8 _) hb9); have y0 := (blk_cell B4.out 0).trans (show _ = some (Value.int .i64 0) from rfl); have u0 := blk_frozen B4.out 0; have x0 := (blk_cell B9.out 0).trans (show _ = some (Value.int .i64 ((((s[0]'n0).toNat : Int) - (48 : Int)) * (10 : Int) + (((s[1]'n1).toNat : Int) - (48 : Int)))) from rfl); have y1 := (blk_cell B4.out 1).trans (show _ = some (Value.int .i64 0) from rfl); have u1 := blk_frozen B4.out 1; have x1 := (blk_cell B9.out 1).trans (show _ = some (Value.int .i64 ((((s[3]'n3).toNat : Int) - (48 : Int)) * (10 : Int) + (((s[4]'n4).toNat : Int) - (48 : Int)))) from rfl); have y2 := (blk_cell B4.out 2).trans (show _ = some (Value.int .i64 0) from rfl); have u2 := blk_frozen B4.out 2; have x2 := (blk_cell B9.out 2).trans (show _ = some (Value.int .i64 ((((s[6]'n6).toNat : Int) - (48 : Int)) * (10 : Int) + (((s[7]'n7).toNat : Int) - (48 : Int)))) from rfl); have y3 := (blk_cell B4.out 3).trans (show _ = some (Value.int .i64 0) from rfl); have u3 := blk_frozen B4.out 3; have x3 := (blk_cell B9.out 3).trans (show _ = some (Value.int .i64 ((((s[9]'n9).toNat : Int) - (48 : Int)) * (10 : Int) + (((s[10]'n10).toNat : Int) - (48 : Int)))) from rfl))
  refine bodyPost_ret (results_ct rfl _ _ (w.heap.size + 1) 25 #[.int .i64 0, .int .i64 0, .int .i64 0, .int .i64 0] (0, 0) _ rfl (blk_put (blk_put (blk_put (blk_put B4.out 0 _ rfl) 1 _ rfl) 2 _ rfl) 3 _ rfl) Try.underlying25 rfl (by kernel_rfl)) rfl ?_
  exact ⟨rfl, below_set (below_set (below_set (below_set (below_step (below_alloc HS.out.p.bl _) hb9) (by omega)) (by omega)) (by omega)) (by omega)⟩

end Go.Proofs.Ytndbhfbgigefnaa.PA
