/- dioramaref20.Parse, walked by hand (an array whose places are no constants; two loops, unrolled): what the printed functions it calls answer.
   Conditions: the pure function answers. -/
import Derived.Test.YtndbhfbgigefnaaPAx13
import Derived.Test.YtndbhfbgigefnaaPAx26
import Derived.Test.YtndbhfbgigefnaaPAx40
import Derived.LoopN
import Derived.RegionTactic
import Derived.ChangeAlike
namespace Go.Proofs.Ytndbhfbgigefnaa.PA
open Go.RowKit Go.Proofs.YtndbhfbgigefnaaW.PrintWords Go.Proofs.YtndbhfbgigefnaaW.PrintLast Go.Proofs.YtndbhfbgigefnaaW.PrintMore
set_option linter.unusedVariables false
set_option linter.unusedSimpArgs false
theorem rp_get (s : ByteArray) (n : Nat) (h : n < s.size) : bt s (n : Int) = ((s[n]'h).toNat : Int) := by
  unfold bt
  rw [dif_pos (by omega)]
  simp
def sgn (D : Bool) : ByteArray := if D = true then ⟨#[59]⟩ else ⟨#[58]⟩
theorem rp_ext8 (s : ByteArray) (h : 8 < s.size) : (s.extract 8 9).toList = [s[8]'h] := by
  rw [ByteArray.toList_eq]
  have e : (s.extract 8 9).data = #[s[8]'h] := by
    rw [ByteArray.data_extract]
    apply Array.ext
    · have hz : s.data.size = s.size := rfl
      simp only [Array.size_extract, List.size_toArray, List.length_cons, List.length_nil]
      omega
    · intro i h1 h2
      simp only [List.size_toArray, List.length_cons, List.length_nil] at h2
      obtain rfl : i = 0 := by omega
      simp only [Array.getElem_extract]
      rfl
  rw [e]
theorem sgn_at (D : Bool) (u : UInt8) : ([u] == (sgn D).toList) = decide ((u.toNat : Int) = if D = true then 59 else 58) := by
  rw [ByteArray.toList_eq, Bool.eq_iff_iff]
  cases D
  · have e : (sgn false).data.toList = [58] := rfl
    rw [e]
    simp only [beq_iff_eq, List.cons.injEq, and_true, Bool.false_eq_true, if_false, decide_eq_true_eq]
    rw [← UInt8.toNat_inj]
    have : (58 : UInt8).toNat = 58 := rfl
    omega
  · have e : (sgn true).data.toList = [59] := rfl
    rw [e]
    simp only [beq_iff_eq, List.cons.injEq, and_true, if_true, decide_eq_true_eq]
    rw [← UInt8.toNat_inj]
    have : (59 : UInt8).toNat = 59 := rfl
    omega
theorem sign_any (F : Int) (D : Bool) (w : World) : Calls Try.prog 51 #[.agg #[.int .i64 F, .bool D]] w fun e w' => e = .returned (.string (sgn D)) ∧ Below w.heap.size w w' :=
  dioramaref20_sign.calls F D _ w (by unfold dioramaref20_sign.f sgn; split <;> rfl)
/-- Is there a digit? -/
def rdg (s : ByteArray) (i : Int) : Prop := 48 ≤ bt s i ∧ bt s i ≤ 57
instance (s : ByteArray) (i : Int) : Decidable (rdg s i) := by unfold rdg; exact inferInstance
/-- The number of two digits. -/
def rv2 (s : ByteArray) (i : Int) : Int := (bt s i - 48) * 10 + (bt s (i + 1) - 48)
/-- A text whose marks are right. -/
def rform (D : Bool) (s : ByteArray) : Prop := s.size = 11 ∧ bt s 2 = 58 ∧ bt s 5 = 58 ∧ bt s 8 = (if D = true then 59 else 58)
instance (D : Bool) (s : ByteArray) : Decidable (rform D s) := by unfold rform; exact inferInstance
def rdigits (s : ByteArray) : Prop := rdg s 0 ∧ rdg s 1 ∧ rdg s 3 ∧ rdg s 4 ∧ rdg s 6 ∧ rdg s 7 ∧ rdg s 9 ∧ rdg s 10
instance (s : ByteArray) : Decidable (rdigits s) := by unfold rdigits; exact inferInstance
def dioramaref20_Parse.f (k : Nat) (F : Int) (D : Bool) (s : ByteArray) : Option (Int × Int × Int × Int × Int) :=
  (dioramaref20_Check.f F D).bind fun e => if e = 0 then (if rform D s then (if rdigits s then ((dioramaref20_Count.f k F D (rv2 s 0) (rv2 s 3) (rv2 s 6) (rv2 s 9)).bind fun r => if r.2 = 0 then some (rv2 s 0, rv2 s 3, rv2 s 6, rv2 s 9, 0) else some (0, 0, 0, 0, r.2)) else some (0, 0, 0, 0, 270)) else some (0, 0, 0, 0, 270)) else some (0, 0, 0, 0, e)
theorem dioramaref20_Parse.mono : ∀ a0 a1 a2 k, LeO (dioramaref20_Parse.f k a0 a1 a2) (dioramaref20_Parse.f (k + 1) a0 a1 a2) := by
  intro a0 a1 a2 k
  unfold dioramaref20_Parse.f
  refine LeO.bind (LeO.refl _) (fun _ => LeO.ite (LeO.ite (LeO.ite (LeO.bind (dioramaref20_Count.mono _ _ _ _ _ _ _) (fun _ => LeO.refl _)) (LeO.refl _)) (LeO.refl _)) (LeO.refl _))
/-- What is known of memory ahead of the loops. -/
structure P2 (w : World) (F : Int) (D : Bool) (W : World) : Prop where
  b2 : W.heap[w.heap.size]? = some (.cells #[.int .i64 F, .bool D] 23 (0, 0))
  b4 : W.heap[w.heap.size + 1]? = some (.cells #[.int .i64 0, .int .i64 0, .int .i64 0, .int .i64 0] 25 (0, 0))
  bl : Below w.heap.size w W
abbrev S2 (w : World) (F : Int) (D : Bool) (W : World) : Prop := W.cell? ⟨w.heap.size, 0, none⟩ = some (.int .i64 F) ∧ W.cell? ⟨w.heap.size, 1, none⟩ = some (.bool D) ∧ Aside0 (P2 w F D W)
theorem P2.S {w : World} {F : Int} {D : Bool} {W : World} (h : P2 w F D W) : S2 w F D W := ⟨(blk_cell h.b2 0).trans rfl, (blk_cell h.b2 1).trans rfl, ⟨h⟩⟩
theorem S2.keep {w : World} {F : Int} {D : Bool} {W W1 : World} (h : S2 w F D W) (hb : Below W.heap.size W W1) : S2 w F D W1 :=
  P2.S ⟨blk_below h.2.2.out.b2 hb, blk_below h.2.2.out.b4 hb, below_step h.2.2.out.bl hb⟩
theorem P2.start {w w1 : World} {F : Int} {D : Bool} (hb : Below ((w.alloc (.cells #[.int .i64 F, .bool D] 23)).alloc (.cells #[.int .i64 0, .int .i64 0, .int .i64 0, .int .i64 0] 25)).heap.size ((w.alloc (.cells #[.int .i64 F, .bool D] 23)).alloc (.cells #[.int .i64 0, .int .i64 0, .int .i64 0, .int .i64 0] 25)) w1) : P2 w F D w1 := by
  refine ⟨blk_below (blk_alloc (blk_new w _) _) hb, blk_below ?_ hb, below_step (below_alloc (below_alloc (Below.refl _ _) _) _) hb⟩
  have := blk_new (w.alloc (.cells #[.int .i64 F, .bool D] 23)) (.cells #[.int .i64 0, .int .i64 0, .int .i64 0, .int .i64 0] 25)
  simpa using this
/-- .. and in the loops: the four numbers so far. -/
structure P7 (w : World) (g : Nat) (F : Int) (D : Bool) (c0 c1 c2 c3 : Int) (W : World) : Prop where
  p : P2 w F D W
  b7 : W.heap[g]? = some (.cells #[.int .i64 c0, .int .i64 c1, .int .i64 c2, .int .i64 c3] 79 (0, 0))
  hg : w.heap.size + 1 < g
theorem P2.store {w : World} {F : Int} {D : Bool} {W : World} (h : P2 w F D W) {g : Nat} (hg : w.heap.size + 1 < g) (j : Nat) (v : Value) : P2 w F D (W.setCell ⟨g, j, none⟩ v) :=
  ⟨blk_far h.b2 (by simp; omega) _, blk_far h.b4 (by simp; omega) _, below_set h.bl (by omega)⟩
theorem P2.drew {w : World} {F : Int} {D : Bool} {W : World} (h : P2 w F D W) : P2 w F D W.drew := ⟨h.b2, h.b4, below_drew h.bl⟩
theorem P2.drewN {w : World} {F : Int} {D : Bool} {W : World} (h : P2 w F D W) (n : Nat) : P2 w F D (W.drewN n) := ⟨h.b2, h.b4, pw_below_drewN h.bl n⟩
theorem abs_rounds {P : Program} {c : Code} {Q : Exit → Act → World → Prop} {n : Nat} {a : Act} {W : World} (R : World → Prop) (hR : R W) (h : ∀ W1, R W1 → Code.rounds P c Q n a W1) : Code.rounds P c Q n a W := h W hR
theorem zeros4 {w W : World} {F : Int} {D : Bool} (h : P2 w F D W) : ((((W.setCell ⟨w.heap.size + 1, 0, none⟩ (.int .i64 0)).setCell ⟨w.heap.size + 1, 1, none⟩ (.int .i64 0)).setCell ⟨w.heap.size + 1, 2, none⟩ (.int .i64 0)).setCell ⟨w.heap.size + 1, 3, none⟩ (.int .i64 0)).heap[w.heap.size + 1]? = some (.cells #[.int .i64 0, .int .i64 0, .int .i64 0, .int .i64 0] 25 (0, 0)) :=
  blk_put (blk_put (blk_put (blk_put h.b4 0 _ rfl) 1 _ rfl) 2 _ rfl) 3 _ rfl
theorem zeros_below {w W : World} {F : Int} {D : Bool} (h : P2 w F D W) : Below w.heap.size w ((((W.setCell ⟨w.heap.size + 1, 0, none⟩ (.int .i64 0)).setCell ⟨w.heap.size + 1, 1, none⟩ (.int .i64 0)).setCell ⟨w.heap.size + 1, 2, none⟩ (.int .i64 0)).setCell ⟨w.heap.size + 1, 3, none⟩ (.int .i64 0)) :=
  below_set (below_set (below_set (below_set h.bl (by omega)) (by omega)) (by omega)) (by omega)
set_option maxHeartbeats 4000000 in
set_option maxRecDepth 100000 in
theorem rp_err (e0 : Int) (F : Int) (D : Bool) (s : ByteArray) (w : World) (he : dioramaref20_Check.f F D = some e0) (h0 : e0 ≠ 0) :
    Calls Try.prog 28 #[.agg #[.int .i64 F, .bool D], .string s] w fun e w' => e = .returned (.tuple #[.agg #[.int .i64 0, .int .i64 0, .int .i64 0, .int .i64 0], .int .i64 e0]) ∧ Below w.heap.size w w' := by
  have hu23 := Try.underlying23
  have hu25 := Try.underlying25
  have HE := Aside0.mk he
  clear he
  have q1 : (e0 != 0) = true := bne_iff_ne.mpr h0
  have q2 : (e0 == 0) = false := beq_eq_false_iff_ne.mpr h0
  clear h0
  go_enter Try.func28, Try.ntmps28
  go_wp2_with (go_at_call 26; (with_reducible refine (dioramaref20_Check.calls F D e0 _ HE.out).mono ?_); rintro e w1 ⟨rfl, hb⟩; have H2 := Aside0.mk (P2.start hb); have f0 : w1.cell? ⟨w.heap.size + 1, 0, none⟩ = some (.int .i64 0) := (blk_cell H2.out.b4 0).trans rfl; have f1 : w1.cell? ⟨w.heap.size + 1, 1, none⟩ = some (.int .i64 0) := (blk_cell H2.out.b4 1).trans rfl; have f2 : w1.cell? ⟨w.heap.size + 1, 2, none⟩ = some (.int .i64 0) := (blk_cell H2.out.b4 2).trans rfl; have f3 : w1.cell? ⟨w.heap.size + 1, 3, none⟩ = some (.int .i64 0) := (blk_cell H2.out.b4 3).trans rfl; have z0 := blk_frozen H2.out.b4 0; have z1 := blk_frozen H2.out.b4 1; have z2 := blk_frozen H2.out.b4 2; have z3 := blk_frozen H2.out.b4 3)
  refine bodyPost_ret (results_ct rfl _ _ (w.heap.size + 1) 25 #[.int .i64 0, .int .i64 0, .int .i64 0, .int .i64 0] (0, 0) _ rfl (zeros4 H2.out) Try.underlying25 rfl (by kernel_rfl)) rfl ?_
  exact ⟨rfl, zeros_below H2.out⟩
set_option maxHeartbeats 4000000 in
set_option maxRecDepth 100000 in
theorem rp_size (F : Int) (D : Bool) (s : ByteArray) (w : World) (he : dioramaref20_Check.f F D = some 0) (hs : s.size ≠ 11) :
    Calls Try.prog 28 #[.agg #[.int .i64 F, .bool D], .string s] w fun e w' => e = .returned (.tuple #[.agg #[.int .i64 0, .int .i64 0, .int .i64 0, .int .i64 0], .int .i64 270]) ∧ Below w.heap.size w w' := by
  have hu23 := Try.underlying23
  have hu25 := Try.underlying25
  have HE := Aside0.mk he
  clear he
  have hz : ((s.size : Int) != 11) = true := by rw [bne_iff_ne]; omega
  have hz1 : ((s.size : Int) == 11) = false := by rw [beq_eq_false_iff_ne]; omega
  have hz2 : (s.size != 11) = true := by rw [bne_iff_ne]; omega
  have hz3 : (s.size == 11) = false := by rw [beq_eq_false_iff_ne]; omega
  clear hs
  go_enter Try.func28, Try.ntmps28
  go_wp2_with (go_at_call 26; (with_reducible refine (dioramaref20_Check.calls F D 0 _ HE.out).mono ?_); rintro e w1 ⟨rfl, hb⟩)
  have H0 := Aside0.mk (P2.start hb)
  have k0 : w1.cell? ⟨w.heap.size, 0, none⟩ = some (.int .i64 F) := (blk_cell H0.out.b2 0).trans rfl
  have k1 : w1.cell? ⟨w.heap.size, 1, none⟩ = some (.bool D) := (blk_cell H0.out.b2 1).trans rfl
  go_quiet (fail)
  rename_i nq
  have H2 := Aside0.mk (P2.drewN H0.out nq)
  have f0 := (blk_cell H2.out.b4 0).trans (show _ = some (Value.int .i64 0) from rfl)
  have z0 := blk_frozen H2.out.b4 0
  have f1 := (blk_cell H2.out.b4 1).trans (show _ = some (Value.int .i64 0) from rfl)
  have z1 := blk_frozen H2.out.b4 1
  have f2 := (blk_cell H2.out.b4 2).trans (show _ = some (Value.int .i64 0) from rfl)
  have z2 := blk_frozen H2.out.b4 2
  have f3 := (blk_cell H2.out.b4 3).trans (show _ = some (Value.int .i64 0) from rfl)
  have z3 := blk_frozen H2.out.b4 3
  go_wp2
  refine bodyPost_ret (results_ct rfl _ _ (w.heap.size + 1) 25 #[.int .i64 0, .int .i64 0, .int .i64 0, .int .i64 0] (0, 0) _ rfl (zeros4 H2.out) Try.underlying25 rfl (by kernel_rfl)) rfl ?_
  exact ⟨rfl, zeros_below H2.out⟩
set_option maxHeartbeats 4000000 in
set_option maxRecDepth 100000 in
theorem rp_two (F : Int) (D : Bool) (s : ByteArray) (w : World) (he : dioramaref20_Check.f F D = some 0) (hs : s.size = 11) (h2 : bt s 2 ≠ 58) :
    Calls Try.prog 28 #[.agg #[.int .i64 F, .bool D], .string s] w fun e w' => e = .returned (.tuple #[.agg #[.int .i64 0, .int .i64 0, .int .i64 0, .int .i64 0], .int .i64 270]) ∧ Below w.heap.size w w' := by
  have hu23 := Try.underlying23
  have hu25 := Try.underlying25
  have HE := Aside0.mk he
  clear he
  have n0 : 0 < s.size := by omega
  have n1 : 1 < s.size := by omega
  have n2 : 2 < s.size := by omega
  have n3 : 3 < s.size := by omega
  have n4 : 4 < s.size := by omega
  have n5 : 5 < s.size := by omega
  have n6 : 6 < s.size := by omega
  have n7 : 7 < s.size := by omega
  have n8 : 8 < s.size := by omega
  have n9 : 9 < s.size := by omega
  have n10 : 10 < s.size := by omega
  have hz : ((s.size : Int) != 11) = false := by simp [hs]
  have hz2 : (2 : Int) < s.size := by omega
  have hz5 : (5 : Int) < s.size := by omega
  have hz9 : (9 : Int) ≤ s.size := by omega
  have g2 : (((s[2]'n2).toNat : Int) != 58) = true := by rw [← rp_get s 2 n2]; exact bne_iff_ne.mpr h2
  clear h2 hs
  go_enter Try.func28, Try.ntmps28
  go_wp2_with (go_at_call 26; (with_reducible refine (dioramaref20_Check.calls F D 0 _ HE.out).mono ?_); rintro e w1 ⟨rfl, hb⟩)
  have H0 := Aside0.mk (P2.start hb)
  have k0 : w1.cell? ⟨w.heap.size, 0, none⟩ = some (.int .i64 F) := (blk_cell H0.out.b2 0).trans rfl
  have k1 : w1.cell? ⟨w.heap.size, 1, none⟩ = some (.bool D) := (blk_cell H0.out.b2 1).trans rfl
  go_quiet (fail)
  rename_i nq
  have H2 := Aside0.mk (P2.drewN H0.out nq)
  have f0 := (blk_cell H2.out.b4 0).trans (show _ = some (Value.int .i64 0) from rfl)
  have z0 := blk_frozen H2.out.b4 0
  have f1 := (blk_cell H2.out.b4 1).trans (show _ = some (Value.int .i64 0) from rfl)
  have z1 := blk_frozen H2.out.b4 1
  have f2 := (blk_cell H2.out.b4 2).trans (show _ = some (Value.int .i64 0) from rfl)
  have z2 := blk_frozen H2.out.b4 2
  have f3 := (blk_cell H2.out.b4 3).trans (show _ = some (Value.int .i64 0) from rfl)
  have z3 := blk_frozen H2.out.b4 3
  go_wp2
  refine bodyPost_ret (results_ct rfl _ _ (w.heap.size + 1) 25 #[.int .i64 0, .int .i64 0, .int .i64 0, .int .i64 0] (0, 0) _ rfl (zeros4 H2.out) Try.underlying25 rfl (by kernel_rfl)) rfl ?_
  exact ⟨rfl, zeros_below H2.out⟩
set_option maxHeartbeats 4000000 in
set_option maxRecDepth 100000 in
theorem rp_five (F : Int) (D : Bool) (s : ByteArray) (w : World) (he : dioramaref20_Check.f F D = some 0) (hs : s.size = 11) (h2 : bt s 2 = 58) (h5 : bt s 5 ≠ 58) :
    Calls Try.prog 28 #[.agg #[.int .i64 F, .bool D], .string s] w fun e w' => e = .returned (.tuple #[.agg #[.int .i64 0, .int .i64 0, .int .i64 0, .int .i64 0], .int .i64 270]) ∧ Below w.heap.size w w' := by
  have hu23 := Try.underlying23
  have hu25 := Try.underlying25
  have HE := Aside0.mk he
  clear he
  have n0 : 0 < s.size := by omega
  have n1 : 1 < s.size := by omega
  have n2 : 2 < s.size := by omega
  have n3 : 3 < s.size := by omega
  have n4 : 4 < s.size := by omega
  have n5 : 5 < s.size := by omega
  have n6 : 6 < s.size := by omega
  have n7 : 7 < s.size := by omega
  have n8 : 8 < s.size := by omega
  have n9 : 9 < s.size := by omega
  have n10 : 10 < s.size := by omega
  have hz : ((s.size : Int) != 11) = false := by simp [hs]
  have hz2 : (2 : Int) < s.size := by omega
  have hz5 : (5 : Int) < s.size := by omega
  have hz9 : (9 : Int) ≤ s.size := by omega
  have g2 : (((s[2]'n2).toNat : Int) != 58) = false := by rw [← rp_get s 2 n2]; exact bne_eq_false_iff_eq.mpr h2
  have g5 : (((s[5]'n5).toNat : Int) != 58) = true := by rw [← rp_get s 5 n5]; exact bne_iff_ne.mpr h5
  clear h2 h5 hs
  go_enter Try.func28, Try.ntmps28
  go_wp2_with (go_at_call 26; (with_reducible refine (dioramaref20_Check.calls F D 0 _ HE.out).mono ?_); rintro e w1 ⟨rfl, hb⟩)
  have H0 := Aside0.mk (P2.start hb)
  have k0 : w1.cell? ⟨w.heap.size, 0, none⟩ = some (.int .i64 F) := (blk_cell H0.out.b2 0).trans rfl
  have k1 : w1.cell? ⟨w.heap.size, 1, none⟩ = some (.bool D) := (blk_cell H0.out.b2 1).trans rfl
  go_quiet (fail)
  rename_i nq
  have H2 := Aside0.mk (P2.drewN H0.out nq)
  have f0 := (blk_cell H2.out.b4 0).trans (show _ = some (Value.int .i64 0) from rfl)
  have z0 := blk_frozen H2.out.b4 0
  have f1 := (blk_cell H2.out.b4 1).trans (show _ = some (Value.int .i64 0) from rfl)
  have z1 := blk_frozen H2.out.b4 1
  have f2 := (blk_cell H2.out.b4 2).trans (show _ = some (Value.int .i64 0) from rfl)
  have z2 := blk_frozen H2.out.b4 2
  have f3 := (blk_cell H2.out.b4 3).trans (show _ = some (Value.int .i64 0) from rfl)
  have z3 := blk_frozen H2.out.b4 3
  go_wp2
  refine bodyPost_ret (results_ct rfl _ _ (w.heap.size + 1) 25 #[.int .i64 0, .int .i64 0, .int .i64 0, .int .i64 0] (0, 0) _ rfl (zeros4 H2.out) Try.underlying25 rfl (by kernel_rfl)) rfl ?_
  exact ⟨rfl, zeros_below H2.out⟩
set_option maxHeartbeats 4000000 in
set_option maxRecDepth 100000 in
theorem rp_eight (F : Int) (D : Bool) (s : ByteArray) (w : World) (he : dioramaref20_Check.f F D = some 0) (hs : s.size = 11) (h2 : bt s 2 = 58) (h5 : bt s 5 = 58) (h8 : bt s 8 ≠ if D = true then 59 else 58) :
    Calls Try.prog 28 #[.agg #[.int .i64 F, .bool D], .string s] w fun e w' => e = .returned (.tuple #[.agg #[.int .i64 0, .int .i64 0, .int .i64 0, .int .i64 0], .int .i64 270]) ∧ Below w.heap.size w w' := by
  have hu23 := Try.underlying23
  have hu25 := Try.underlying25
  have HE := Aside0.mk he
  clear he
  have n0 : 0 < s.size := by omega
  have n1 : 1 < s.size := by omega
  have n2 : 2 < s.size := by omega
  have n3 : 3 < s.size := by omega
  have n4 : 4 < s.size := by omega
  have n5 : 5 < s.size := by omega
  have n6 : 6 < s.size := by omega
  have n7 : 7 < s.size := by omega
  have n8 : 8 < s.size := by omega
  have n9 : 9 < s.size := by omega
  have n10 : 10 < s.size := by omega
  have hz : ((s.size : Int) != 11) = false := by simp [hs]
  have hz2 : (2 : Int) < s.size := by omega
  have hz5 : (5 : Int) < s.size := by omega
  have hz9 : (9 : Int) ≤ s.size := by omega
  have g2 : (((s[2]'n2).toNat : Int) != 58) = false := by rw [← rp_get s 2 n2]; exact bne_eq_false_iff_eq.mpr h2
  have g5 : (((s[5]'n5).toNat : Int) != 58) = false := by rw [← rp_get s 5 n5]; exact bne_eq_false_iff_eq.mpr h5
  have g8 : ((s.extract 8 9).toList == (sgn D).toList) = false := by rw [rp_ext8 s n8, sgn_at, ← rp_get s 8 n8]; exact decide_eq_false h8
  clear h2 h5 h8 hs
  go_enter Try.func28, Try.ntmps28
  go_wp2_with (go_at_call 26; (with_reducible refine (dioramaref20_Check.calls F D 0 _ HE.out).mono ?_); rintro e w1 ⟨rfl, hb⟩)
  have H0 := P2.start hb
  have S0 : S2 w F D w1 := H0.S
  clear H0
  go_region_held3 (S2 w F D) (first | assumption | exact S2.keep (by assumption) (by assumption) | exact S2.keep (by assumption) (below_drew (Below.refl _ _)))
    ((go_at_call 51; refine (sign_any F D _).mono ?_; rintro e w' ⟨rfl, hb2⟩))
  rename_i hS
  have H2 := hS.2.2
  have f0 := (blk_cell H2.out.b4 0).trans (show _ = some (Value.int .i64 0) from rfl)
  have z0 := blk_frozen H2.out.b4 0
  have f1 := (blk_cell H2.out.b4 1).trans (show _ = some (Value.int .i64 0) from rfl)
  have z1 := blk_frozen H2.out.b4 1
  have f2 := (blk_cell H2.out.b4 2).trans (show _ = some (Value.int .i64 0) from rfl)
  have z2 := blk_frozen H2.out.b4 2
  have f3 := (blk_cell H2.out.b4 3).trans (show _ = some (Value.int .i64 0) from rfl)
  have z3 := blk_frozen H2.out.b4 3
  go_wp2
  refine bodyPost_ret (results_ct rfl _ _ (w.heap.size + 1) 25 #[.int .i64 0, .int .i64 0, .int .i64 0, .int .i64 0] (0, 0) _ rfl (zeros4 H2.out) Try.underlying25 rfl (by kernel_rfl)) rfl ?_
  exact ⟨rfl, zeros_below H2.out⟩
set_option maxHeartbeats 4000000 in
set_option maxRecDepth 100000 in
theorem rp_bad (F : Int) (D : Bool) (s : ByteArray) (w : World) (he : dioramaref20_Check.f F D = some 0) (hs : s.size = 11) (h2 : bt s 2 = 58) (h5 : bt s 5 = 58) (h8 : bt s 8 = if D = true then 59 else 58) (hd : ¬ rdigits s) :
    Calls Try.prog 28 #[.agg #[.int .i64 F, .bool D], .string s] w fun e w' => e = .returned (.tuple #[.agg #[.int .i64 0, .int .i64 0, .int .i64 0, .int .i64 0], .int .i64 270]) ∧ Below w.heap.size w w' := by
  have hu23 := Try.underlying23
  have hu25 := Try.underlying25
  have HE := Aside0.mk he
  clear he
  have n0 : 0 < s.size := by omega
  have n1 : 1 < s.size := by omega
  have n2 : 2 < s.size := by omega
  have n3 : 3 < s.size := by omega
  have n4 : 4 < s.size := by omega
  have n5 : 5 < s.size := by omega
  have n6 : 6 < s.size := by omega
  have n7 : 7 < s.size := by omega
  have n8 : 8 < s.size := by omega
  have n9 : 9 < s.size := by omega
  have n10 : 10 < s.size := by omega
  have hz : ((s.size : Int) != 11) = false := by simp [hs]
  have hz2 : (2 : Int) < s.size := by omega
  have hz5 : (5 : Int) < s.size := by omega
  have hz9 : (9 : Int) ≤ s.size := by omega
  have g2 : (((s[2]'n2).toNat : Int) != 58) = false := by rw [← rp_get s 2 n2]; exact bne_eq_false_iff_eq.mpr h2
  have g5 : (((s[5]'n5).toNat : Int) != 58) = false := by rw [← rp_get s 5 n5]; exact bne_eq_false_iff_eq.mpr h5
  have g8 : ((s.extract 8 9).toList == (sgn D).toList) = true := by rw [rp_ext8 s n8, sgn_at, ← rp_get s 8 n8]; exact decide_eq_true h8
  have HD := Aside0.mk hd
  clear hd
  clear h2 h5 h8 hs
  go_enter Try.func28, Try.ntmps28
  go_wp2_with (go_at_call 26; (with_reducible refine (dioramaref20_Check.calls F D 0 _ HE.out).mono ?_); rintro e w1 ⟨rfl, hb⟩)
  have H0 := P2.start hb
  have S0 : S2 w F D w1 := H0.S
  clear H0
  go_region_held3 (S2 w F D) (first | assumption | exact S2.keep (by assumption) (by assumption) | exact S2.keep (by assumption) (below_drew (Below.refl _ _)))
    ((go_at_call 51; refine (sign_any F D _).mono ?_; rintro e w' ⟨rfl, hb2⟩))
  rename_i hS
  have H2 := hS.2.2
  have hgg : w.heap.size + 1 < w'.heap.size := blk_lt H2.out.b4
  go_wp2
  refine wp_loop_rounds 5 ?_
  refine abs_rounds (P7 w w'.heap.size F D 0 0 0 0) ⟨⟨blk_alloc H2.out.b2 _, blk_alloc H2.out.b4 _, below_alloc H2.out.bl _⟩, blk_new _ _, hgg⟩ ?_
  generalize w'.heap.size = g at *
  intro W0 S
  have HS := Aside0.mk S
  clear S
  rw [rounds_succ]
  go_wp2
  refine wp_loop_rounds 3 ?_
  rw [rounds_succ]
  by_cases d0 : 48 ≤ ((s[0]'n0).toNat : Int) ∧ ((s[0]'n0).toNat : Int) ≤ 57
  rotate_left
  · clear HD
    have f0 : W0.cell? ⟨w.heap.size + 1, 0, none⟩ = some (.int .i64 0) := (blk_cell HS.out.p.b4 0).trans rfl
    have zz0 := blk_frozen HS.out.p.b4 0
    have f1 : W0.cell? ⟨w.heap.size + 1, 1, none⟩ = some (.int .i64 0) := (blk_cell HS.out.p.b4 1).trans rfl
    have zz1 := blk_frozen HS.out.p.b4 1
    have f2 : W0.cell? ⟨w.heap.size + 1, 2, none⟩ = some (.int .i64 0) := (blk_cell HS.out.p.b4 2).trans rfl
    have zz2 := blk_frozen HS.out.p.b4 2
    have f3 : W0.cell? ⟨w.heap.size + 1, 3, none⟩ = some (.int .i64 0) := (blk_cell HS.out.p.b4 3).trans rfl
    have zz3 := blk_frozen HS.out.p.b4 3
    by_cases lo : ((s[0]'n0).toNat : Int) < 48
    · clear d0
      go_wp2
      refine bodyPost_ret (results_ct rfl _ _ (w.heap.size + 1) 25 #[.int .i64 0, .int .i64 0, .int .i64 0, .int .i64 0] (0, 0) _ rfl (zeros4 HS.out.p) Try.underlying25 rfl (by kernel_rfl)) rfl ?_
      exact ⟨rfl, zeros_below HS.out.p⟩
    · have hi : 57 < ((s[0]'n0).toNat : Int) := by omega
      clear d0
      go_wp2
      refine bodyPost_ret (results_ct rfl _ _ (w.heap.size + 1) 25 #[.int .i64 0, .int .i64 0, .int .i64 0, .int .i64 0] (0, 0) _ rfl (zeros4 HS.out.p) Try.underlying25 rfl (by kernel_rfl)) rfl ?_
      exact ⟨rfl, zeros_below HS.out.p⟩
  obtain ⟨x0, y0⟩ := d0
  have k0 : W0.cell? ⟨g, 0, none⟩ = some (.int .i64 0) := (blk_cell HS.out.b7 0).trans rfl
  have z0 := blk_frozen HS.out.b7 0
  go_wp2
  go_region
  go_wp2
  refine abs_rounds (P7 w g F D (((s[0]'n0).toNat : Int) - (48 : Int)) 0 0 0) ⟨P2.store (P2.drew HS.out.p) HS.out.hg 0 _, blk_put (blk_drew HS.out.b7) 0 _ rfl, HS.out.hg⟩ ?_
  clear k0 z0 HS
  intro W1 S
  have HS := Aside0.mk S
  clear S
  rw [rounds_succ]
  by_cases d1 : 48 ≤ ((s[1]'n1).toNat : Int) ∧ ((s[1]'n1).toNat : Int) ≤ 57
  rotate_left
  · clear HD
    have f0 : W1.cell? ⟨w.heap.size + 1, 0, none⟩ = some (.int .i64 0) := (blk_cell HS.out.p.b4 0).trans rfl
    have zz0 := blk_frozen HS.out.p.b4 0
    have f1 : W1.cell? ⟨w.heap.size + 1, 1, none⟩ = some (.int .i64 0) := (blk_cell HS.out.p.b4 1).trans rfl
    have zz1 := blk_frozen HS.out.p.b4 1
    have f2 : W1.cell? ⟨w.heap.size + 1, 2, none⟩ = some (.int .i64 0) := (blk_cell HS.out.p.b4 2).trans rfl
    have zz2 := blk_frozen HS.out.p.b4 2
    have f3 : W1.cell? ⟨w.heap.size + 1, 3, none⟩ = some (.int .i64 0) := (blk_cell HS.out.p.b4 3).trans rfl
    have zz3 := blk_frozen HS.out.p.b4 3
    by_cases lo : ((s[1]'n1).toNat : Int) < 48
    · clear d1
      go_wp2
      refine bodyPost_ret (results_ct rfl _ _ (w.heap.size + 1) 25 #[.int .i64 0, .int .i64 0, .int .i64 0, .int .i64 0] (0, 0) _ rfl (zeros4 HS.out.p) Try.underlying25 rfl (by kernel_rfl)) rfl ?_
      exact ⟨rfl, zeros_below HS.out.p⟩
    · have hi : 57 < ((s[1]'n1).toNat : Int) := by omega
      clear d1
      go_wp2
      refine bodyPost_ret (results_ct rfl _ _ (w.heap.size + 1) 25 #[.int .i64 0, .int .i64 0, .int .i64 0, .int .i64 0] (0, 0) _ rfl (zeros4 HS.out.p) Try.underlying25 rfl (by kernel_rfl)) rfl ?_
      exact ⟨rfl, zeros_below HS.out.p⟩
  obtain ⟨x1, y1⟩ := d1
  have k0 : W1.cell? ⟨g, 0, none⟩ = some (.int .i64 (((s[0]'n0).toNat : Int) - (48 : Int))) := (blk_cell HS.out.b7 0).trans rfl
  have z0 := blk_frozen HS.out.b7 0
  go_wp2
  go_region
  go_wp2
  refine abs_rounds (P7 w g F D ((((s[0]'n0).toNat : Int) - (48 : Int)) * (10 : Int) + (((s[1]'n1).toNat : Int) - (48 : Int))) 0 0 0) ⟨P2.store (P2.drew HS.out.p) HS.out.hg 0 _, blk_put (blk_drew HS.out.b7) 0 _ rfl, HS.out.hg⟩ ?_
  clear k0 z0 HS
  intro W2 S
  have HS := Aside0.mk S
  clear S
  rw [rounds_succ]
  go_wp2
  rw [rounds_succ]
  go_wp2
  refine wp_loop_rounds 3 ?_
  rw [rounds_succ]
  by_cases d3 : 48 ≤ ((s[3]'n3).toNat : Int) ∧ ((s[3]'n3).toNat : Int) ≤ 57
  rotate_left
  · clear HD
    have f0 : W2.cell? ⟨w.heap.size + 1, 0, none⟩ = some (.int .i64 0) := (blk_cell HS.out.p.b4 0).trans rfl
    have zz0 := blk_frozen HS.out.p.b4 0
    have f1 : W2.cell? ⟨w.heap.size + 1, 1, none⟩ = some (.int .i64 0) := (blk_cell HS.out.p.b4 1).trans rfl
    have zz1 := blk_frozen HS.out.p.b4 1
    have f2 : W2.cell? ⟨w.heap.size + 1, 2, none⟩ = some (.int .i64 0) := (blk_cell HS.out.p.b4 2).trans rfl
    have zz2 := blk_frozen HS.out.p.b4 2
    have f3 : W2.cell? ⟨w.heap.size + 1, 3, none⟩ = some (.int .i64 0) := (blk_cell HS.out.p.b4 3).trans rfl
    have zz3 := blk_frozen HS.out.p.b4 3
    by_cases lo : ((s[3]'n3).toNat : Int) < 48
    · clear d3
      go_wp2
      refine bodyPost_ret (results_ct rfl _ _ (w.heap.size + 1) 25 #[.int .i64 0, .int .i64 0, .int .i64 0, .int .i64 0] (0, 0) _ rfl (zeros4 HS.out.p) Try.underlying25 rfl (by kernel_rfl)) rfl ?_
      exact ⟨rfl, zeros_below HS.out.p⟩
    · have hi : 57 < ((s[3]'n3).toNat : Int) := by omega
      clear d3
      go_wp2
      refine bodyPost_ret (results_ct rfl _ _ (w.heap.size + 1) 25 #[.int .i64 0, .int .i64 0, .int .i64 0, .int .i64 0] (0, 0) _ rfl (zeros4 HS.out.p) Try.underlying25 rfl (by kernel_rfl)) rfl ?_
      exact ⟨rfl, zeros_below HS.out.p⟩
  obtain ⟨x3, y3⟩ := d3
  have k0 : W2.cell? ⟨g, 1, none⟩ = some (.int .i64 0) := (blk_cell HS.out.b7 1).trans rfl
  have z0 := blk_frozen HS.out.b7 1
  go_wp2
  go_region
  go_wp2
  refine abs_rounds (P7 w g F D ((((s[0]'n0).toNat : Int) - (48 : Int)) * (10 : Int) + (((s[1]'n1).toNat : Int) - (48 : Int))) (((s[3]'n3).toNat : Int) - (48 : Int)) 0 0) ⟨P2.store (P2.drew HS.out.p) HS.out.hg 1 _, blk_put (blk_drew HS.out.b7) 1 _ rfl, HS.out.hg⟩ ?_
  clear k0 z0 HS
  intro W3 S
  have HS := Aside0.mk S
  clear S
  rw [rounds_succ]
  by_cases d4 : 48 ≤ ((s[4]'n4).toNat : Int) ∧ ((s[4]'n4).toNat : Int) ≤ 57
  rotate_left
  · clear HD
    have f0 : W3.cell? ⟨w.heap.size + 1, 0, none⟩ = some (.int .i64 0) := (blk_cell HS.out.p.b4 0).trans rfl
    have zz0 := blk_frozen HS.out.p.b4 0
    have f1 : W3.cell? ⟨w.heap.size + 1, 1, none⟩ = some (.int .i64 0) := (blk_cell HS.out.p.b4 1).trans rfl
    have zz1 := blk_frozen HS.out.p.b4 1
    have f2 : W3.cell? ⟨w.heap.size + 1, 2, none⟩ = some (.int .i64 0) := (blk_cell HS.out.p.b4 2).trans rfl
    have zz2 := blk_frozen HS.out.p.b4 2
    have f3 : W3.cell? ⟨w.heap.size + 1, 3, none⟩ = some (.int .i64 0) := (blk_cell HS.out.p.b4 3).trans rfl
    have zz3 := blk_frozen HS.out.p.b4 3
    by_cases lo : ((s[4]'n4).toNat : Int) < 48
    · clear d4
      go_wp2
      refine bodyPost_ret (results_ct rfl _ _ (w.heap.size + 1) 25 #[.int .i64 0, .int .i64 0, .int .i64 0, .int .i64 0] (0, 0) _ rfl (zeros4 HS.out.p) Try.underlying25 rfl (by kernel_rfl)) rfl ?_
      exact ⟨rfl, zeros_below HS.out.p⟩
    · have hi : 57 < ((s[4]'n4).toNat : Int) := by omega
      clear d4
      go_wp2
      refine bodyPost_ret (results_ct rfl _ _ (w.heap.size + 1) 25 #[.int .i64 0, .int .i64 0, .int .i64 0, .int .i64 0] (0, 0) _ rfl (zeros4 HS.out.p) Try.underlying25 rfl (by kernel_rfl)) rfl ?_
      exact ⟨rfl, zeros_below HS.out.p⟩
  obtain ⟨x4, y4⟩ := d4
  have k0 : W3.cell? ⟨g, 1, none⟩ = some (.int .i64 (((s[3]'n3).toNat : Int) - (48 : Int))) := (blk_cell HS.out.b7 1).trans rfl
  have z0 := blk_frozen HS.out.b7 1
  go_wp2
  go_region
  go_wp2
  refine abs_rounds (P7 w g F D ((((s[0]'n0).toNat : Int) - (48 : Int)) * (10 : Int) + (((s[1]'n1).toNat : Int) - (48 : Int))) ((((s[3]'n3).toNat : Int) - (48 : Int)) * (10 : Int) + (((s[4]'n4).toNat : Int) - (48 : Int))) 0 0) ⟨P2.store (P2.drew HS.out.p) HS.out.hg 1 _, blk_put (blk_drew HS.out.b7) 1 _ rfl, HS.out.hg⟩ ?_
  clear k0 z0 HS
  intro W4 S
  have HS := Aside0.mk S
  clear S
  rw [rounds_succ]
  go_wp2
  rw [rounds_succ]
  go_wp2
  refine wp_loop_rounds 3 ?_
  rw [rounds_succ]
  by_cases d6 : 48 ≤ ((s[6]'n6).toNat : Int) ∧ ((s[6]'n6).toNat : Int) ≤ 57
  rotate_left
  · clear HD
    have f0 : W4.cell? ⟨w.heap.size + 1, 0, none⟩ = some (.int .i64 0) := (blk_cell HS.out.p.b4 0).trans rfl
    have zz0 := blk_frozen HS.out.p.b4 0
    have f1 : W4.cell? ⟨w.heap.size + 1, 1, none⟩ = some (.int .i64 0) := (blk_cell HS.out.p.b4 1).trans rfl
    have zz1 := blk_frozen HS.out.p.b4 1
    have f2 : W4.cell? ⟨w.heap.size + 1, 2, none⟩ = some (.int .i64 0) := (blk_cell HS.out.p.b4 2).trans rfl
    have zz2 := blk_frozen HS.out.p.b4 2
    have f3 : W4.cell? ⟨w.heap.size + 1, 3, none⟩ = some (.int .i64 0) := (blk_cell HS.out.p.b4 3).trans rfl
    have zz3 := blk_frozen HS.out.p.b4 3
    by_cases lo : ((s[6]'n6).toNat : Int) < 48
    · clear d6
      go_wp2
      refine bodyPost_ret (results_ct rfl _ _ (w.heap.size + 1) 25 #[.int .i64 0, .int .i64 0, .int .i64 0, .int .i64 0] (0, 0) _ rfl (zeros4 HS.out.p) Try.underlying25 rfl (by kernel_rfl)) rfl ?_
      exact ⟨rfl, zeros_below HS.out.p⟩
    · have hi : 57 < ((s[6]'n6).toNat : Int) := by omega
      clear d6
      go_wp2
      refine bodyPost_ret (results_ct rfl _ _ (w.heap.size + 1) 25 #[.int .i64 0, .int .i64 0, .int .i64 0, .int .i64 0] (0, 0) _ rfl (zeros4 HS.out.p) Try.underlying25 rfl (by kernel_rfl)) rfl ?_
      exact ⟨rfl, zeros_below HS.out.p⟩
  obtain ⟨x6, y6⟩ := d6
  have k0 : W4.cell? ⟨g, 2, none⟩ = some (.int .i64 0) := (blk_cell HS.out.b7 2).trans rfl
  have z0 := blk_frozen HS.out.b7 2
  go_wp2
  go_region
  go_wp2
  refine abs_rounds (P7 w g F D ((((s[0]'n0).toNat : Int) - (48 : Int)) * (10 : Int) + (((s[1]'n1).toNat : Int) - (48 : Int))) ((((s[3]'n3).toNat : Int) - (48 : Int)) * (10 : Int) + (((s[4]'n4).toNat : Int) - (48 : Int))) (((s[6]'n6).toNat : Int) - (48 : Int)) 0) ⟨P2.store (P2.drew HS.out.p) HS.out.hg 2 _, blk_put (blk_drew HS.out.b7) 2 _ rfl, HS.out.hg⟩ ?_
  clear k0 z0 HS
  intro W5 S
  have HS := Aside0.mk S
  clear S
  rw [rounds_succ]
  by_cases d7 : 48 ≤ ((s[7]'n7).toNat : Int) ∧ ((s[7]'n7).toNat : Int) ≤ 57
  rotate_left
  · clear HD
    have f0 : W5.cell? ⟨w.heap.size + 1, 0, none⟩ = some (.int .i64 0) := (blk_cell HS.out.p.b4 0).trans rfl
    have zz0 := blk_frozen HS.out.p.b4 0
    have f1 : W5.cell? ⟨w.heap.size + 1, 1, none⟩ = some (.int .i64 0) := (blk_cell HS.out.p.b4 1).trans rfl
    have zz1 := blk_frozen HS.out.p.b4 1
    have f2 : W5.cell? ⟨w.heap.size + 1, 2, none⟩ = some (.int .i64 0) := (blk_cell HS.out.p.b4 2).trans rfl
    have zz2 := blk_frozen HS.out.p.b4 2
    have f3 : W5.cell? ⟨w.heap.size + 1, 3, none⟩ = some (.int .i64 0) := (blk_cell HS.out.p.b4 3).trans rfl
    have zz3 := blk_frozen HS.out.p.b4 3
    by_cases lo : ((s[7]'n7).toNat : Int) < 48
    · clear d7
      go_wp2
      refine bodyPost_ret (results_ct rfl _ _ (w.heap.size + 1) 25 #[.int .i64 0, .int .i64 0, .int .i64 0, .int .i64 0] (0, 0) _ rfl (zeros4 HS.out.p) Try.underlying25 rfl (by kernel_rfl)) rfl ?_
      exact ⟨rfl, zeros_below HS.out.p⟩
    · have hi : 57 < ((s[7]'n7).toNat : Int) := by omega
      clear d7
      go_wp2
      refine bodyPost_ret (results_ct rfl _ _ (w.heap.size + 1) 25 #[.int .i64 0, .int .i64 0, .int .i64 0, .int .i64 0] (0, 0) _ rfl (zeros4 HS.out.p) Try.underlying25 rfl (by kernel_rfl)) rfl ?_
      exact ⟨rfl, zeros_below HS.out.p⟩
  obtain ⟨x7, y7⟩ := d7
  have k0 : W5.cell? ⟨g, 2, none⟩ = some (.int .i64 (((s[6]'n6).toNat : Int) - (48 : Int))) := (blk_cell HS.out.b7 2).trans rfl
  have z0 := blk_frozen HS.out.b7 2
  go_wp2
  go_region
  go_wp2
  refine abs_rounds (P7 w g F D ((((s[0]'n0).toNat : Int) - (48 : Int)) * (10 : Int) + (((s[1]'n1).toNat : Int) - (48 : Int))) ((((s[3]'n3).toNat : Int) - (48 : Int)) * (10 : Int) + (((s[4]'n4).toNat : Int) - (48 : Int))) ((((s[6]'n6).toNat : Int) - (48 : Int)) * (10 : Int) + (((s[7]'n7).toNat : Int) - (48 : Int))) 0) ⟨P2.store (P2.drew HS.out.p) HS.out.hg 2 _, blk_put (blk_drew HS.out.b7) 2 _ rfl, HS.out.hg⟩ ?_
  clear k0 z0 HS
  intro W6 S
  have HS := Aside0.mk S
  clear S
  rw [rounds_succ]
  go_wp2
  rw [rounds_succ]
  go_wp2
  refine wp_loop_rounds 3 ?_
  rw [rounds_succ]
  by_cases d9 : 48 ≤ ((s[9]'n9).toNat : Int) ∧ ((s[9]'n9).toNat : Int) ≤ 57
  rotate_left
  · clear HD
    have f0 : W6.cell? ⟨w.heap.size + 1, 0, none⟩ = some (.int .i64 0) := (blk_cell HS.out.p.b4 0).trans rfl
    have zz0 := blk_frozen HS.out.p.b4 0
    have f1 : W6.cell? ⟨w.heap.size + 1, 1, none⟩ = some (.int .i64 0) := (blk_cell HS.out.p.b4 1).trans rfl
    have zz1 := blk_frozen HS.out.p.b4 1
    have f2 : W6.cell? ⟨w.heap.size + 1, 2, none⟩ = some (.int .i64 0) := (blk_cell HS.out.p.b4 2).trans rfl
    have zz2 := blk_frozen HS.out.p.b4 2
    have f3 : W6.cell? ⟨w.heap.size + 1, 3, none⟩ = some (.int .i64 0) := (blk_cell HS.out.p.b4 3).trans rfl
    have zz3 := blk_frozen HS.out.p.b4 3
    by_cases lo : ((s[9]'n9).toNat : Int) < 48
    · clear d9
      go_wp2
      refine bodyPost_ret (results_ct rfl _ _ (w.heap.size + 1) 25 #[.int .i64 0, .int .i64 0, .int .i64 0, .int .i64 0] (0, 0) _ rfl (zeros4 HS.out.p) Try.underlying25 rfl (by kernel_rfl)) rfl ?_
      exact ⟨rfl, zeros_below HS.out.p⟩
    · have hi : 57 < ((s[9]'n9).toNat : Int) := by omega
      clear d9
      go_wp2
      refine bodyPost_ret (results_ct rfl _ _ (w.heap.size + 1) 25 #[.int .i64 0, .int .i64 0, .int .i64 0, .int .i64 0] (0, 0) _ rfl (zeros4 HS.out.p) Try.underlying25 rfl (by kernel_rfl)) rfl ?_
      exact ⟨rfl, zeros_below HS.out.p⟩
  obtain ⟨x9, y9⟩ := d9
  have k0 : W6.cell? ⟨g, 3, none⟩ = some (.int .i64 0) := (blk_cell HS.out.b7 3).trans rfl
  have z0 := blk_frozen HS.out.b7 3
  go_wp2
  go_region
  go_wp2
  refine abs_rounds (P7 w g F D ((((s[0]'n0).toNat : Int) - (48 : Int)) * (10 : Int) + (((s[1]'n1).toNat : Int) - (48 : Int))) ((((s[3]'n3).toNat : Int) - (48 : Int)) * (10 : Int) + (((s[4]'n4).toNat : Int) - (48 : Int))) ((((s[6]'n6).toNat : Int) - (48 : Int)) * (10 : Int) + (((s[7]'n7).toNat : Int) - (48 : Int))) (((s[9]'n9).toNat : Int) - (48 : Int))) ⟨P2.store (P2.drew HS.out.p) HS.out.hg 3 _, blk_put (blk_drew HS.out.b7) 3 _ rfl, HS.out.hg⟩ ?_
  clear k0 z0 HS
  intro W7 S
  have HS := Aside0.mk S
  clear S
  rw [rounds_succ]
  by_cases d10 : 48 ≤ ((s[10]'n10).toNat : Int) ∧ ((s[10]'n10).toNat : Int) ≤ 57
  rotate_left
  · clear HD
    have f0 : W7.cell? ⟨w.heap.size + 1, 0, none⟩ = some (.int .i64 0) := (blk_cell HS.out.p.b4 0).trans rfl
    have zz0 := blk_frozen HS.out.p.b4 0
    have f1 : W7.cell? ⟨w.heap.size + 1, 1, none⟩ = some (.int .i64 0) := (blk_cell HS.out.p.b4 1).trans rfl
    have zz1 := blk_frozen HS.out.p.b4 1
    have f2 : W7.cell? ⟨w.heap.size + 1, 2, none⟩ = some (.int .i64 0) := (blk_cell HS.out.p.b4 2).trans rfl
    have zz2 := blk_frozen HS.out.p.b4 2
    have f3 : W7.cell? ⟨w.heap.size + 1, 3, none⟩ = some (.int .i64 0) := (blk_cell HS.out.p.b4 3).trans rfl
    have zz3 := blk_frozen HS.out.p.b4 3
    by_cases lo : ((s[10]'n10).toNat : Int) < 48
    · clear d10
      go_wp2
      refine bodyPost_ret (results_ct rfl _ _ (w.heap.size + 1) 25 #[.int .i64 0, .int .i64 0, .int .i64 0, .int .i64 0] (0, 0) _ rfl (zeros4 HS.out.p) Try.underlying25 rfl (by kernel_rfl)) rfl ?_
      exact ⟨rfl, zeros_below HS.out.p⟩
    · have hi : 57 < ((s[10]'n10).toNat : Int) := by omega
      clear d10
      go_wp2
      refine bodyPost_ret (results_ct rfl _ _ (w.heap.size + 1) 25 #[.int .i64 0, .int .i64 0, .int .i64 0, .int .i64 0] (0, 0) _ rfl (zeros4 HS.out.p) Try.underlying25 rfl (by kernel_rfl)) rfl ?_
      exact ⟨rfl, zeros_below HS.out.p⟩
  obtain ⟨x10, y10⟩ := d10
  have k0 : W7.cell? ⟨g, 3, none⟩ = some (.int .i64 (((s[9]'n9).toNat : Int) - (48 : Int))) := (blk_cell HS.out.b7 3).trans rfl
  have z0 := blk_frozen HS.out.b7 3
  go_wp2
  go_region
  go_wp2
  refine abs_rounds (P7 w g F D ((((s[0]'n0).toNat : Int) - (48 : Int)) * (10 : Int) + (((s[1]'n1).toNat : Int) - (48 : Int))) ((((s[3]'n3).toNat : Int) - (48 : Int)) * (10 : Int) + (((s[4]'n4).toNat : Int) - (48 : Int))) ((((s[6]'n6).toNat : Int) - (48 : Int)) * (10 : Int) + (((s[7]'n7).toNat : Int) - (48 : Int))) ((((s[9]'n9).toNat : Int) - (48 : Int)) * (10 : Int) + (((s[10]'n10).toNat : Int) - (48 : Int)))) ⟨P2.store (P2.drew HS.out.p) HS.out.hg 3 _, blk_put (blk_drew HS.out.b7) 3 _ rfl, HS.out.hg⟩ ?_
  clear k0 z0 HS
  intro W8 S
  have HS := Aside0.mk S
  clear S
  rw [rounds_succ]
  go_wp2
  exact absurd (show rdigits s from ⟨by unfold rdg; rw [show (0 : Int) = ((0 : Nat) : Int) from rfl, rp_get s 0 n0]; exact ⟨x0, y0⟩, by unfold rdg; rw [show (1 : Int) = ((1 : Nat) : Int) from rfl, rp_get s 1 n1]; exact ⟨x1, y1⟩, by unfold rdg; rw [show (3 : Int) = ((3 : Nat) : Int) from rfl, rp_get s 3 n3]; exact ⟨x3, y3⟩, by unfold rdg; rw [show (4 : Int) = ((4 : Nat) : Int) from rfl, rp_get s 4 n4]; exact ⟨x4, y4⟩, by unfold rdg; rw [show (6 : Int) = ((6 : Nat) : Int) from rfl, rp_get s 6 n6]; exact ⟨x6, y6⟩, by unfold rdg; rw [show (7 : Int) = ((7 : Nat) : Int) from rfl, rp_get s 7 n7]; exact ⟨x7, y7⟩, by unfold rdg; rw [show (9 : Int) = ((9 : Nat) : Int) from rfl, rp_get s 9 n9]; exact ⟨x9, y9⟩, by unfold rdg; rw [show (10 : Int) = ((10 : Nat) : Int) from rfl, rp_get s 10 n10]; exact ⟨x10, y10⟩⟩) HD.out

end Go.Proofs.Ytndbhfbgigefnaa.PA
