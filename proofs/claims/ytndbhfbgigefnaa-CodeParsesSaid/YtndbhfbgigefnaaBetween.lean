/- Between, walked by hand (it makes a bound method): what the printed functions it calls answer.
   Conditions: the pure function answers. -/
import Derived.Test.YtndbhfbgigefnaaPAx24
namespace Go.Proofs.Ytndbhfbgigefnaa.PA
open Go.RowKit Go.Proofs.YtndbhfbgigefnaaW.PrintWords Go.Proofs.YtndbhfbgigefnaaW.PrintLast Go.Proofs.YtndbhfbgigefnaaW.PrintMore
set_option linter.unusedVariables false
set_option linter.unusedSimpArgs false
theorem blk_newAt (w : World) (o : Obj) {g : Nat} (hg : g = w.heap.size) : (w.alloc o).heap[g]? = some o := by rw [hg]; exact blk_new w o
def code_Between.f (k : Nat) (F : Int) (D : Bool) (a0 a1 a2 a3 b0 b1 b2 b3 : Int) : Option (Int × Int) :=
  (code_checked.f k F D a0 a1 a2 a3).bind fun t1 => if t1 = 0 then ((code_checked.f k F D b0 b1 b2 b3).bind fun t2 => if t2 = 0 then
    ((code_steps_count.f F D b0 b1 b2 b3).bind fun n2 => (code_steps_count.f F D a0 a1 a2 a3).bind fun n1 => (code_steps_around.f F D (wrap64 (n2 - n1))).bind fun r => some (r, 0)) else some (0, t2)) else some (0, t1)
theorem code_Between.mono : ∀ a0 a1 a2 a3 a4 a5 a6 a7 a8 a9 k, LeO (code_Between.f k a0 a1 a2 a3 a4 a5 a6 a7 a8 a9) (code_Between.f (k + 1) a0 a1 a2 a3 a4 a5 a6 a7 a8 a9) := by
  intro a0 a1 a2 a3 a4 a5 a6 a7 a8 a9 k
  unfold code_Between.f
  exact LeO.bind (code_checked.mono _ _ _ _ _ _ _) (fun _ => LeO.ite (LeO.bind (code_checked.mono _ _ _ _ _ _ _) (fun _ => LeO.refl _)) (LeO.refl _))
/-- What the region of the two counts reads. -/
abbrev SBet (F : Int) (D : Bool) (a0 a1 a2 a3 b0 b1 b2 b3 : Int) (g h : Nat) (w w' : World) : Prop :=
  w'.cell? ⟨h, 0, none⟩ = some (.int .i64 F) ∧ w'.cell? ⟨h, 1, none⟩ = some (.bool D) ∧
  w'.cell? ⟨g + 1, 0, none⟩ = some (.int .i64 a0) ∧ w'.cell? ⟨g + 1, 1, none⟩ = some (.int .i64 a1) ∧ w'.cell? ⟨g + 1, 2, none⟩ = some (.int .i64 a2) ∧ w'.cell? ⟨g + 1, 3, none⟩ = some (.int .i64 a3) ∧
  w'.cell? ⟨g + 1 + 1, 0, none⟩ = some (.int .i64 b0) ∧ w'.cell? ⟨g + 1 + 1, 1, none⟩ = some (.int .i64 b1) ∧ w'.cell? ⟨g + 1 + 1, 2, none⟩ = some (.int .i64 b2) ∧ w'.cell? ⟨g + 1 + 1, 3, none⟩ = some (.int .i64 b3) ∧
  Aside0 (h < w'.heap.size ∧ g + 1 + 1 < w'.heap.size) ∧ Aside0 (Below w.heap.size w w')
theorem SBet.keep {F : Int} {D : Bool} {a0 a1 a2 a3 b0 b1 b2 b3 : Int} {g h : Nat} {w w1 w2 : World} (s : SBet F D a0 a1 a2 a3 b0 b1 b2 b3 g h w w1) (hb : Below w1.heap.size w1 w2) : SBet F D a0 a1 a2 a3 b0 b1 b2 b3 g h w w2 := by
  obtain ⟨s1, s2, s3, s4, s5, s6, s7, s8, s9, s10, ⟨s11, s12⟩, s13⟩ := s
  have hz := hb.size
  refine ⟨?_, ?_, ?_, ?_, ?_, ?_, ?_, ?_, ?_, ?_, ⟨by omega, by omega⟩, ⟨below_step s13.out hb⟩⟩ <;> (rw [hb.cell (by simp; omega)]; assumption)
/-- The number of a code, whatever its parts. -/
def cnt (F : Int) (D : Bool) (h m s f : Int) : Int := (code_steps_count.f F D h m s f).getD 0
theorem cnt_some (F : Int) (D : Bool) (h m s f : Int) : code_steps_count.f F D h m s f = some (cnt F D h m s f) := by
  unfold cnt code_steps_count.f code_steps_dropped.f
  split <;> rfl
theorem count_any (F : Int) (D : Bool) (h m s f : Int) (w : World) : Calls Try.prog 46 #[.agg #[.int .i64 F, .bool D], .agg #[.int .i64 h, .int .i64 m, .int .i64 s, .int .i64 f]] w fun e w' => e = .returned (.int .i64 (cnt F D h m s f)) ∧ Below w.heap.size w w' :=
  code_steps_count.calls F D h m s f _ w (cnt_some F D h m s f)
theorem around_any (F : Int) (D : Bool) (n r : Int) (h : code_steps_around.f F D n = some r) (w : World) : Calls Try.prog 45 #[.agg #[.int .i64 F, .bool D], .int .i64 n] w fun e w' => e = .returned (.int .i64 r) ∧ Below w.heap.size w w' :=
  code_steps_around.calls F D n r w h
set_option maxHeartbeats 800000 in
set_option maxRecDepth 100000 in
theorem code_Between.calls (k : Nat) (F : Int) (D : Bool) (a0 a1 a2 a3 b0 b1 b2 b3 : Int) (r1 r2 : Int) (w : World) (h : code_Between.f k F D a0 a1 a2 a3 b0 b1 b2 b3 = some (r1, r2)) :
    Calls Try.prog 17 #[.agg #[.int .i64 F, .bool D], .agg #[.int .i64 a0, .int .i64 a1, .int .i64 a2, .int .i64 a3], .agg #[.int .i64 b0, .int .i64 b1, .int .i64 b2, .int .i64 b3]] w fun e w' => e = .returned (.tuple #[.int .i64 r1, .int .i64 r2]) ∧ Below w.heap.size w w' := by
  have hu23 := Try.underlying23
  have hu25 := Try.underlying25
  unfold code_Between.f at h
  obtain ⟨t1, C1, h⟩ := Option.bind_eq_some_iff.mp h
  have H := Aside0.mk h
  have A1 := Aside0.mk C1
  clear h C1
  go_enter Try.func17, Try.ntmps17
  go_wp2_with (fail)
  go_loopw [17] (fun i wr => ∃ n : Int, i = .int .i64 n ∧ Aside0 (n = 0 ∨ (n = 1 ∧ t1 = 0) ∨ (n = 2 ∧ t1 = 0 ∧ code_checked.f k F D b0 b1 b2 b3 = some 0)) ∧
      Aside0 (wr.heap[w.heap.size]? = some (.cells #[.int .i64 F, .bool D] 23 (0, 0))) ∧
      Aside0 (wr.heap[w.heap.size + 1]? = some (.cells #[.int .i64 a0, .int .i64 a1, .int .i64 a2, .int .i64 a3] 25 (0, 0))) ∧
      Aside0 (wr.heap[w.heap.size + 1 + 1]? = some (.cells #[.int .i64 b0, .int .i64 b1, .int .i64 b2, .int .i64 b3] 25 (0, 0))) ∧
      Aside0 (wr.heap[w.heap.size + 1 + 1 + 1]? = some (.cells #[.int .i64 a0, .int .i64 a1, .int .i64 a2, .int .i64 a3, .int .i64 b0, .int .i64 b1, .int .i64 b2, .int .i64 b3] 25 (0, 0))) ∧ Aside0 (Below w.heap.size w wr))
    (fun i _ => 2 - (intOf i).toNat)
  case atStart =>
    refine ⟨0, rfl, ⟨.inl rfl⟩, ⟨?_⟩, ⟨?_⟩, ⟨?_⟩, ⟨?_⟩, ⟨?_⟩⟩
    · exact blk_alloc (blk_alloc (blk_alloc (blk_new w _) _) _) _
    · exact blk_alloc (blk_alloc (blk_newAt _ _ (by simp)) _) _
    · exact blk_alloc (blk_newAt _ _ (by simp)) _
    · exact blk_newAt _ _ (by simp)
    · exact below_alloc (below_alloc (below_alloc (below_alloc (Below.refl _ _) _) _) _) _
  case round =>
    obtain ⟨n, rfl, KN, B1, B2, B3, B4, HB⟩ := hrel
    have hcB1_0 : wr.cell? ⟨w.heap.size, 0, none⟩ = some (.int .i64 F) := (blk_cell B1.out 0).trans rfl
    have hcB1_1 : wr.cell? ⟨w.heap.size, 1, none⟩ = some (.bool D) := (blk_cell B1.out 1).trans rfl
    have hcB2_0 : wr.cell? ⟨w.heap.size + 1, 0, none⟩ = some (.int .i64 a0) := (blk_cell B2.out 0).trans rfl
    have hcB2_1 : wr.cell? ⟨w.heap.size + 1, 1, none⟩ = some (.int .i64 a1) := (blk_cell B2.out 1).trans rfl
    have hcB2_2 : wr.cell? ⟨w.heap.size + 1, 2, none⟩ = some (.int .i64 a2) := (blk_cell B2.out 2).trans rfl
    have hcB2_3 : wr.cell? ⟨w.heap.size + 1, 3, none⟩ = some (.int .i64 a3) := (blk_cell B2.out 3).trans rfl
    have hcB3_0 : wr.cell? ⟨w.heap.size + 1 + 1, 0, none⟩ = some (.int .i64 b0) := (blk_cell B3.out 0).trans rfl
    have hcB3_1 : wr.cell? ⟨w.heap.size + 1 + 1, 1, none⟩ = some (.int .i64 b1) := (blk_cell B3.out 1).trans rfl
    have hcB3_2 : wr.cell? ⟨w.heap.size + 1 + 1, 2, none⟩ = some (.int .i64 b2) := (blk_cell B3.out 2).trans rfl
    have hcB3_3 : wr.cell? ⟨w.heap.size + 1 + 1, 3, none⟩ = some (.int .i64 b3) := (blk_cell B3.out 3).trans rfl
    have hcB4_0 : wr.cell? ⟨w.heap.size + 1 + 1 + 1, 0, none⟩ = some (.int .i64 a0) := (blk_cell B4.out 0).trans rfl
    have hcB4_1 : wr.cell? ⟨w.heap.size + 1 + 1 + 1, 1, none⟩ = some (.int .i64 a1) := (blk_cell B4.out 1).trans rfl
    have hcB4_2 : wr.cell? ⟨w.heap.size + 1 + 1 + 1, 2, none⟩ = some (.int .i64 a2) := (blk_cell B4.out 2).trans rfl
    have hcB4_3 : wr.cell? ⟨w.heap.size + 1 + 1 + 1, 3, none⟩ = some (.int .i64 a3) := (blk_cell B4.out 3).trans rfl
    have hcB4_4 : wr.cell? ⟨w.heap.size + 1 + 1 + 1, 4, none⟩ = some (.int .i64 b0) := (blk_cell B4.out 4).trans rfl
    have hcB4_5 : wr.cell? ⟨w.heap.size + 1 + 1 + 1, 5, none⟩ = some (.int .i64 b1) := (blk_cell B4.out 5).trans rfl
    have hcB4_6 : wr.cell? ⟨w.heap.size + 1 + 1 + 1, 6, none⟩ = some (.int .i64 b2) := (blk_cell B4.out 6).trans rfl
    have hcB4_7 : wr.cell? ⟨w.heap.size + 1 + 1 + 1, 7, none⟩ = some (.int .i64 b3) := (blk_cell B4.out 7).trans rfl
    have hl1 := blk_lt B1.out
    have hl2 := blk_lt B2.out
    have hl3 := blk_lt B3.out
    have hl4 := blk_lt B4.out
    rcases KN.out with rfl | ⟨rfl, rfl⟩ | ⟨rfl, rfl, C2⟩
    · by_cases ht : t1 = 0
      · subst ht
        go_wp2_with (go_at_call 43; (with_reducible refine (code_checked.calls k F D a0 a1 a2 a3 0 _ A1.out).mono ?_); rintro e w1 ⟨rfl, hb⟩)
        go_roundw
        case rel => exact ⟨1, rfl, ⟨by simp⟩, ⟨blk_below (blk_alloc B1.out _) hb⟩, ⟨blk_below (blk_alloc B2.out _) hb⟩, ⟨blk_below (blk_alloc B3.out _) hb⟩, ⟨blk_below (blk_alloc B4.out _) hb⟩, ⟨below_step (below_alloc HB.out _) hb⟩⟩
        case measure => simp [intOf]
      · have hn : (t1 != 0) = true := by simpa using ht
        have hn2 : (t1 == 0) = false := by simpa using ht
        obtain ⟨rfl, rfl⟩ : t1 = r2 ∧ 0 = r1 := by
          have h := H.out
          rw [if_neg ht] at h
          have h1 := Option.some.inj h
          exact ⟨congrArg Prod.snd h1, congrArg Prod.fst h1⟩
        go_wp2_with (go_at_call 43; (with_reducible refine (code_checked.calls k F D a0 a1 a2 a3 t1 _ A1.out).mono ?_); rintro e w1 ⟨rfl, hb⟩)
        go_ret2
        exact ⟨rfl, below_step (below_alloc HB.out _) hb⟩
    · obtain ⟨t2, C2, h2⟩ := Option.bind_eq_some_iff.mp (by have h := H.out; rw [if_pos rfl] at h; exact h)
      have A2 := Aside0.mk C2
      have H2 := Aside0.mk h2
      clear C2 h2
      by_cases ht : t2 = 0
      · subst ht
        go_wp2_with (go_at_call 43; (with_reducible refine (code_checked.calls k F D b0 b1 b2 b3 0 _ A2.out).mono ?_); rintro e w1 ⟨rfl, hb⟩)
        go_roundw
        case rel => exact ⟨2, rfl, ⟨by simp [A2.out]⟩, ⟨blk_below (blk_alloc B1.out _) hb⟩, ⟨blk_below (blk_alloc B2.out _) hb⟩, ⟨blk_below (blk_alloc B3.out _) hb⟩, ⟨blk_below (blk_alloc B4.out _) hb⟩, ⟨below_step (below_alloc HB.out _) hb⟩⟩
        case measure => simp [intOf]
      · have hn : (t2 != 0) = true := by simpa using ht
        obtain ⟨rfl, rfl⟩ : t2 = r2 ∧ 0 = r1 := by
          have h := H2.out
          rw [if_neg ht] at h
          have h1 := Option.some.inj h
          exact ⟨congrArg Prod.snd h1, congrArg Prod.fst h1⟩
        go_wp2_with (go_at_call 43; (with_reducible refine (code_checked.calls k F D b0 b1 b2 b3 t2 _ A2.out).mono ?_); rintro e w1 ⟨rfl, hb⟩)
        go_ret2
        exact ⟨rfl, below_step (below_alloc HB.out _) hb⟩
    · have H2 := H.out
      rw [if_pos rfl, C2] at H2
      simp only [Option.bind_some, if_true] at H2
      obtain ⟨n2, D2, H2⟩ := Option.bind_eq_some_iff.mp H2
      obtain ⟨n1, D1, H2⟩ := Option.bind_eq_some_iff.mp H2
      obtain ⟨r, D3, H2⟩ := Option.bind_eq_some_iff.mp H2
      obtain rfl : r = r1 := congrArg Prod.fst (Option.some.inj H2)
      obtain rfl : 0 = r2 := congrArg Prod.snd (Option.some.inj H2)
      clear H2
      obtain rfl : cnt F D a0 a1 a2 a3 = n1 := Option.some.inj ((cnt_some F D a0 a1 a2 a3).symm.trans D1)
      obtain rfl : cnt F D b0 b1 b2 b3 = n2 := Option.some.inj ((cnt_some F D b0 b1 b2 b3).symm.trans D2)
      have E3 := Aside0.mk D3
      have E4 : Aside0 (code_steps_around.f F D (IntKind.i64.wrap (cnt F D b0 b1 b2 b3 - cnt F D a0 a1 a2 a3)) = some r) := ⟨by rw [i64_w]; exact D3⟩
      clear D1 D2 D3 C2
      go_wp2_with (fail)
      have BN := blk_new wr (.cells #[.int .i64 F, .bool D] 66)
      have S0 : SBet F D a0 a1 a2 a3 b0 b1 b2 b3 w.heap.size wr.heap.size w (wr.alloc (.cells #[.int .i64 F, .bool D] 66)) :=
        ⟨(blk_cell BN 0).trans rfl, (blk_cell BN 1).trans rfl, (blk_cell (blk_alloc B2.out _) 0).trans rfl, (blk_cell (blk_alloc B2.out _) 1).trans rfl, (blk_cell (blk_alloc B2.out _) 2).trans rfl, (blk_cell (blk_alloc B2.out _) 3).trans rfl,
          (blk_cell (blk_alloc B3.out _) 0).trans rfl, (blk_cell (blk_alloc B3.out _) 1).trans rfl, (blk_cell (blk_alloc B3.out _) 2).trans rfl, (blk_cell (blk_alloc B3.out _) 3).trans rfl, ⟨blk_lt BN, blk_lt (blk_alloc B3.out _)⟩, ⟨below_alloc HB.out _⟩⟩
      clear BN
      go_region_held3 (SBet F D a0 a1 a2 a3 b0 b1 b2 b3 w.heap.size wr.heap.size w) (first | assumption | exact SBet.keep (by assumption) (by assumption) | exact SBet.keep (by assumption) (below_drew (Below.refl _ _)))
        (first
          | (go_at_call 46; refine (count_any F D _ _ _ _ _).mono ?_; rintro e w' ⟨rfl, hb⟩)
          | (go_at_call 45; refine (around_any F D _ _ E4.out _).mono ?_; rintro e w' ⟨rfl, hb⟩)
          | (go_at_call 45; refine (around_any F D _ _ E3.out _).mono ?_; rintro e w' ⟨rfl, hb⟩))
      go_wp2
      go_ret2
      rename_i hS
      exact ⟨rfl, hS.2.2.2.2.2.2.2.2.2.2.2.out⟩
end Go.Proofs.Ytndbhfbgigefnaa.PA
