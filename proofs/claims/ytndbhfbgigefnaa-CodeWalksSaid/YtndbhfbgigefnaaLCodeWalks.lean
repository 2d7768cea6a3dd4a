/- The law CodeWalks, walked: going on is a walk around the day.
   Conditions: none. -/
import Derived.Test.YtndbhfbgigefnaaPAx12
import Derived.Test.YtndbhfbgigefnaaMe
namespace Go.Proofs.Ytndbhfbgigefnaa.LCodeWalks
open Go.RowKit Go.Proofs.Ytndbhfbgigefnaa.PA Go.Proofs.Ytndbhfbgigefnaa.Ma Go.Proofs.Ytndbhfbgigefnaa.Mb Go.Proofs.Ytndbhfbgigefnaa.Mc Go.Proofs.Ytndbhfbgigefnaa.Md Go.Proofs.Ytndbhfbgigefnaa.Me
set_option linter.unusedVariables false
theorem awaken (k : Nat) (hk : 5 ≤ k) (x F : Int) (D : Bool) (a1 a2 a3 a4 a5 a6 a7 a8 n0 n1 b1 b2 b3 b4 : Int) : dioramalaw20_CodeWalks.j0 (k + 1) x true F D a1 a2 a3 a4 a5 a6 a7 a8 n0 n1 b1 b2 b3 b4 = some true := by
  simp only [dioramalaw20_CodeWalks.j0, if_true]
  rw [awake_eq hk]; rfl
theorem mod_add {a b d : Int} : (a % d + b) % d = (a + b) % d := Int.emod_add_emod a d b
theorem pure (F : Int) (D : Bool) (h m s f h' m' s' f' n0 n1 : Int) : dioramalaw20_CodeWalks.f 70 F D h m s f h' m' s' f' n0 n1 = some true := by
  unfold dioramalaw20_CodeWalks.f
  rw [Day_eq]
  rcases code_cases F D h m s f with he | ⟨ho, he, T, y, hp, e⟩
  · rw [Add_err F D h m s f n0 69 he]
    simp only [Option.bind_some]
    rw [if_neg (c := err F D h m s f = 0) he]
    by_cases ho : ok F D = true
    · rw [if_pos ho, if_pos rfl]
      exact awaken 69 (by omega) _ _ _ _ _ _ _ _ _ _ _ _ _ _ _ _ _
    · rw [if_neg ho, if_neg (by decide)]
      exact awaken 69 (by omega) _ _ _ _ _ _ _ _ _ _ _ _ _ _ _ _ _
  · simp only [cod, Prod.mk.injEq] at e
    obtain ⟨rfl, rfl, rfl, rfl⟩ := e
    have ht := ten_bd ho
    have hb := num_range ho hp
    rw [if_pos ho]
    by_cases hn : -1099511627776 ≤ n0 ∧ n0 ≤ 1099511627776
    · obtain ⟨U, z, hq, eU⟩ := place_at ho (num F D T y + n0)
      have hA : code_Add.f 70 F D ((T / 60 : Nat) : Int) ((T % 60 : Nat) : Int) (y / F) (y % F) n0 = _ := Add_good ho hp hq hn eU 69
      rw [hA]
      simp only [Option.bind_some, if_true]
      by_cases c1 : n0 < -549755813888
      · rw [if_pos c1]; exact awaken 69 (by omega) _ _ _ _ _ _ _ _ _ _ _ _ _ _ _ _ _
      rw [if_neg c1]
      by_cases c2 : n0 > 549755813888
      · rw [if_pos c2]; exact awaken 69 (by omega) _ _ _ _ _ _ _ _ _ _ _ _ _ _ _ _ _
      rw [if_neg c2]
      by_cases c3 : n1 < -549755813888
      · rw [if_pos c3]; exact awaken 69 (by omega) _ _ _ _ _ _ _ _ _ _ _ _ _ _ _ _ _
      rw [if_neg c3]
      by_cases c4 : n1 > 549755813888
      · rw [decide_eq_true c4]; exact awaken 69 (by omega) _ _ _ _ _ _ _ _ _ _ _ _ _ _ _ _ _
      rw [decide_eq_false c4]
      simp only [dioramalaw20_CodeWalks.j0]
      rw [if_neg (by simp), w64 (x := n0 + n1) (by omega) (by omega)]
      obtain ⟨V, x, hr, eV⟩ := place_at ho (num F D U z + n1)
      have hB := Add_good ho hq hr (by omega) eV 68
      have eV2 : (num F D T y + (n0 + n1)) % (144 * ten F D) = num F D V x := by
        rw [← eV, ← eU, mod_add, Int.add_assoc]
      have hC : code_Add.f 69 F D ((T / 60 : Nat) : Int) ((T % 60 : Nat) : Int) (y / F) (y % F) (n0 + n1) = _ := Add_good ho hp hr (by omega) eV2 68
      rw [hB, hC]
      simp only [Option.bind_some, if_true, beq_self_eq_true, Bool.not_true, Bool.or_self, dioramalaw20_CodeWalks.j1]
      rw [if_neg (by simp)]
      have eD : (num F D T y + 144 * ten F D) % (144 * ten F D) = num F D T y := by rw [Int.add_emod_right, Int.emod_eq_of_lt hb.1 hb.2]
      have hD : code_Add.f 68 F D ((T / 60 : Nat) : Int) ((T % 60 : Nat) : Int) (y / F) (y % F) (144 * ten F D) = some (((T / 60 : Nat) : Int), ((T % 60 : Nat) : Int), y / F, y % F, 0) := Add_good ho hp hp (by omega) eD 67
      rw [hD]
      simp only [Option.bind_some, if_true, beq_self_eq_true, Bool.not_true, Bool.or_self, dioramalaw20_CodeWalks.j2]
      rw [if_neg (by simp)]
      rcases code_cases F D h' m' s' f' with he' | ⟨_, he', U', z', hq', e'⟩
      · rw [Between_err2 66 he he']
        simp only [Option.bind_some]
        rw [if_neg he', awake_eq (by omega)]; rfl
      · simp only [cod, Prod.mk.injEq] at e'
        obtain ⟨rfl, rfl, rfl, rfl⟩ := e'
        have hb' := num_range ho hq'
        have hE : code_Between.f 67 F D ((T / 60 : Nat) : Int) ((T % 60 : Nat) : Int) (y / F) (y % F) ((U' / 60 : Nat) : Int) ((U' % 60 : Nat) : Int) (z' / F) (z' % F) = _ := Between_good ho hp hq' 66
        rw [hE]
        have k0 : 0 ≤ (num F D U' z' - num F D T y) % (144 * ten F D) := Int.emod_nonneg _ (by omega)
        have k1 : (num F D U' z' - num F D T y) % (144 * ten F D) < 144 * ten F D := Int.emod_lt_of_pos _ (by omega)
        have eK : (num F D T y + (num F D U' z' - num F D T y) % (144 * ten F D)) % (144 * ten F D) = num F D U' z' := by
          rw [Int.add_emod_emod, show num F D T y + (num F D U' z' - num F D T y) = num F D U' z' by omega, Int.emod_eq_of_lt hb'.1 hb'.2]
        have hF : code_Add.f 67 F D ((T / 60 : Nat) : Int) ((T % 60 : Nat) : Int) (y / F) (y % F) ((num F D U' z' - num F D T y) % (144 * ten F D)) = some (((U' / 60 : Nat) : Int), ((U' % 60 : Nat) : Int), z' / F, z' % F, 0) := Add_good ho hp hq' (by omega) eK 66
        simp only [Option.bind_some, if_true]
        rw [hF]
        simp only [Option.bind_some, if_true, beq_self_eq_true, Bool.and_self]
        rw [if_pos k0, if_pos k1, awake_eq (by omega)]
        rfl
    · rw [show code_Add.f 70 F D ((T / 60 : Nat) : Int) ((T % 60 : Nat) : Int) (y / F) (y % F) n0 = _ from Add_far 69 he hn]
      simp only [Option.bind_some, if_true]
      rw [if_neg (by omega)]
      exact awaken 69 (by omega) _ _ _ _ _ _ _ _ _ _ _ _ _ _ _ _ _
theorem walk (a0_0 : Int) (a0_1 : Bool) (a1_0_0 a1_0_1 a1_0_2 a1_0_3 a1_1_0 a1_1_1 a1_1_2 a1_1_3 a2_0 a2_1 : Int) (W : World) (w0_0 : (Lit.int .i64 a0_0).wf = true) (w1_0_0 : (Lit.int .i64 a1_0_0).wf = true) (w1_0_1 : (Lit.int .i64 a1_0_1).wf = true) (w1_0_2 : (Lit.int .i64 a1_0_2).wf = true) (w1_0_3 : (Lit.int .i64 a1_0_3).wf = true)
    (w1_1_0 : (Lit.int .i64 a1_1_0).wf = true) (w1_1_1 : (Lit.int .i64 a1_1_1).wf = true) (w1_1_2 : (Lit.int .i64 a1_1_2).wf = true) (w1_1_3 : (Lit.int .i64 a1_1_3).wf = true) (w2_0 : (Lit.int .i64 a2_0).wf = true) (w2_1 : (Lit.int .i64 a2_1).wf = true) :
    Calls Try.prog 5 #[.agg #[.int .i64 a0_0, .bool a0_1], .agg #[.int .i64 a1_0_0, .int .i64 a1_0_1, .int .i64 a1_0_2, .int .i64 a1_0_3, .int .i64 a1_1_0, .int .i64 a1_1_1, .int .i64 a1_1_2, .int .i64 a1_1_3], .agg #[.int .i64 a2_0, .int .i64 a2_1]] W fun e w' => e = .returned (.bool true) ∧ Below W.heap.size W w' :=
  dioramalaw20_CodeWalks.calls 70 a0_0 a0_1 a1_0_0 a1_0_1 a1_0_2 a1_0_3 a1_1_0 a1_1_1 a1_1_2 a1_1_3 a2_0 a2_1 true W (pure a0_0 a0_1 a1_0_0 a1_0_1 a1_0_2 a1_0_3 a1_1_0 a1_1_1 a1_1_2 a1_1_3 a2_0 a2_1) rfl
end Go.Proofs.Ytndbhfbgigefnaa.LCodeWalks
