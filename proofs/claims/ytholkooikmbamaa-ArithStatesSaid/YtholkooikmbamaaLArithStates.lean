/- The law ArithStates: the step of any state and any number of new states. The walk over the abstract machine.
   Conditions: none. -/
import Derived.Test.YtholkooikmbamaaArE
import Derived.DataShut
namespace Go.Proofs.Ytholkooikmbamaa.LArithStates
open Go Go.RowKit Go.Proofs.Ytholkooikmbamaa.Am Go.Proofs.Ytholkooikmbamaa.Af Go.Proofs.Ytholkooikmbamaa.Ar
set_option linter.unusedVariables false
set_option linter.unusedSimpArgs false
set_option maxRecDepth 20000

theorem next_st {p b : Int} (h : (nextI p b).2 = 0) : St (nextI p b).1 := by
  unfold nextI at h ⊢
  split
  · rename_i hp
    obtain ⟨p1, p2⟩ := hp
    rw [if_pos ⟨p1, p2⟩] at h
    split
    · unfold stepI
      split
      · exact ⟨by show 31 ≤ p + _; omega, by show p + _ ≤ 4065; omega⟩
      · exact ⟨by show 31 ≤ p - _; omega, by show p - _ ≤ 4065; omega⟩
    · rename_i hb
      rw [if_neg hb] at h
      cases h
  · rename_i hp
    rw [if_neg hp] at h
    cases h
theorem tail {h : Hp} {n : Int} (w : Wf h) : WC Try.prog [2]
    (.trim [2, 49] (.ops [D 44 (.mv (T 2)), D 45 (.bin .gtr (T 44) (I 2000)), D 46 (.mv (T 45)), ⟨(some 47), some (46, true), .mv (T 2)⟩, ⟨(some 48), some (46, true), .bin .leq (T 47) (I 100000)⟩, D 49 (.pick (T 46) (T 48) (.const (.bool false)))])
      (.cond (T 49) (.ops [D 2 (.mv (I 2000))]) .skip))
    (.trim [2, 11, 12] (.ops [D 51 (.mv (T 2)), D 52 (.call 27 [(T 51)]), D 50 (.mv (T 52)), D 53 (.ext (T 50) 0), D 54 (.ext (T 50) 1), D 11 (.mv (T 53)), D 12 (.mv (T 54))])
      (.trim [11, 12, 13, 14] (.ops [D 56 (.mv (T 2)), D 57 (.call 28 [(T 56)]), D 55 (.mv (T 57)), D 58 (.ext (T 55) 0), D 59 (.ext (T 55) 1), D 13 (.mv (T 58)), D 14 (.mv (T 59))])
        (.trim [6] (.ops [D 60 (.mv (T 11)), D 61 (.mv (T 13)), D 62 (.call 20 [(T 60), (T 61)]), D 63 (.mv (T 62)), ⟨(some 64), some (63, true), .mv (T 12)⟩, ⟨(some 65), some (63, true), .mv (T 14)⟩, ⟨(some 66), some (63, true), .bin .eql (T 64) (T 65)⟩,
            D 67 (.pick (T 63) (T 66) (.const (.bool false))), D 68 (.mv (T 67)), ⟨(some 69), some (68, true), .call 13 []⟩, D 70 (.pick (T 68) (T 69) (.const (.bool false))), D 6 (.mv (T 70))]) .ret)))
    [(2, some (.int .i64 n))] h (Qf [.tmp 6] fun v h' => v = .bool true) ⟨⟩ := by
  refine WC.mk (fun t h' => h' = h ∧ ∃ m : Int, t = [(2, some (.int .i64 m))] ∧ (m < 0 ∨ m ≤ 2000 ∨ 100000 < m)) ?_ ?_
  · simp +contextual only [↓AM, ↓AV, AP]
    refine ⟨fun h1 => ⟨fun h2 => ⟨2000, rfl, by omega⟩, fun h2 => ⟨n, rfl, by omega⟩⟩, fun h1 => ⟨n, rfl, by omega⟩⟩
  · rintro t h ⟨rfl, m, rfl, hm⟩
    simp +contextual only [↓AM, ↓AV, AP]
    refine c_States.use ?_
    rintro _ h1 w1 ⟨r0, r1, fm⟩
    by_cases hr : 0 ≤ m ∧ m ≤ 100000
    · obtain ⟨b, rfl, ow, hb⟩ := r1 hr
      simp +contextual only [↓AM, ↓AV, AP]
      refine c_rStates.use ?_
      rintro _ h2 w2 ⟨q0, q1, fm2⟩
      obtain ⟨oa, cap, rfl, ow2, nw⟩ := q1 hr
      simp +contextual only [↓AM, ↓AV, AP]
      refine (c_EqInts ((ow.keep w1 fm2 fun _ _ => id).rd) ow2.rd (by omega)).use ?_
      rintro _ h3 w3 ⟨rfl, rfl⟩
      simp +contextual only [↓AM, ↓AV, AP]
      refine c_awake.use ?_
      rintro _ h4 w4 ⟨rfl, rfl⟩
      simp +contextual only [↓AM, ↓AV, AP]
    · have e := r0 hr
      subst e
      simp +contextual only [↓AM, ↓AV, AP]
      refine c_rStates.use ?_
      rintro _ h2 w2 ⟨q0, q1, fm2⟩
      have e := q0 hr
      subst e
      simp +contextual only [↓AM, ↓AV, AP]
      refine (c_EqInts (xs := []) (ys := []) Rd.mk0 Rd.mk0 (by omega)).use ?_
      rintro _ h3 w3 ⟨rfl, rfl⟩
      simp +contextual only [↓AM, ↓AV, AP]
      refine c_awake.use ?_
      rintro _ h4 w4 ⟨rfl, rfl⟩
      simp +contextual only [↓AM, ↓AV, AP]
theorem walk {h : Hp} (x0 : Int) (x1 : Int) (x2 : Int) (w0 : (Lit.int .i64 x0).wf = true) (w1 : (Lit.int .i64 x1).wf = true) (w2 : (Lit.int .i64 x2).wf = true) :
    ACalls Try.prog 5 [.int .i64 x0, .int .i64 x1, .int .i64 x2] h fun v h' => v = .bool true := by
  refine dioramalaw13_ArithStates_ok.snd hm rfl fun w => ?_
  rw [WF_eq, dioramalaw13_ArithStates]
  simp +contextual only [↓AM, ↓AV, AP]
  refine c_Next.use ?_
  rintro _ h w1 ⟨rfl, rfl⟩
  simp +contextual only [↓AM, ↓AV, AP, pairV]
  refine c_rNext.use ?_
  rintro _ h w1 ⟨rfl, rfl⟩
  have hst := next_st (p := x0) (b := x1)
  generalize nextI x0 x1 = q at hst
  obtain ⟨q1, q2⟩ := q
  simp +contextual only [↓AM, ↓AV, AP, pairV]
  have go : ∀ h : Hp, ACalls Try.prog 26 [.int .i64 q1] h fun v h' => v = .bool (decide (St q1)) ∧ h' = h := fun h => c_State
  refine ⟨fun hq => ?_, fun hq => ?_⟩
  · refine (go h).use ?_
    rintro _ h w1 ⟨rfl, rfl⟩
    have hst := hst hq
    simp +contextual only [↓AM, ↓AV, AP, hst, show EqI q2 0 = True from eq_true hq]
    exact tail w1
  · exact tail w1
end Go.Proofs.Ytholkooikmbamaa.LArithStates
