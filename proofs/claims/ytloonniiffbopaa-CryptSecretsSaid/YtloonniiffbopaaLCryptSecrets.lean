/- The law CryptSecrets: the error of any lock, and which bytes it protects. The walk over the abstract machine.
   Conditions: none. -/
import Derived.Test.YtloonniiffbopaaCrI
import Derived.Test.YtloonniiffbopaaCrJ
namespace Go.Proofs.Ytloonniiffbopaa.LCryptSecrets
open Go Go.RowKit Go.Proofs.Ytloonniiffbopaa.Am Go.Proofs.Ytloonniiffbopaa.Af Go.Proofs.Ytloonniiffbopaa.Cr
set_option linter.unusedVariables false
set_option linter.unusedSimpArgs false
set_option maxRecDepth 20000

theorem walk {h : Hp} (x0 : (Int × Int × Int × Int × (List (Int × Int)))) (cs0 : List Value) (x1 : Int) (A0 : (AKd.pair (AKd.int .i64) (AKd.pair (AKd.int .i64) (AKd.pair (AKd.int .i64) (AKd.pair (AKd.int .i64) (AKd.slice (AKd.pair (AKd.int .i64) (AKd.int .i64))))))).A h x0 cs0) (w0 : ((Lit.int .i64 x0.1).wf = true) ∧ ((Lit.int .i64 x0.2.1).wf = true) ∧ ((Lit.int .i64 x0.2.2.1).wf = true) ∧ ((Lit.int .i64 x0.2.2.2.1).wf = true) ∧ (x0.2.2.2.2.length * Try.prog.bytesOf 66 ≤ 140737488351232 ∧ ∀ x ∈ x0.2.2.2.2, ((Lit.int .i64 x.1).wf = true) ∧ ((Lit.int .i64 x.2).wf = true))) (w1 : (Lit.int .i64 x1).wf = true) : ACalls Try.prog 4 [.agg cs0.toArray, .int .i64 x1] h fun v h' => v = .bool true := by
  obtain ⟨oa, c, hV, r⟩ := lock_open A0
  rw [hV]
  generalize lockOf x0 = l at r
  refine dioramalaw21_CryptSecrets_ok.snd hm rfl fun w => ?_
  rw [WF_eq, dioramalaw21_CryptSecrets, lockV]
  by_cases h100 : 100 < l.parts.length
  · have : (100 : Int) < (l.parts.length : Nat) := by omega
    simp +contextual only [↓AM, ↓AV, AP, this]
  have hh : ¬ (100 : Int) < (l.parts.length : Nat) := by omega
  simp +contextual only [↓AM, ↓AV, AP, hh, rdN_n5]
  have fm0 : Fm No h (h.new ⟨[.int .i64 l.key, .int .i64 l.nonce, .int .i64 l.crypt, .int .i64 l.skip, .slice oa l.parts.length c], .own⟩) := Fm.new Fm.refl
  have r0 := r.keep w fm0 (fun _ _ => id)
  refine (c_Secret r0 (by omega)).use ?_
  rintro _ h1 w1 ⟨a1, k1, rfl, ra, na, fm1⟩
  have hg1 := fm1.keep w.new gnew id
  have r1 := r0.keep w.new fm1 (fun _ _ => id)
  have hr1 : h1.rdN h.size 0 5 = some [.int .i64 l.key, .int .i64 l.nonce, .int .i64 l.crypt, .int .i64 l.skip, .slice oa l.parts.length c] := by rw [rdN_mk hg1 (by simp)]; rfl
  simp +contextual only [↓AM, ↓AV, AP, hr1]
  refine (c_rSecret r1 (by omega)).use ?_
  rintro _ h2 w2 ⟨a2, k2, rfl, rb, nb, fm2⟩
  have hg2 := fm2.keep w1 hg1 id
  have r2 := r1.keep w1 fm2 (fun _ _ => id)
  have ra2 := ra.keep w1 fm2 (fun _ _ => id)
  have hr2 : h2.rdN h.size 0 5 = some [.int .i64 l.key, .int .i64 l.nonce, .int .i64 l.crypt, .int .i64 l.skip, .slice oa l.parts.length c] := by rw [rdN_mk hg2 (by simp)]; rfl
  simp +contextual only [↓AM, ↓AV, AP, eqI_self]
  have hlen := secR_len l x1
  refine (c_EqPairs ra2 rb rfl rfl (by omega)).use ?_
  rintro _ h2 w3 ⟨rfl, rfl⟩
  simp +contextual only [↓AM, ↓AV, AP, hr2, ldOk]
  refine (c_Check r2 (by omega)).use ?_
  rintro _ h3 w3 ⟨rfl, fm3⟩
  have hg3 := fm3.keep w2 hg2 id
  have r3 := r2.keep w2 fm3 (fun _ _ => id)
  have hr3 : h3.rdN h.size 0 5 = some [.int .i64 l.key, .int .i64 l.nonce, .int .i64 l.crypt, .int .i64 l.skip, .slice oa l.parts.length c] := by rw [rdN_mk hg3 (by simp)]; rfl
  simp +contextual only [↓AM, ↓AV, AP, hr3, ldOk]
  refine ⟨⟨_, rfl, rfl⟩, (c_rCheck r3 (by omega)).use ?_⟩
  rintro _ h4 w4 ⟨rfl, fm4⟩
  simp +contextual only [↓AM, ↓AV, AP, eqI_self]
  refine c_awake.use ?_
  rintro _ h5 w5 ⟨rfl, rfl⟩
  simp +contextual only [↓AM, ↓AV, AP, eqI_self]
end Go.Proofs.Ytloonniiffbopaa.LCryptSecrets
