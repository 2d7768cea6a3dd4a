/- The law ArithPacks: packing and unpacking. The walk over the abstract machine.
   Conditions: none. -/
import Derived.Test.YtholkooikmbamaaArYb
import Derived.Test.YtholkooikmbamaaAmZb
import Derived.DataShut
namespace Go.Proofs.Ytholkooikmbamaa.LArithPacks
open Go Go.RowKit Go.Proofs.Ytholkooikmbamaa.Am Go.Proofs.Ytholkooikmbamaa.Af Go.Proofs.Ytholkooikmbamaa.Ar
set_option linter.unusedVariables false
set_option linter.unusedSimpArgs false
set_option maxRecDepth 20000

theorem closed_by {e : En} (g : Gd e) : Bytes (closed e) := by
  have hl := g.low
  intro x hx
  unfold closed at hx
  rcases List.mem_append.1 hx with hx | hx
  · exact g.out x hx
  · simp only [List.mem_cons, List.not_mem_nil, or_false] at hx
    rcases hx with rfl | rfl | rfl | rfl <;> omega
theorem unp_len {bs : List Int} : ∀ {cs : List Int} {x : De × List Int} {acc l : List Int}, unp bs cs x acc = .ok l → l.length = acc.length + cs.length
  | [], x, acc, l, h => by rw [unp] at h; cases h; rfl
  | c :: r, x, acc, l, h => by
    rw [unp] at h
    split at h
    · have := unp_len h
      simp at this ⊢
      omega
    · cases h
theorem unpR_len {bs cs l : List Int} (h : unpR bs cs = .ok l) : l.length = cs.length := by
  unfold unpR at h
  split at h
  · split at h
    · cases h
    · have := unp_len h
      simpa using this
  · cases h
theorem walk {h : Hp} (x0 : (List Int)) (u0 : Value) (x1 : (List Int)) (u1 : Value) (x2 : (List Int)) (u2 : Value) (A0 : (AKd.slice (AKd.int .i64)).A h x0 [u0]) (w0 : x0.length * Try.prog.bytesOf 3 ≤ 140737488351232 ∧ ∀ x ∈ x0, (Lit.int .i64 x).wf = true) (A1 : (AKd.slice (AKd.int .i64)).A h x1 [u1]) (w1 : x1.length * Try.prog.bytesOf 3 ≤ 140737488351232 ∧ ∀ x ∈ x1, (Lit.int .i64 x).wf = true) (A2 : (AKd.slice (AKd.int .u8)).A h x2 [u2]) (w2 : x2.length * Try.prog.bytesOf 5 ≤ 140737488351232 ∧ ∀ x ∈ x2, (Lit.int .u8 x).wf = true) : ACalls Try.prog 7 [u0, u1, u2] h fun v h' => v = .bool true := by
  obtain ⟨a0, c0, rfl, r0⟩ := AKd.ints A0
  obtain ⟨a1, c1, rfl, r1⟩ := AKd.ints A1
  obtain ⟨a2, c2, rfl, r2, hc2⟩ := AKd.intsC A2
  have hb2 : Bytes x2 := fun x hx => (Lit.wf_int_iff .u8 x).1 (w2.2 x hx)
  refine dioramalaw13_ArithPacks_ok.snd hm rfl fun w => ?_
  rw [WF_eq, dioramalaw13_ArithPacks]
  by_cases h0 : 4000 < x0.length
  · have : (4000 : Int) < (x0.length : Nat) := by omega
    simp +contextual only [↓AM, ↓AV, AP, this]
  have g0 : ¬ (4000 : Int) < (x0.length : Nat) := by omega
  by_cases h1 : 4000 < x1.length
  · have : (4000 : Int) < (x1.length : Nat) := by omega
    simp +contextual only [↓AM, ↓AV, AP, g0, this]
  have g1 : ¬ (4000 : Int) < (x1.length : Nat) := by omega
  by_cases h2 : 4000 < x2.length
  · have : (4000 : Int) < (x2.length : Nat) := by omega
    simp +contextual only [↓AM, ↓AV, AP, g0, g1, this]
  have g2 : ¬ (4000 : Int) < (x2.length : Nat) := by omega
  simp +contextual only [↓AM, ↓AV, AP, g0, g1, g2]
  refine (c_Pack r0 r1 (by omega) (by omega)).use ?_
  rintro v1 k1 wk1 ⟨p1, p2, fm1⟩
  have r0' := r0.keep w fm1 (fun _ _ => id)
  have r1' := r1.keep w fm1 (fun _ _ => id)
  by_cases hp : packB x0 x1 = true
  case' pos =>
    obtain ⟨os, n, cap, rfl, ow, nw⟩ := p1 hp
    simp +contextual only [↓AM, ↓AV, AP]
    refine (c_rPack r0' r1' (by omega) (by omega)).use ?_
    rintro v2 k2 wk2 ⟨q1, q2, fm2⟩
    obtain ⟨os2, n2, cap2, rfl, ow2, nw2⟩ := q1 hp
    have owk := ow.keep wk1 fm2 (fun _ _ => id)
    have hpp : x0.length = x1.length ∧ bitsB x0 = true ∧ ctxB x1 = true := by simpa [packB] using hp
    obtain ⟨gd, _, hn, _⟩ := pkS_ok (bits := x0) hpp.2.2 x0.length (by omega)
    have hcl : (closed (pkS x0 x1 x0.length).1).length ≤ 5000 := by
      have := gd.len
      unfold closed
      simp
      omega
    have hl1 := owk.rd.ilen
    have hl2 := ow2.rd.ilen
    have hub := unp_back hpp.1 hpp.2.1 hpp.2.2
    have hcb := closed_by gd
    generalize closed (pkS x0 x1 x0.length).1 = B at ow owk ow2 hcl hl1 hl2 hub hcb
    simp +contextual only [↓AM, ↓AV, AP, eqI_self]
    refine (c_EqBytes owk.rd ow2.rd (by omega)).use ?_
    rintro _ k2 wk2' ⟨rfl, rfl⟩
    have fm3 := fm1.trans fm2 fun _ _ => id
    simp +contextual only [↓AM, ↓AV, AP, eqI_self]
    refine (c_Unpack owk.rd hcb owk.le (r1.keep w fm3 (fun _ _ => id)) (by omega) (by omega)).use ?_
    rintro v3 k3 wk3 ⟨_, z2, fm4⟩
    obtain ⟨os3, cap3, rfl, ow3, nw3⟩ := z2 _ hub
    simp +contextual only [↓AM, ↓AV, AP, eqI_self]
    refine (c_EqInts ow3.rd (r0.keep w (fm3.trans fm4 fun _ _ => id) (fun _ _ => id)) (by omega)).use ?_
    rintro _ k3 wk3' ⟨rfl, rfl⟩
    have fmk := fm3.trans fm4 fun _ _ => id
    simp +contextual only [↓AM, ↓AV, AP, eqI_self]
  case' neg =>
    have hp' : packB x0 x1 = false := by simpa using hp
    obtain rfl := p2 hp'
    simp +contextual only [↓AM, ↓AV, AP]
    refine (c_rPack r0' r1' (by omega) (by omega)).use ?_
    rintro v2 k3 wk3 ⟨q1, q2, fm2⟩
    obtain rfl := q2 hp'
    simp +contextual only [↓AM, ↓AV, AP, eqI_self]
    refine (c_EqBytes (xs := []) (ys := []) Rd.mk0 Rd.mk0 (by omega)).use ?_
    rintro _ k3 wk3' ⟨rfl, rfl⟩
    have fmk := fm1.trans fm2 fun _ _ => id
    simp +contextual only [↓AM, ↓AV, AP, eqI_self, e1_0]
  all_goals
    have rb := r2.keep w fmk (fun _ _ => id)
    have rc := r1.keep w fmk (fun _ _ => id)
    refine (c_Unpack rb hb2 hc2 rc (by omega) (by omega)).use ?_
    rintro v5 k5 wk5 ⟨y1, y2, fm5⟩
    have rb5 := rb.keep wk3 fm5 (fun _ _ => id)
    have rc5 := rc.keep wk3 fm5 (fun _ _ => id)
    cases hR : unpR x2 x1 with
    | error e =>
      obtain rfl := y1 e hR
      simp +contextual only [↓AM, ↓AV, AP]
      refine (c_rUnpack rb5 hb2 hc2 rc5 (by omega) (by omega)).use ?_
      rintro v6 k6 wk6 ⟨z1, z2, fm6⟩
      obtain rfl := z1 e hR
      simp +contextual only [↓AM, ↓AV, AP, eqI_self]
      refine (c_EqInts (xs := []) (ys := []) Rd.mk0 Rd.mk0 (by omega)).use ?_
      rintro _ k6 wk6' ⟨rfl, rfl⟩
      simp +contextual only [↓AM, ↓AV, AP, eqI_self]
      refine c_awake.use ?_
      rintro _ k7 wk7 ⟨rfl, rfl⟩
      simp +contextual only [↓AM, ↓AV, AP]
    | ok l =>
      obtain ⟨o5, b5, rfl, ow5, nw5⟩ := y2 l hR
      have hll := unpR_len hR
      simp +contextual only [↓AM, ↓AV, AP]
      refine (c_rUnpack rb5 hb2 hc2 rc5 (by omega) (by omega)).use ?_
      rintro v6 k6 wk6 ⟨z1, z2, fm6⟩
      obtain ⟨o6, b6, rfl, ow6, nw6⟩ := z2 l hR
      simp +contextual only [↓AM, ↓AV, AP, eqI_self]
      refine (c_EqInts (ow5.keep wk5 fm6 (fun _ _ => id)).rd ow6.rd (by omega)).use ?_
      rintro _ k6 wk6' ⟨rfl, rfl⟩
      simp +contextual only [↓AM, ↓AV, AP, eqI_self]
      refine c_awake.use ?_
      rintro _ k7 wk7 ⟨rfl, rfl⟩
      simp +contextual only [↓AM, ↓AV, AP]
end Go.Proofs.Ytholkooikmbamaa.LArithPacks
