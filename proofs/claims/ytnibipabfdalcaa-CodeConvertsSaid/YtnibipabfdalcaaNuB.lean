/- Limbs in memory. Plain theorems over the abstract machine.
   Conditions: none. -/
import Derived.Test.YtnibipabfdalcaaNuA
import Derived.Test.YtnibipabfdalcaaAfB
import Derived.Test.YtnibipabfdalcaaAmZb
import Derived.Test.YtnibipabfdalcaaMdB
namespace Go.Proofs.Ytnibipabfdalcaa.Nu
open Go Go.RowKit Go.Proofs.Ytnibipabfdalcaa.Am Go.Proofs.Ytnibipabfdalcaa.Af Go.Proofs.Ytnibipabfdalcaa.Md
set_option linter.unusedVariables false
set_option linter.unusedSimpArgs false
set_option linter.defProp false
set_option maxRecDepth 20000
set_option maxHeartbeats 1000000

theorem nNo {h : Hp} : ∀ x, x < h.size → ¬ No x := fun x _ f => f
abbrev B32 : Nat := 4294967296
theorem b32 : 1 < B32 := by decide
/-- The limbs of a number. -/
def dg (v : Nat) : List Nat := dig B32 b32 v
def u3 (M : List Nat) : List Value := (M.map Int.ofNat).map (Value.int .u32)
theorem u3_len (M : List Nat) : (u3 M).length = M.length := by simp [u3]
theorem u3_take (M : List Nat) (k : Nat) : (u3 M).take k = u3 (M.take k) := by simp [u3, List.map_take]
theorem u3_app (a b : List Nat) : u3 (a ++ b) = u3 a ++ u3 b := by simp [u3]
theorem _root_.Go.Proofs.Ytnibipabfdalcaa.Am.Rd.take {h : Hp} {oa : Option Addr} {n k : Nat} {cs : List Value} (r : Rd h 1 oa n cs) (hk : k ≤ n) : Rd h 1 oa k (cs.take k) := by
  refine ⟨by have := r.len; simp; omega, fun e => by have := r.nil e; omega, fun a ha => ?_⟩
  rcases r.at_ a ha with ⟨h1, h2⟩ | ⟨h1, h2⟩
  · refine .inl ⟨h1, ?_⟩
    have := rdN_sub (k := 0) (l := k * 1) h2 (by omega)
    simpa using this
  · exact .inr ⟨h1, by omega⟩
theorem _root_.Go.Proofs.Ytnibipabfdalcaa.Am.Rd.nat {h : Hp} {oa : Option Addr} {n : Nat} {M : List Nat} (r : Rd h 1 oa n (u3 M)) {i : Nat} (hi : i < n) :
    ∃ b off sp d, oa = some ⟨b, off, sp⟩ ∧ flagOk sp = true ∧ M[i]? = some d ∧ h.rd b (off + i) = some (.int .u32 (d : Int)) := by
  obtain ⟨b, off, sp, h1, h2, v, h3, h4⟩ := r.int hi
  rw [List.getElem?_map] at h3
  cases hm : M[i]? with
  | none => rw [hm] at h3; cases h3
  | some d => rw [hm] at h3; cases h3; exact ⟨b, off, sp, d, h1, h2, rfl, h4⟩
theorem _root_.Go.Proofs.Ytnibipabfdalcaa.Am.Rd.mlen {h : Hp} {oa : Option Addr} {n : Nat} {M : List Nat} (r : Rd h 1 oa n (u3 M)) : M.length = n := by
  have := r.len; rw [u3_len] at this; omega
theorem Dl.take {B : Nat} {M : List Nat} (h : Dl B M) (k : Nat) : Dl B (M.take k) := fun d hd => h d (List.mem_of_mem_take hd)
theorem Dl.at {B : Nat} {M : List Nat} (h : Dl B M) {i d : Nat} (e : M[i]? = some d) : d < B := h d (List.mem_of_getElem? e)
/-- A slice of limbs. -/
structure Lm (h : Hp) (oa : Option Addr) (n c : Nat) (M : List Nat) : Prop where
  rd : Rd h 1 oa n (u3 M)
  le : n ≤ c
  dl : Dl B32 M
theorem Lm.len {h : Hp} {oa : Option Addr} {n c : Nat} {M : List Nat} (l : Lm h oa n c M) : M.length = n := l.rd.mlen
/-- A slice that is the limbs of a number. -/
def LmV (h : Hp) (v : Value) (x : Nat) : Prop := ∃ oa c, v = .slice oa (dg x).length c ∧ Lm h oa (dg x).length c (dg x)
theorem dg_dl (x : Nat) : Dl B32 (dg x) := dig_dl x
theorem dg_val (x : Nat) : vL B32 (dg x) = x := dig_val x
theorem nz_take {M : List Nat} {k d : Nat} (h : M[k]? = some d) (hd : d ≠ 0) : Nz (M.take (k + 1)) := by
  unfold Nz
  rw [List.take_add_one, h]
  simp [hd]
theorem c_trim {h : Hp} {oa : Option Addr} {n c : Nat} {M : List Nat} (l : Lm h oa n c M) (hn : n ≤ 1000000) :
    ACalls Try.prog 122 [.slice oa n c] h fun v h' => LmV h v (vL B32 M) ∧ h' = h := by
  refine num_trim_ok.snd hm rfl fun w => ?_
  rw [WF_eq, num_trim]
  simp +contextual (disch := omega) only [↓AM, ↓AV, AP, CQ]
  have hml := l.len
  refine WL.mk (fun k t h' => h' = h ∧ k ≤ n ∧ vL B32 (M.take k) = vL B32 M ∧ t = [(0, some (.slice oa k c))]) ⟨n, rfl, Nat.le_refl _, by rw [List.take_of_length_le (by omega)], rfl⟩ ?_
  rintro k t hh ⟨rfl, hk, hv, rfl⟩
  have fin : M.take k = dg (vL B32 M) → LmV hh (.slice oa k c) (vL B32 M) := fun e => by
    have hl : (dg (vL B32 M)).length = k := by rw [← e]; simp; omega
    refine ⟨oa, c, by rw [hl], ?_, by have := l.le; omega, dg_dl _⟩
    rw [hl, ← e, ← u3_take]
    exact l.rd.take hk
  have uq : Nz (M.take k) → M.take k = dg (vL B32 M) := fun hz => by
    rw [← hv]; exact dig_uniq b32 (l.dl.take k) hz
  cases k with
  | zero =>
    have e0 : ((0 : Int) < ((0 : Nat) : Int)) = False := by simp
    simp +contextual (disch := omega) only [↓AM, ↓AV, AP, CQ, e0]
    exact fin (uq (by simp [Nz]))
  | succ k =>
    obtain ⟨b1, o1, s1, d, rfl, f1, hd, r1⟩ := l.rd.nat (i := k) (by omega)
    have e0 : ((0 : Int) < (((k + 1 : Nat)) : Int)) = True := by simp
    have lt := l.dl.at hd
    have hc := l.le
    have kk : (k < k + 1) = True := by simp
    by_cases hz : d = 0
    · subst hz
      have hcap : capOk s1 (k + 1) c := by cases s1 <;> simp [capOk]; omega
      have hadr : slAddr b1 o1 s1 1 0 c true = ⟨b1, o1, s1⟩ := by
        have hc0 : ¬ c = 0 := by omega
        cases s1 <;> simp [slAddr, hc0]
      have e1 : EqI ((0 : Nat) : Int) 0 = True := eqI_self
      have e2 : k ≤ c := by omega
      simp +contextual (disch := omega) only [↓AM, ↓AV, AP, CQ, e0, i64, f1, r1, bnds, Option.isNone, hcap, hadr, e1, kk, e2]
      refine ⟨k, by omega, by omega, ?_, rfl⟩
      rw [← hv, List.take_add_one, hd]
      exact vL_init.symm
    · have e1 : EqI (d : Int) 0 = False := eq_false (by unfold EqI; omega)
      simp +contextual (disch := omega) only [↓AM, ↓AV, AP, CQ, e0, i64, f1, r1, e1]
      exact ⟨by omega, fin (uq (nz_take hd hz))⟩
end Go.Proofs.Ytnibipabfdalcaa.Nu
