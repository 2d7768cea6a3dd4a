/- The cipher's block. Plain theorems over the abstract machine.
   Conditions: none. -/
import Derived.Test.YtloonniiffbopaaCrI
namespace Go.Proofs.Ytloonniiffbopaa.Cr
open Go Go.RowKit Go.Proofs.Ytloonniiffbopaa.Am Go.Proofs.Ytloonniiffbopaa.Af
set_option linter.unusedVariables false
set_option linter.unusedSimpArgs false
set_option maxRecDepth 20000

theorem set_mid (l r : List Value) (i : Nat) (v : Value) (hi : i < l.length) : (l.take (i + 1) ++ r).set i v = l.take i ++ v :: r := by
  rw [List.take_add_one, List.getElem?_eq_getElem hi]
  have h1 : (l.take i).length = i := by simp; omega
  simp only [Option.toList_some, List.append_assoc, List.singleton_append]
  rw [List.set_append_right _ _ (by omega), h1, Nat.sub_self]
  rfl
theorem u8_mod {v : Int} (h : 0 ≤ v) : IntKind.u8.wrap v = v % 256 := by rw [IntKind.wrap_u8]
theorem bytesN_S (n : Nat) (v : Int) : bytesN (n + 1) v = bytesN n (v / 256) ++ [v % 256] := rfl
/-- The last k bytes are written. -/
theorem c_put {h : Hp} {b off cap : Nat} {cs : List Value} {md : Md} {v : Int} (hg : h.get b = some ⟨cs, md⟩) (hmd : md ≠ .ro) (hl : off + 8 ≤ cs.length) (hv : 0 ≤ v ∧ v ≤ 18446744073709551615) :
    ACalls Try.prog 50 [.slice (some ⟨b, off, none⟩) 8 cap, .int .u64 v] h fun r h' => h' = h.put b ⟨cs.take off ++ ((bytesN 8 v).map (Value.int .u8) ++ cs.drop (off + 8)), md⟩ := by
  refine crypt_put_ok.snd hm rfl fun w => ?_
  rw [WF_eq, crypt_put]
  simp +contextual only [↓AM, ↓AV, AP]
  refine WL.mk (fun k t h' => ∃ (u : Int) (S : List Int), k ≤ 8 ∧ 0 ≤ u ∧ u ≤ 18446744073709551615 ∧ bytesN 8 v = bytesN k u ++ S ∧ S.length = 8 - k ∧ h' = h.put b ⟨cs.take (off + k) ++ (S.map (Value.int .u8) ++ cs.drop (off + 8)), md⟩ ∧
      t = [(0, some (.slice (some ⟨b, off, none⟩) 8 cap)), (1, some (.int .u64 u)), (4, some (.int .i64 ((k : Int) - 1)))])
    ⟨8, v, [], Nat.le_refl _, hv.1, hv.2, by simp, rfl, ?_, rfl⟩ ?_
  · have : cs.take (off + 8) ++ (([] : List Int).map (Value.int .u8) ++ cs.drop (off + 8)) = cs := by simp
    rw [this, put_self hg]
  rintro k t h1 ⟨u, S, hk, hu0, hu1, hS, hSl, rfl, rfl⟩
  have hgp : (h.put b ⟨cs.take (off + k) ++ (S.map (Value.int .u8) ++ cs.drop (off + 8)), md⟩).get b = some _ := gput
  cases k with
  | zero =>
    have e1 : ((0 : Int) ≤ ((0 : Nat) : Int) - 1) = False := by simp
    simp +contextual only [↓AM, ↓AV, AP, e1]
    rw [hS]
    simp [bytesN]
  | succ k =>
    have e1 : (((k + 1 : Nat) : Int) - 1) = (k : Int) := by omega
    have e2 : (0 ≤ (k : Int)) = True := by simp
    have e3 : k < 8 := by omega
    have e4 : u.fdiv (2 ^ min 8 IntKind.u64.bits) = u / 256 := by
      show u.fdiv 256 = _
      rw [Int.fdiv_eq_ediv_of_nonneg _ (by omega)]
    have e5 : leIs (off + k + 1) (cs.take (off + (k + 1)) ++ (S.map (Value.int .u8) ++ cs.drop (off + 8))) = true := by
      rw [← leIs_p]; simp; omega
    have e6 : spl (cs.take (off + (k + 1)) ++ (S.map (Value.int .u8) ++ cs.drop (off + 8))) (off + k) [.int .u8 (u % 256)] = cs.take (off + k) ++ (((u % 256) :: S).map (Value.int .u8) ++ cs.drop (off + 8)) := by
      rw [spl_one _ _ _ (by simp; omega), show off + (k + 1) = off + k + 1 by omega, set_mid _ _ _ _ (by omega)]
      simp
    have hmd' : (md = .ro) = False := eq_false hmd
    simp +contextual (disch := omega) only [↓AM, ↓AV, AP, e1, e2, e3, e4, e5, e6, hgp, hmd', u8_mod, i64]
    refine ⟨k, Nat.lt_succ_self _, u / 256, (u % 256) :: S, by omega, by omega, by omega, ?_, by simp; omega, rfl, rfl⟩
    rw [hS, bytesN_S]; simp
theorem c_bytes {h : Hp} {v : Int} (hv : 0 ≤ v ∧ v ≤ 18446744073709551615) :
    ACalls Try.prog 53 [.int .u64 v] h fun r h' => r = .slice (some ⟨h.size, 0, none⟩) 8 8 ∧ h' = h.new ⟨(bytesN 8 v).map (Value.int .u8), .own⟩ := by
  refine dioramaref21_bytes_ok.snd hm rfl fun w => ?_
  rw [WF_eq, dioramaref21_bytes]
  simp +contextual only [↓AM, ↓AV, AP]
  refine ⟨by decide, ?_⟩
  refine WL.mk (fun k t h' => ∃ (u : Int) (S : List Int), k ≤ 8 ∧ 0 ≤ u ∧ u ≤ 18446744073709551615 ∧ bytesN 8 v = bytesN k u ++ S ∧ S.length = 8 - k ∧ h' = h.new ⟨(List.replicate 8 (Value.int .u8 0)).take k ++ S.map (Value.int .u8), .own⟩ ∧
      t = [(0, some (.int .u64 u)), (3, some (.slice (some ⟨h.size, 0, none⟩) 8 8)), (4, some (.int .i64 ((k : Int) - 1)))])
    ⟨8, v, [], Nat.le_refl _, hv.1, hv.2, by simp, rfl, rfl, rfl⟩ ?_
  rintro k t h1 ⟨u, S, hk, hu0, hu1, hS, hSl, rfl, rfl⟩
  cases k with
  | zero =>
    have e1 : ((0 : Int) ≤ ((0 : Nat) : Int) - 1) = False := by simp
    simp +contextual only [↓AM, ↓AV, AP, e1]
    rw [hS]
    simp [bytesN]
  | succ k =>
    have e1 : (((k + 1 : Nat) : Int) - 1) = (k : Int) := by omega
    have e2 : (0 ≤ (k : Int)) = True := by simp
    have e3 : k < 8 := by omega
    have e4 : IntKind.u64.wrap (u.tdiv 256) = u / 256 := by rw [Int.tdiv_eq_ediv_of_nonneg hu0, u64 (by omega)]
    have e5 : leIs (k + 1) ((List.replicate 8 (Value.int .u8 0)).take (k + 1) ++ S.map (Value.int .u8)) = true := by
      rw [← leIs_p]; simp; omega
    have e6 : spl ((List.replicate 8 (Value.int .u8 0)).take (k + 1) ++ S.map (Value.int .u8)) k [.int .u8 (u % 256)] = (List.replicate 8 (Value.int .u8 0)).take k ++ ((u % 256) :: S).map (Value.int .u8) := by
      rw [spl_one _ _ _ (by simp; omega), set_mid _ _ _ _ (by simp; omega)]
      simp
    have n256 : ((256 : Int) = 0) = False := by simp
    have e7 : EqI 256 0 = False := eq_false (by unfold EqI; omega)
    simp +contextual (disch := omega) only [↓AM, ↓AV, AP, e1, e2, e3, e4, e5, e6, e7, n256, u8_mod, i64, new_put]
    refine ⟨k, Nat.lt_succ_self _, u / 256, (u % 256) :: S, by omega, by omega, by omega, ?_, by simp; omega, rfl, rfl⟩
    rw [hS, bytesN_S]; simp
end Go.Proofs.Ytloonniiffbopaa.Cr
