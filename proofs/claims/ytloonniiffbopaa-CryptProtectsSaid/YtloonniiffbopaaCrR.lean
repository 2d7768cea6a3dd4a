/- Runs of places cover what is marked; protected twice is as before. Plain theorems.
   Conditions: none. -/
import Derived.Test.YtloonniiffbopaaCrQ
namespace Go.Proofs.Ytloonniiffbopaa.Cr
open Go Go.RowKit Go.Proofs.Ytloonniiffbopaa.Am Go.Proofs.Ytloonniiffbopaa.Af
set_option linter.unusedVariables false
set_option linter.unusedSimpArgs false

structure Runs (out : List (Nat × Nat)) (n : Nat) : Prop where
  le : ∀ r ∈ out, r.1 ≤ r.2 ∧ r.2 ≤ n
  srt : out.Pairwise fun a b => a.1 ≤ b.1
def Cov (out : List (Nat × Nat)) (p : Nat) : Prop := ∃ r ∈ out, r.1 ≤ p ∧ p < r.2
theorem addP_ok {out : List (Nat × Nat)} {n p : Nat} (R : Runs out n) (h : n ≤ p) : Runs (addP out p) (p + 1) ∧ Cov (addP out p) p ∧ ∀ q, Cov out q → Cov (addP out p) q := by
  have push : Runs (out ++ [(p, p + 1)]) (p + 1) ∧ Cov (out ++ [(p, p + 1)]) p ∧ ∀ q, Cov out q → Cov (out ++ [(p, p + 1)]) q := by
    refine ⟨⟨fun r hr => ?_, ?_⟩, ⟨(p, p + 1), by simp, by simp only; omega⟩, fun q ⟨r, hr, hq⟩ => ⟨r, by simp [hr], hq⟩⟩
    · rcases List.mem_append.1 hr with hr | hr
      · have := R.le r hr; omega
      · obtain rfl := List.mem_singleton.1 hr
        simp only; omega
    · rw [List.pairwise_append]
      refine ⟨R.srt, by simp, fun a ha b hb => ?_⟩
      obtain rfl := List.mem_singleton.1 hb
      have := R.le a ha
      simp only; omega
  rcases List.eq_nil_or_concat out with rfl | ⟨o, l, rfl⟩
  · exact push
  · rw [List.concat_eq_append] at *
    have hl : (o ++ [l]).getLast? = some l := by simp
    by_cases hp : l.2 = p
    · have e : addP (o ++ [l]) p = o ++ [(l.1, p + 1)] := by rw [addP, hl]; simp [hp]
      rw [e]
      have hll := R.le l (by simp)
      have hs := R.srt
      rw [List.pairwise_append] at hs
      obtain ⟨s1, -, s3⟩ := hs
      refine ⟨⟨fun r hr => ?_, ?_⟩, ⟨(l.1, p + 1), by simp, by simp only; omega⟩, fun q ⟨r, hr, hq⟩ => ?_⟩
      · rcases List.mem_append.1 hr with hr | hr
        · have := R.le r (by simp [hr]); omega
        · obtain rfl := List.mem_singleton.1 hr
          simp only; omega
      · rw [List.pairwise_append]
        refine ⟨s1, by simp, fun a ha b hb => ?_⟩
        obtain rfl := List.mem_singleton.1 hb
        exact s3 a ha l (by simp)
      · rcases List.mem_append.1 hr with hr | hr
        · exact ⟨r, by simp [hr], hq⟩
        · obtain rfl := List.mem_singleton.1 hr
          exact ⟨(r.1, p + 1), by simp, by simp only; omega⟩
    · have e : addP (o ++ [l]) p = o ++ [l] ++ [(p, p + 1)] := by rw [addP, hl]; simp [hp]
      rw [e]
      exact push
theorem runs_ok : ∀ (M : List Int) (i : Nat) (out : List (Nat × Nat)), Runs out i → (∃ n, Runs (((pm i M).map (·.1)).foldl addP out) n) ∧ (∀ q, Cov out q → Cov (((pm i M).map (·.1)).foldl addP out) q) ∧
    ∀ j x, M[j]? = some x → ¬ x < 0 → Cov (((pm i M).map (·.1)).foldl addP out) (i + j)
  | [], i, out, R => ⟨⟨i, R⟩, fun _ h => h, fun j x hx => by simp at hx⟩
  | m :: M, i, out, R => by
    unfold pm
    split
    · rename_i hm
      have R' : Runs out (i + 1) := ⟨fun r hr => by have := R.le r hr; omega, R.srt⟩
      obtain ⟨h1, h2, h3⟩ := runs_ok M (i + 1) out R'
      refine ⟨h1, h2, fun j x hx hx0 => ?_⟩
      cases j with
      | zero => have : m = x := by simpa using hx
                subst this; exact absurd hm hx0
      | succ j => have := h3 j x (by simpa using hx) hx0
                  rwa [show i + (j + 1) = i + 1 + j by omega]
    · rename_i hm
      obtain ⟨g1, g2, g3⟩ := addP_ok R (Nat.le_refl i)
      obtain ⟨h1, h2, h3⟩ := runs_ok M (i + 1) _ g1
      simp only [List.map_cons, List.foldl_cons]
      refine ⟨h1, fun q hq => h2 q (g3 q hq), fun j x hx hx0 => ?_⟩
      cases j with
      | zero => exact h2 i g2
      | succ j => have := h3 j x (by simpa using hx) hx0
                  rwa [show i + (j + 1) = i + 1 + j by omega]
theorem pairwise_at {R : List (Nat × Nat)} (h : R.Pairwise fun a b => a.1 ≤ b.1) {i j : Nat} {a b : Nat × Nat} (hi : R[i]? = some a) (hj : R[j]? = some b) (hij : i ≤ j) : a.1 ≤ b.1 := by
  obtain ⟨h1, rfl⟩ := List.getElem?_eq_some_iff.1 hi
  obtain ⟨h2, rfl⟩ := List.getElem?_eq_some_iff.1 hj
  rcases Nat.lt_or_ge i j with hlt | hge
  · exact List.pairwise_iff_getElem.1 h i j h1 h2 hlt
  · have : i = j := by omega
    subst this
    exact Nat.le_refl _
/-- What lies in no run is not protected. -/
theorem sec_free {l : Lk} {n : Nat} (he : secE l n = 0) {k i : Nat} (hb : ∀ j r, j < k → (secR l n)[j]? = some r → r.2 ≤ i) (hk : ∀ r, (secR l n)[k]? = some r → i < r.1) {x : Int} (hx : (marksL l n)[i]? = some x) : x < 0 := by
  rcases Decidable.em (x < 0) with h | h
  · exact h
  exfalso
  have hR : secR l n = ((pm 0 (marksL l n)).map (·.1)).foldl addP [] := by rw [secR, if_pos he]; rfl
  obtain ⟨⟨m, R⟩, -, h3⟩ := runs_ok (marksL l n) 0 [] ⟨fun r hr => by simp at hr, List.Pairwise.nil⟩
  obtain ⟨r, hr, h1, h2⟩ := h3 i x hx h
  rw [Nat.zero_add] at h1 h2
  rw [← hR] at hr R
  obtain ⟨j, hj⟩ := List.getElem?_of_mem hr
  rcases Nat.lt_or_ge j k with hlt | hge
  · have := hb j r hlt hj; omega
  · have hjl : j < (secR l n).length := (List.getElem?_eq_some_iff.1 hj).1
    have hkx : (secR l n)[k]? = some (secR l n)[k] := List.getElem?_eq_getElem (by omega)
    have := hk _ hkx
    have := pairwise_at R.srt hkx hj hge
    omega
theorem xfun_back {key : List Int} {nonce x m : Int} (hx : 0 ≤ x ∧ x ≤ 255) : xfun key nonce (xfun key nonce x m) m = x := by
  unfold xfun
  split
  · rfl
  · exact xorI_back hx
theorem zip_back {key : List Int} {nonce : Int} : ∀ {D M : List Int}, D.length = M.length → Bytes D → List.zipWith (xfun key nonce) (List.zipWith (xfun key nonce) D M) M = D
  | [], [], _, _ => rfl
  | [], _ :: _, h, _ => by cases h
  | _ :: _, [], h, _ => by cases h
  | d :: D, m :: M, h, hb => by
    rw [List.zipWith_cons_cons, List.zipWith_cons_cons, xfun_back (hb d (by simp)), zip_back (by simpa using h) (fun x hx => hb x (by simp [hx]))]
theorem zip_bytes {key : List Int} {nonce : Int} : ∀ {D M : List Int}, Bytes D → Bytes (List.zipWith (xfun key nonce) D M)
  | [], _, _ => fun x hx => by simp at hx
  | _ :: _, [], _ => fun x hx => by simp at hx
  | d :: D, m :: M, hb => fun x hx => by
    rw [List.zipWith_cons_cons] at hx
    rcases List.mem_cons.1 hx with rfl | hx
    · unfold xfun
      split
      · exact hb d (by simp)
      · exact xorI_bd _ _
    · exact zip_bytes (fun y hy => hb y (by simp [hy])) x hx
end Go.Proofs.Ytloonniiffbopaa.Cr
