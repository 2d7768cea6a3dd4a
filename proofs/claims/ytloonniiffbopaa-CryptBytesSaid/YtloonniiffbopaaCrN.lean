/- Copies, keys, and what is xored. Plain theorems over the abstract machine.
   Conditions: none. -/
import Derived.Test.YtloonniiffbopaaCrM
import Derived.Test.YtloonniiffbopaaAmZa
namespace Go.Proofs.Ytloonniiffbopaa.Cr
open Go Go.RowKit Go.Proofs.Ytloonniiffbopaa.Am Go.Proofs.Ytloonniiffbopaa.Af
set_option linter.unusedVariables false
set_option linter.unusedSimpArgs false
set_option maxRecDepth 20000

theorem c_Clone {h : Hp} {a : Option Addr} {n c : Nat} {xs : List Int} (r : Rd h 1 a n (xs.map (Value.int .u8))) (hn : n ≤ 140737488351232) (hc : n ≤ c) :
    ACalls Try.prog 57 [.slice a n c] h fun v h' => ∃ oa cap, v = .slice oa n cap ∧ Ow h' 1 oa n cap (xs.map (Value.int .u8)) ∧ Nw h oa ∧ Fm No h h' := by
  refine slices_Clone___byte_byte__ok.snd hm rfl fun w => ?_
  rw [WF_eq, slices_Clone___byte_byte_]
  have hl := r.ilen
  have app : ∀ (x : Value) (K : Value → Hp → Prop) (tg : Tag K), x = .slice a n c → (∀ oa' cap' h', Ow h' 1 oa' n cap' (xs.map (Value.int .u8)) → Wf h' → Fm No h h' → Nw h oa' → K (.slice oa' n cap') h') →
      appV 1 1 (.slice (some ⟨h.size, 0, none⟩) 0 0) n (xs.map (Value.int .u8)) (h.new ⟨[], .own⟩) K tg := by
    intro x K tg hx k
    have ow := Ow.new (h := h) (z := 1) (n := 0) (m := 0) (cs := []) rfl (Nat.le_refl _)
    have fm0 : Fm No h (h.new ⟨[], .own⟩) := Fm.new Fm.refl
    refine Ow.add (m := n) w.new ow (by simp; omega) (by omega) fun oa' cap' h' o' w' f' n' => ?_
    obtain ⟨g1, g2⟩ := grown fm0 (Nw.new Fm.refl) f' n'
    rw [Nat.zero_add] at o' ⊢
    exact k oa' cap' h' (by simpa using o') w' g1 g2
  have fm0 : Fm No h (h.new ⟨[], .own⟩) := Fm.new Fm.refl
  have hs := (r.keep w fm0 (fun _ _ => id)).src (c := c)
  rcases a with _ | ⟨b, off, sp⟩
  · have h0 := r.nil rfl
    subst h0
    cases c with
    | zero =>
      simp +contextual only [↓AM, ↓AV, AP, isNilV]
      have : xs = [] := List.length_eq_zero_iff.1 hl
      subst this
      exact ⟨_, _, rfl, Ow.mk0, Nw.none, Fm.refl⟩
    | succ c =>
      simp +contextual only [↓AM, ↓AV, AP, isNilV, hs]
      refine app _ _ _ rfl fun oa' cap' h' o' w' f' n' => ?_
      simp +contextual only [↓AM, ↓AV, AP]
      exact ⟨_, _, rfl, o', n', f'⟩
  · simp +contextual only [↓AM, ↓AV, AP, isNilV, hs]
    refine app _ _ _ rfl fun oa' cap' h' o' w' f' n' => ?_
    simp +contextual only [↓AM, ↓AV, AP]
    exact ⟨_, _, rfl, o', n', f'⟩
/-- Keys in memory. -/
def KeysAt (h : Hp) (oa : Option Addr) (ks : List (List Int)) : Prop := ∀ i k, ks[i]? = some k → ∃ b off sp a c, oa = some ⟨b, off, sp⟩ ∧ flagOk sp = true ∧ h.rd b (off + i) = some (.slice a k.length c) ∧ Rd h 1 a k.length (k.map (Value.int .u8)) ∧ k.length ≤ c ∧ Bytes k
theorem rd_wf {h : Hp} (w : Wf h) {b i : Nat} {v : Value} (e : h.rd b i = some v) : b < h.size := by
  unfold Hp.rd at e
  cases hg : h.get b with
  | none => rw [hg] at e; cases e
  | some o => exact w.lt hg
theorem KeysAt.keep {h h' : Hp} {oa : Option Addr} {ks : List (List Int)} (k : KeysAt h oa ks) (w : Wf h) (fm : Fm No h h') : KeysAt h' oa ks := fun i x hx => by
  obtain ⟨b, off, sp, a, c, e1, e2, e3, e4, e5, e6⟩ := k i x hx
  exact ⟨b, off, sp, a, c, e1, e2, (rd_keep (fm.get _ (rd_wf w e3) id)).trans e3, e4.keep w fm (fun _ _ => id), e5, e6⟩
theorem keys_open {h : Hp} {ks : List (List Int)} {u : Value} (a : (AKd.slice (AKd.slice (AKd.int .u8))).A h ks [u]) (hb : ∀ k ∈ ks, Bytes k) : ∃ oa c, u = .slice oa ks.length c ∧ KeysAt h oa ks := by
  obtain ⟨oa, c, r, h1, h2, h3, h4⟩ := a
  cases h1
  refine ⟨oa, c, rfl, fun i k hk => ?_⟩
  have hi : i < ks.length := (List.getElem?_eq_some_iff.1 hk).1
  obtain ⟨b, off, sp, v, e, f1, hv, hr⟩ := h2.one hi
  have el := AKd.Row.get (fun x cs h => (AKd.slice (AKd.int .u8)).alen h) h3 hk
  obtain ⟨ka, kc, r2, q1, q2, q3, q4⟩ := el
  have q3 := AKd.Row.int q3
  subst q3
  have : r[i]? = some (.slice ka k.length kc) := by
    have := congrArg (·[0]?) q1
    simp only [List.getElem?_take, List.getElem?_drop] at this
    simpa [AKd.slice] using this
  rw [this] at hv
  cases hv
  exact ⟨b, off, sp, ka, kc, e, f1, hr, q2, q4, hb k (List.mem_of_getElem? hk)⟩
/-- Is key k there? -/
def hasB (ks : List (List Int)) (k : Int) : Bool := decide (1 ≤ k ∧ k ≤ ks.length) && decide ((ks.getD (k - 1).toNat []).length = 16)
theorem c_hasKey {h : Hp} {oa : Option Addr} {ks : List (List Int)} {c : Nat} {k : Int} (K : KeysAt h oa ks) (hn : ks.length ≤ 140737488351232) :
    ACalls Try.prog 37 [.slice oa ks.length c, .int .i64 k] h fun v h' => v = .bool (hasB ks k) ∧ h' = h := by
  refine crypt_hasKey_ok.snd hm rfl fun w => ?_
  rw [WF_eq, crypt_hasKey]
  simp +contextual only [↓AM, ↓AV, AP]
  refine c_within.use ?_
  rintro _ h w1 ⟨rfl, rfl⟩
  by_cases h1 : 1 ≤ k ∧ k ≤ ks.length
  case neg =>
    simp +contextual only [↓AM, ↓AV, AP, h1]
    simp [hasB, h1]
  obtain ⟨m, rfl⟩ : ∃ m : Nat, k = ((m + 1 : Nat) : Int) := ⟨(k - 1).toNat, by omega⟩
  obtain ⟨x, hx⟩ : ∃ x, ks[m]? = some x := ⟨_, List.getElem?_eq_getElem (by omega)⟩
  obtain ⟨b, off, sp, a, c', rfl, f1, r1, -, -⟩ := K m x hx
  have hlt : m < ks.length := by omega
  simp +contextual (disch := omega) only [↓AM, ↓AV, AP, CQ, h1, i64, f1, hlt, r1]
  have e : (ks.getD (((m + 1 : Nat) : Int) - 1).toNat []) = x := by
    rw [nsub1, Int.toNat_natCast, List.getD_eq_getElem?_getD, hx]; rfl
  simp only [hasB, e, decide_eq_true h1, Bool.true_and]
  exact ⟨fun _ => congrArg Value.bool (decide_eq_decide.2 (by unfold EqI; omega)), fun hno => absurd hlt hno⟩
theorem c_usable {h : Hp} {oa : Option Addr} {ks : List (List Int)} {c : Nat} {k : Int} (K : KeysAt h oa ks) (hn : ks.length ≤ 140737488351232) :
    ACalls Try.prog 39 [.slice oa ks.length c, .int .i64 k] h fun v h' => v = .bool (hasB ks k) ∧ h' = h := by
  refine dioramaref21_usable_ok.snd hm rfl fun w => ?_
  rw [WF_eq, dioramaref21_usable]
  by_cases h1 : 1 ≤ k
  case neg =>
    simp +contextual only [↓AM, ↓AV, AP, h1]
    simp [hasB, h1]
  by_cases h2 : k ≤ ks.length
  case neg =>
    simp +contextual only [↓AM, ↓AV, AP, h1, h2]
    simp [hasB, h1, h2]
  obtain ⟨m, rfl⟩ : ∃ m : Nat, k = ((m + 1 : Nat) : Int) := ⟨(k - 1).toNat, by omega⟩
  obtain ⟨x, hx⟩ : ∃ x, ks[m]? = some x := ⟨_, List.getElem?_eq_getElem (by omega)⟩
  obtain ⟨b, off, sp, a, c', rfl, f1, r1, -, -⟩ := K m x hx
  have hlt : m < ks.length := by omega
  have h2' : m + 1 ≤ ks.length := hlt
  simp +contextual (disch := omega) only [↓AM, ↓AV, AP, CQ, h1, h2', i64, f1, hlt, r1]
  have e : (ks.getD (((m + 1 : Nat) : Int) - 1).toNat []) = x := by
    rw [nsub1, Int.toNat_natCast, List.getD_eq_getElem?_getD, hx]; rfl
  simp only [hasB, e, decide_eq_true (show 1 ≤ ((m + 1 : Nat) : Int) ∧ ((m + 1 : Nat) : Int) ≤ ks.length from ⟨h1, h2⟩), Bool.true_and]
  exact congrArg Value.bool (decide_eq_decide.2 (by unfold EqI; omega))

/-! ### what is xored -/
def xorI (x y : Int) : Int := IntKind.u8.wrap ((BitVec.ofInt IntKind.u8.bits x ^^^ BitVec.ofInt IntKind.u8.bits y).toNat : Int)
/-- The byte of the cipher with number m. -/
def ksb (key : List Int) (nonce : Int) (m : Nat) : Int := (blk key nonce ((m / 16 : Nat) : Int)).getD (m % 16) 0
def xstep (key : List Int) (nonce : Int) (o : List Int) (p : Nat × Nat) : List Int := o.set p.1 (xorI (o.getD p.1 0) (ksb key nonce p.2))
def xfun (key : List Int) (nonce : Int) (x m : Int) : Int := if m < 0 then x else xorI x (ksb key nonce m.toNat)
theorem xfold {key : List Int} {nonce : Int} : ∀ (M D pre : List Int), D.length = M.length → (pm pre.length M).foldl (xstep key nonce) (pre ++ D) = pre ++ List.zipWith (xfun key nonce) D M
  | [], D, pre, h => by
    have : D = [] := List.length_eq_zero_iff.1 h
    subst this
    simp [pm]
  | m :: M, [], pre, h => by cases h
  | m :: M, d :: D, pre, h => by
    have hl : D.length = M.length := by simpa using h
    unfold pm
    split
    · rename_i hm
      have := xfold (key := key) (nonce := nonce) M D (pre ++ [d]) hl
      simp only [List.length_append, List.length_singleton, List.append_assoc, List.singleton_append] at this
      rw [this, List.zipWith_cons_cons, xfun, if_pos hm]
    · rename_i hm
      rw [List.foldl_cons]
      have e : xstep key nonce (pre ++ d :: D) (pre.length, m.toNat) = (pre ++ [xorI d (ksb key nonce m.toNat)]) ++ D := by
        simp only [xstep, List.getD_eq_getElem?_getD]
        rw [List.getElem?_append_right (Nat.le_refl _), Nat.sub_self, List.set_append_right _ _ (Nat.le_refl _), Nat.sub_self]
        simp
      rw [e]
      have := xfold (key := key) (nonce := nonce) M D (pre ++ [xorI d (ksb key nonce m.toNat)]) hl
      simp only [List.length_append, List.length_singleton] at this
      rw [this, List.zipWith_cons_cons, xfun, if_neg hm]
      simp
theorem xfold0 {key : List Int} {nonce : Int} {M D : List Int} (h : D.length = M.length) : (pm 0 M).foldl (xstep key nonce) D = List.zipWith (xfun key nonce) D M := by
  have := xfold (key := key) (nonce := nonce) M D [] h
  simpa using this
theorem xorI_bd (x y : Int) : 0 ≤ xorI x y ∧ xorI x y ≤ 255 := by
  unfold xorI
  rw [IntKind.wrap_u8]; omega
theorem xorI_back {x y : Int} (hx : 0 ≤ x ∧ x ≤ 255) : xorI (xorI x y) y = x := by
  have h1 : ∀ a b : BitVec 8, IntKind.u8.wrap ((a ^^^ b).toNat : Int) = ((a ^^^ b).toNat : Int) := fun a b => u8 (by have := (a ^^^ b).isLt; omega)
  have h2 : ∀ a : BitVec 8, BitVec.ofInt 8 (a.toNat : Int) = a := fun a => by
    apply BitVec.eq_of_toNat_eq
    rw [BitVec.toNat_ofInt]
    have := a.isLt
    omega
  show IntKind.u8.wrap ((BitVec.ofInt 8 (IntKind.u8.wrap ((BitVec.ofInt 8 x ^^^ BitVec.ofInt 8 y).toNat : Int)) ^^^ BitVec.ofInt 8 y).toNat : Int) = x
  rw [h1 (BitVec.ofInt 8 x), h2, h1, BitVec.xor_assoc, BitVec.xor_self, BitVec.xor_zero, BitVec.toNat_ofInt]
  omega
end Go.Proofs.Ytloonniiffbopaa.Cr
