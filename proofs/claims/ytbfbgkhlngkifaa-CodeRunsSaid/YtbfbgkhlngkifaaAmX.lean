/- Functions carried out: what is known wholly is computed. Plain theorems.
   Conditions: none. -/
import Derived.Test.YtbfbgkhlngkifaaAmW
namespace Go.Proofs.Ytbfbgkhlngkifaa.Am
open Go Go.RowKit
set_option linter.unusedVariables false
set_option linter.unusedSimpArgs false

abbrev XCall := FuncId → List Value → HL → Option (Value × HL)
section
variable {α : Type}
/-- A heap with a new object: the rest was computed. -/
def frcHn (h : HL) (k : HL → α) : α := match h with
  | ⟨s, [], m⟩ => frcN s fun s => k ⟨s, [], m⟩
  | ⟨s, (b, o) :: r, m⟩ => frcN s fun s => frcN b fun b => frcO o fun o => k ⟨s, (b, o) :: r, m⟩
theorem frcHn_eq (h : HL) (k : HL → α) : frcHn h k = k h := by
  obtain ⟨s, _ | ⟨⟨b, o⟩, r⟩, m⟩ := h <;> simp only [frcHn, frcN_eq, frcO_eq]
/-- Only what a step changed is computed anew. -/
def frcK (a : AK) (h : HL) (k : HL → α) : α := match a.isPure with
  | true => k h
  | false => match a.isLd with
    | true => k h
    | false => match a.isAlloc with
      | true => frcHn h k
      | false => frcH h k
theorem frcK_eq (a : AK) (h : HL) (k : HL → α) : frcK a h k = k h := by
  unfold frcK
  split
  · rfl
  · split
    · rfl
    · split
      · exact frcHn_eq h k
      · exact frcH_eq h k
end
def xRun (call : XCall) (o : AO) (t : Tm) (h : HL) : Option (Tm × HL) := match o.k with
  | .call f args => xOpt (evs t args) fun vs => xOpt (call f vs h) fun r => frcV r.1 fun v => some (tput t o.d (some v), r.2)
  | .callv x args => match ev t x with
    | some (.func (.func f) us vs) => xOpt (evs t args) fun as => xOpt (call f (us.toList ++ as ++ vs.toList) h) fun r => frcV r.1 fun v => some (tput t o.d (some v), r.2)
    | _ => none
  | .inv rows x args => match ev t x with
    | some (.iface ty u) => xOpt (evs t args) fun as => xOpt (findR rows ty) fun f => xOpt (call f (u :: as) h) fun r => frcV r.1 fun v => some (tput t o.d (some v), r.2)
    | _ => none
  | k => xOpt (xK k t h) fun r => match r with
    | (v, h) => frcOV v fun v => frcK k h fun h => some (tput t o.d v, h)
def xGo (call : XCall) (o : AO) (t : Tm) (h : HL) : Option (Tm × HL) := match o.g with
  | none => xRun call o t h
  | some (g, want) => match tget t g with
    | some (.bool b) => if b = want then xRun call o t h else some (tput t o.d (skipV o.k), h)
    | some (.tuple _) => some (tput t o.d (skipV o.k), h)
    | _ => none
def xOps (call : XCall) : List AO → Tm → HL → Option (Tm × HL)
  | [], t, h => some (t, h)
  | o :: r, t, h => match xGo call o t h with
    | some (t, h) => xOps call r t h
    | none => none
/-- Equal, as far as it can be told. -/
def eqV : Value → Value → Bool
  | .bool a, .bool b => a == b
  | .int k a, .int k' b => decide (k = k') && decide (a = b)
  | .pointer none, .pointer none => true
  | .pointer (some ⟨b, i, none⟩), .pointer (some ⟨c, j, none⟩) => Nat.beq b c && Nat.beq i j
  | .slice none a b, .slice none c d => Nat.beq a c && Nat.beq b d
  | .slice (some ⟨b, i, none⟩) x y, .slice (some ⟨c, j, none⟩) z w => Nat.beq b c && Nat.beq i j && Nat.beq x z && Nat.beq y w
  | .slice (some ⟨b, i, some k⟩) x y, .slice (some ⟨c, j, some l⟩) z w => Nat.beq b c && Nat.beq i j && Nat.beq k l && Nat.beq x z && Nat.beq y w
  | .string a, .string b => eqB a.data.toList b.data.toList
  | .nilFunc, .nilFunc => true
  | _, _ => false
theorem eqV_eq {a b : Value} (h : eqV a b = true) : a = b := by
  unfold eqV at h
  split at h <;> try simp only [Bool.and_eq_true, beq_iff_eq, decide_eq_true_eq] at h
  · rw [h]
  · rw [h.1, h.2]
  · rfl
  · rw [Nat.eq_of_beq_eq_true h.1, Nat.eq_of_beq_eq_true h.2]
  · rw [Nat.eq_of_beq_eq_true h.1, Nat.eq_of_beq_eq_true h.2]
  · rw [Nat.eq_of_beq_eq_true h.1.1.1, Nat.eq_of_beq_eq_true h.1.1.2, Nat.eq_of_beq_eq_true h.1.2, Nat.eq_of_beq_eq_true h.2]
  · rw [Nat.eq_of_beq_eq_true h.1.1.1.1, Nat.eq_of_beq_eq_true h.1.1.1.2, Nat.eq_of_beq_eq_true h.1.1.2, Nat.eq_of_beq_eq_true h.1.2, Nat.eq_of_beq_eq_true h.2]
  · rename_i x y
    rw [eqB_eq, beq_iff_eq] at h
    obtain ⟨⟨x⟩⟩ := x
    obtain ⟨⟨y⟩⟩ := y
    simp only at h
    rw [h]
  · rfl
  · cases h
def eqVs : List Value → List Value → Bool
  | [], [] => true
  | a :: r, b :: s => match eqV a b with
    | true => eqVs r s
    | false => false
  | _, _ => false
theorem eqVs_eq : ∀ {a b : List Value}, eqVs a b = true → a = b
  | [], [], _ => rfl
  | [], _ :: _, h => by cases h
  | _ :: _, [], h => by cases h
  | a :: r, b :: s, h => by
    simp only [eqVs] at h
    split at h
    · rename_i h1
      rw [eqV_eq h1, eqVs_eq h]
    · cases h
def xLd (h : HL) (p : Pd) : Bool := match p.ad, p.z with
  | .pointer (some ⟨b, off, none⟩), none => match h.hp.rd b off with
    | some v => eqV v p.v
    | none => false
  | .pointer (some ⟨b, off, none⟩), some z => match h.hp.rdN b off z, p.v with
    | some cs, .agg a => eqVs cs a.toList
    | _, _ => false
  | _, _ => false
theorem xLd_ok {h : HL} {p : Pd} (e : xLd h p = true) : ldOk h.hp p := by
  unfold xLd at e
  unfold ldOk
  split at e
  · rename_i h1 h2
    rw [h1, h2]
    split at e
    · rename_i v hv
      show _ = _
      rw [hv, eqV_eq e]
    · cases e
  · rename_i h1 h2
    rw [h1, h2]
    split at e
    · rename_i cs a hv ha
      refine ⟨cs, hv, ?_⟩
      rw [ha, eqVs_eq e]
    · cases e
  · cases e
theorem chk_ok {h : HL} {K : Prop} (hK : K) : ∀ {ps : List Pd}, ps.all (xLd h) = true → WChk ps h.hp K
  | [], _ => hK
  | p :: r, e => by
    rw [List.all_cons, Bool.and_eq_true] at e
    exact ⟨xLd_ok e.1, chk_ok hK e.2⟩
def xD (call : XCall) : List DO → Tm → HL → List Pd → Option (Tm × HL)
  | [], t, h, _ => some (t, h)
  | d :: r, t, h, ps => match xGo call d.o t h with
    | none => none
    | some (t', h') => match d.kind with
      | 0 => xD call r t' h' ps
      | 1 => xD call r t' h' (pdOf d t t' ++ ps)
      | 2 => xD call r t' h' (flt d.b ps)
      | 3 => xD call r t' h' ps
      | 6 => none
      | _ => match (flt d.b ps).all (xLd h') with
        | true => xD call r t' h' (flt d.b ps)
        | false => none
def xC (fs : FuncId → Option AF) : Nat → AC → Tm → HL → Option (AX × Tm × HL)
  | 0, _, _, _ => none
  | n + 1, c, t, h =>
    let call : XCall := fun f args h => match fs f with
      | some F => match Nat.ble args.length F.n with
        | true => match xC fs n F.code (argsT args 0) h with
          | some (.normal, t, h) => xOpt (xRes F.res t h) fun vs => some (retV vs, h)
          | some (.ret, t, h) => xOpt (xRes F.res t h) fun vs => some (retV vs, h)
          | _ => none
        | false => none
      | none => none
    match c with
    | .skip => some (.normal, t, h)
    | .ops l => match xOps call l t h with
      | some (t, h) => some (.normal, t, h)
      | none => none
    | .draw l => match xD call l (forget l t) h [] with
      | some (t, h) => some (.normal, t, h)
      | none => none
    | .seq x y => match xC fs n x t h with
      | some (.normal, t, h) => xC fs n y t h
      | r => r
    | .cut live x y => match xC fs n x t h with
      | some (.normal, t, h) => frcT (keep live t) fun t => xC fs n y t h
      | r => r
    | .trim live x y => match xC fs n x t h with
      | some (.normal, t, h) => frcT (keep live t) fun t => xC fs n y t h
      | r => r
    | .cond c x y => match ev t c with
      | some (.bool true) => xC fs n x t h
      | some (.bool false) => xC fs n y t h
      | _ => none
    | .block id x => match xC fs n x t h with
      | some (.exit i, t, h) => match Nat.beq i id with
        | true => some (.normal, t, h)
        | false => some (.exit i, t, h)
      | r => r
    | .loop live x => frcT (keep live t) fun t => match xC fs n x t h with
      | some (.normal, t, h) => xC fs n (.loop live x) t h
      | r => r
    | .exit id => some (.exit id, t, h)
    | .ret => some (.ret, t, h)
    | .bad => none
where
  xRes : List AR → Tm → HL → Option (List Value)
  | [], _, _ => some []
  | .tmp i :: r, t, h => xOpt (tget t i) fun v => xOpt (xRes r t h) fun vs => some (v :: vs)
  | .cell1 i :: r, t, h => xPtr t (.tmp i) fun b off => xOpt (h.hp.rd b off) fun v => xOpt (xRes r t h) fun vs => some (v :: vs)
  | .cellN z i :: r, t, h => xPtr t (.tmp i) fun b off => xOpt (h.hp.rdN b off z) fun cs => xOpt (xRes r t h) fun vs => some (.agg cs.toArray :: vs)

section
variable {P : Program} {call : XCall}
def CallOk (P : Program) (call : XCall) : Prop := ∀ f args h v h', call f args h = some (v, h') → okF P f = true ∧ ∀ Q : Value → Hp → Prop, Q v h'.hp → ACalls P f args h.hp Q
theorem xRun_ok (hc : CallOk P call) {o : AO} {t t' : Tm} {h h' : HL} (e : xRun call o t h = some (t', h')) (K : Tm → Hp → Prop) (hK : K t' h'.hp) : o.run P t h.hp K := by
  unfold xRun at e
  unfold AO.run
  split at e
  · rename_i f args hk
    rw [hk]
    obtain ⟨vs, h1, e⟩ := xOpt_some e
    obtain ⟨⟨v, h2⟩, h3, e⟩ := xOpt_some e
    rw [frcV_eq] at e
    cases e
    simp only
    rw [h1]
    exact (hc _ _ _ _ _ h3).2 _ hK
  · rename_i x args hk
    rw [hk]
    split at e
    · rename_i f us vs hx
      obtain ⟨as, h1, e⟩ := xOpt_some e
      obtain ⟨⟨v, h2⟩, h3, e⟩ := xOpt_some e
      rw [frcV_eq] at e
      cases e
      simp only
      rw [hx, h1]
      exact ⟨(hc _ _ _ _ _ h3).1, (hc _ _ _ _ _ h3).2 _ hK⟩
    · cases e
  · rename_i rows x args hk
    rw [hk]
    split at e
    · rename_i ty u hx
      obtain ⟨as, h1, e⟩ := xOpt_some e
      obtain ⟨f, hf, e⟩ := xOpt_some e
      obtain ⟨⟨v, h2⟩, h3, e⟩ := xOpt_some e
      rw [frcV_eq] at e
      cases e
      simp only
      rw [hx, h1]
      exact ⟨f, hf, (hc _ _ _ _ _ h3).2 _ hK⟩
    · cases e
  · rename_i hn1 hn2 hn3
    obtain ⟨⟨v, h2⟩, h3, e⟩ := xOpt_some e
    simp only at e
    rw [frcOV_eq, frcK_eq] at e
    cases e
    have := xK_ok h3 (fun v h' => K (tput t o.d v) h') hK
    split
    · rename_i f args hk; exact absurd hk (hn1 f args)
    · rename_i x args hk; exact absurd hk (hn2 x args)
    · rename_i rows x args hk; exact absurd hk (hn3 rows x args)
    · exact this
theorem xGo_ok (hc : CallOk P call) {o : AO} {t t' : Tm} {h h' : HL} (e : xGo call o t h = some (t', h')) (K : Tm → Hp → Prop) (hK : K t' h'.hp) : o.go P t h.hp K := by
  unfold xGo at e
  unfold AO.go
  split at e
  · rename_i hg; rw [hg]; exact xRun_ok hc e K hK
  · rename_i g want hg
    rw [hg]
    simp only
    split at e
    · rename_i b hb
      rw [hb]
      simp only
      split at e
      · rename_i hw; rw [if_pos hw]; exact xRun_ok hc e K hK
      · rename_i hw; rw [if_neg hw]; cases e; exact hK
    · rename_i xs hb
      rw [hb]
      cases e; exact hK
    · cases e
theorem xOps_ok (hc : CallOk P call) : ∀ {l : List AO} {t t' : Tm} {h h' : HL}, xOps call l t h = some (t', h') → ∀ K : Tm → Hp → Prop, K t' h'.hp → Wops P l t h.hp K
  | [], t, t', h, h', e, K, hK => by cases e; exact hK
  | o :: r, t, t', h, h', e, K, hK => by
    simp only [xOps] at e
    split at e
    · rename_i t1 h1 e1
      exact xGo_ok hc e1 _ (xOps_ok hc e K hK)
    · cases e
theorem xD_ok (hc : CallOk P call) : ∀ {l : List DO} {t t' : Tm} {h h' : HL} {ps : List Pd}, xD call l t h ps = some (t', h') → ∀ K : Tm → Hp → Prop, K t' h'.hp → Wd P l t h.hp ps K
  | [], t, t', h, h', ps, e, K, hK => by cases e; exact hK
  | d :: r, t, t', h, h', ps, e, K, hK => by
    simp only [xD] at e
    simp only [Wd]
    split at e
    · cases e
    · rename_i t1 h1 e1
      generalize d.kind = k at e ⊢
      match k, e with
      | 0, e => exact xGo_ok hc e1 (fun t' h' => Wd P r t' h' ps K) (xD_ok hc e K hK)
      | 1, e => exact xGo_ok hc e1 (fun t' h' => Wd P r t' h' (pdOf d t t' ++ ps) K) (xD_ok hc e K hK)
      | 2, e => exact xGo_ok hc e1 (fun t' h' => Wd P r t' h' (flt d.b ps) K) (xD_ok hc e K hK)
      | 3, e => exact xGo_ok hc e1 (fun t' h' => Wd P r t' h' ps K) (xD_ok hc e K hK)
      | 4, e =>
        simp only at e
        split at e
        · rename_i hall
          exact xGo_ok hc e1 (fun t' h' => WChk (flt d.b ps) h' (Wd P r t' h' (flt d.b ps) K)) (chk_ok (xD_ok hc e K hK) hall)
        · cases e
      | 5, e =>
        simp only at e
        split at e
        · rename_i hall
          exact xGo_ok hc e1 (fun t' h' => WChk (flt d.b ps) h' (Wd P r t' h' (flt d.b ps) K)) (chk_ok (xD_ok hc e K hK) hall)
        · cases e
      | 6, e => exact (by cases e)
      | k + 7, e =>
        simp only at e
        split at e
        · rename_i hall
          exact xGo_ok hc e1 (fun t' h' => WChk (flt d.b ps) h' (Wd P r t' h' (flt d.b ps) K)) (chk_ok (xD_ok hc e K hK) hall)
        · cases e
theorem xRes_ok : ∀ {l : List AR} {t : Tm} {h : HL} {vs : List Value}, xC.xRes l t h = some vs → ∀ K : List Value → Prop, K vs → resVals l t h.hp K
  | [], t, h, vs, e, K, hK => by cases e; exact hK
  | .tmp i :: r, t, h, vs, e, K, hK => by
    simp only [xC.xRes] at e
    obtain ⟨v, h1, e⟩ := xOpt_some e
    obtain ⟨us, h2, e⟩ := xOpt_some e
    cases e
    simp only [resVals]
    rw [h1]
    exact xRes_ok h2 _ hK
  | .cell1 i :: r, t, h, vs, e, K, hK => by
    simp only [xC.xRes] at e
    obtain ⟨b, off, h0, e⟩ := xPtr_some e
    obtain ⟨v, h1, e⟩ := xOpt_some e
    obtain ⟨us, h2, e⟩ := xOpt_some e
    cases e
    have h0 : tget t i = some (.pointer (some ⟨b, off, none⟩)) := h0
    simp only [resVals]
    rw [h0]
    exact ⟨_, h1, xRes_ok h2 _ hK⟩
  | .cellN z i :: r, t, h, vs, e, K, hK => by
    simp only [xC.xRes] at e
    obtain ⟨b, off, h0, e⟩ := xPtr_some e
    obtain ⟨v, h1, e⟩ := xOpt_some e
    obtain ⟨us, h2, e⟩ := xOpt_some e
    cases e
    have h0 : tget t i = some (.pointer (some ⟨b, off, none⟩)) := h0
    simp only [resVals]
    rw [h0]
    exact ⟨_, h1, xRes_ok h2 _ hK⟩

/-- A table of functions. -/
def Tab (P : Program) (fs : FuncId → Option AF) : Prop := ∀ f F, fs f = some F → cF P f F = some F ∧ okF P f = true
theorem xC_ok (hm : P.follows .mixedOrders = true) {fs : FuncId → Option AF} (hf : Tab P fs) : ∀ (n : Nat) (c : AC) (t : Tm) (h : HL) (e : AX) (t' : Tm) (h' : HL), xC fs n c t h = some (e, t', h') → ∀ Q : AX → Tm → Hp → Prop, Q e t' h'.hp → W P c t h.hp Q := by
  intro n
  induction n using Nat.strongRecOn with
  | _ n ih =>
  intro c t h e t' h' hx Q hQ
  cases n with
  | zero => cases hx
  | succ n =>
    unfold xC at hx
    have ihn := ih n (Nat.lt_succ_self n)
    extract_lets call at hx
    have hcall : CallOk P call := by
      intro f args h v h' e
      simp only [call] at e
      split at e
      · rename_i F hF
        obtain ⟨h1, h2⟩ := hf f F hF
        split at e
        · rename_i hn
          refine ⟨h2, fun Q hQ => fn_sound hm h1 (Nat.le_of_ble_eq_true hn) ?_⟩
          split at e
          · rename_i t1 h1 e1
            obtain ⟨vs, h3, e⟩ := xOpt_some e
            cases e
            exact ihn _ _ _ _ _ _ e1 _ (xRes_ok h3 _ hQ)
          · rename_i t1 h1 e1
            obtain ⟨vs, h3, e⟩ := xOpt_some e
            cases e
            exact ihn _ _ _ _ _ _ e1 _ (xRes_ok h3 _ hQ)
          · cases e
        · cases e
      · cases e
    clear_value call
    cases c <;> simp only at hx <;> simp only [W]
    case skip => cases hx; exact hQ
    case ops l =>
      split at hx
      · rename_i t1 h1 e1; cases hx; exact xOps_ok hcall e1 _ hQ
      · cases hx
    case draw l =>
      split at hx
      · rename_i t1 h1 e1; cases hx; exact xD_ok hcall e1 _ hQ
      · cases hx
    case seq x y =>
      split at hx
      · rename_i t1 h1 e1
        exact ihn _ _ _ _ _ _ e1 _ (ihn _ _ _ _ _ _ hx Q hQ)
      · rename_i hno
        refine ihn _ _ _ _ _ _ hx _ ?_
        cases e
        · exact absurd hx (hno _ _)
        · exact hQ
        · exact hQ
    case cut live x y =>
      split at hx
      · rename_i t1 h1 e1
        rw [frcT_eq] at hx
        exact ⟨fun t h => t = keep live t1 ∧ h = h1.hp, ihn _ _ _ _ _ _ e1 _ ⟨rfl, rfl⟩, fun t h ⟨h2, h3⟩ => by subst h2 h3; exact ihn _ _ _ _ _ _ hx Q hQ⟩
      · rename_i hno
        refine ⟨fun _ _ => False, ihn _ _ _ _ _ _ hx _ ?_, fun _ _ h => h.elim⟩
        cases e
        · exact absurd hx (hno _ _)
        · exact hQ
        · exact hQ
    case trim live x y =>
      split at hx
      · rename_i t1 h1 e1
        rw [frcT_eq] at hx
        exact ihn _ _ _ _ _ _ e1 _ (ihn _ _ _ _ _ _ hx Q hQ)
      · rename_i hno
        refine ihn _ _ _ _ _ _ hx _ ?_
        cases e
        · exact absurd hx (hno _ _)
        · exact hQ
        · exact hQ
    case cond c x y =>
      split at hx
      · rename_i hc; rw [hc]; exact ⟨fun _ => ihn _ _ _ _ _ _ hx Q hQ, (fun h => by cases h)⟩
      · rename_i hc; rw [hc]; exact ⟨(fun h => by cases h), fun _ => ihn _ _ _ _ _ _ hx Q hQ⟩
      · cases hx
    case block id x =>
      split at hx
      · rename_i i t1 h1 e1
        refine ihn _ _ _ _ _ _ e1 _ ?_
        split at hx
        · rename_i hb; cases hx; show (if _ then _ else _); rw [if_pos (Nat.eq_of_beq_eq_true hb)]; exact hQ
        · rename_i hb; cases hx; show (if _ then _ else _); rw [if_neg (fun h => by subst h; rw [beq_yes] at hb; cases hb)]; exact hQ
      · rename_i hno
        refine ihn _ _ _ _ _ _ hx _ ?_
        cases e
        · exact hQ
        · exact absurd hx (hno _ _ _)
        · exact hQ
    case loop live x =>
      have start : xC fs (n + 1) (.loop live x) t h = some (e, t', h') := by
        unfold xC
        exact hx
      refine ⟨fun m t1 h1 => m ≤ n + 1 ∧ ∃ t0 h0, t1 = keep live t0 ∧ h1 = h0.hp ∧ xC fs m (.loop live x) t0 h0 = some (e, t', h'), ⟨n + 1, Nat.le_refl _, t, h, rfl, rfl, start⟩, ?_⟩
      rintro m t1 h1 ⟨hm1, t0, h0, rfl, rfl, hx⟩
      match m, hm1, hx with
      | 0, _, hx => cases hx
      | m + 1, hm1, hx =>
        unfold xC at hx
        simp only [frcT_eq] at hx
        split at hx
        · rename_i t2 h2 e2
          exact ih m (by omega) _ _ _ _ _ _ e2 _ ⟨m, Nat.lt_succ_self m, by omega, t2, h2, rfl, rfl, hx⟩
        · rename_i hno
          refine ih m (by omega) _ _ _ _ _ _ hx _ ?_
          cases e
          · exact absurd hx (hno _ _)
          · exact hQ
          · exact hQ
    case exit id => cases hx; exact hQ
    case ret => cases hx; exact hQ
    case bad => cases hx
/-- A call of what is known wholly, over the empty heap. -/
def xCall (fs : FuncId → Option AF) (n : Nat) (f : FuncId) (args : List Value) : Option (Value × HL) := match fs f with
  | some F => match Nat.ble args.length F.n with
    | true => match xC fs n F.code (argsT args 0) ⟨0, [], []⟩ with
      | some (.normal, t, h) => xOpt (xC.xRes F.res t h) fun vs => some (retV vs, h)
      | some (.ret, t, h) => xOpt (xC.xRes F.res t h) fun vs => some (retV vs, h)
      | _ => none
    | false => none
  | none => none
def xIs (r : Option (Value × HL)) (v : Value) : Bool := match r with
  | some (u, _) => eqV u v
  | none => false
theorem xCall_ok (hm : P.follows .mixedOrders = true) {fs : FuncId → Option AF} (hf : Tab P fs) {n : Nat} {f : FuncId} {args : List Value} {v : Value} (e : xIs (xCall fs n f args) v = true) (ha : args.all plainV = true) (hv : plainV v = true) (h : Hp) :
    ACalls P f args h fun u h' => u = v ∧ h' = h := by
  have key : ACalls P f args Hp.nil fun u _ => u = v := by
    unfold xCall at e
    split at e
    · rename_i F hF
      obtain ⟨h1, h2⟩ := hf f F hF
      split at e
      · rename_i hn
        refine fn_sound hm h1 (Nat.le_of_ble_eq_true hn) ?_
        have hnil : (⟨0, [], []⟩ : HL).hp = Hp.nil := rfl
        split at e
        · rename_i t1 h1 e1
          unfold xIs at e
          split at e
          · rename_i u hh e2
            obtain ⟨vs, h3, e2⟩ := xOpt_some e2
            cases e2
            rw [← hnil]
            exact xC_ok hm hf _ _ _ _ _ _ _ e1 _ (xRes_ok h3 _ (eqV_eq e))
          · cases e
        · rename_i t1 h1 e1
          unfold xIs at e
          split at e
          · rename_i u hh e2
            obtain ⟨vs, h3, e2⟩ := xOpt_some e2
            cases e2
            rw [← hnil]
            exact xC_ok hm hf _ _ _ _ _ _ _ e1 _ (xRes_ok h3 _ (eqV_eq e))
          · cases e
        · cases e
      · cases e
    · cases e
  exact (key.closed ha (fun u _ hu => by rw [hu]; exact hv) h).mono fun u h' ⟨⟨_, h1⟩, h2⟩ => ⟨h1, h2⟩
/-- A function of the program, as printed. -/
def Ok (P : Program) (f : FuncId) (F : AF) : Prop := cF P f F = some F ∧ okF P f = true
def tabOf : List (Nat × AF) → FuncId → Option AF
  | [], _ => none
  | (g, F) :: r, f => match Nat.beq f g with
    | true => some F
    | false => tabOf r f
def TabL (P : Program) : List (Nat × AF) → Prop
  | [] => True
  | (g, F) :: r => Ok P g F ∧ TabL P r
theorem TabL.tab : ∀ {l : List (Nat × AF)}, TabL P l → Tab P (tabOf l)
  | [], _, f, F, h => by cases h
  | (g, G) :: r, ht, f, F, h => by
    simp only [tabOf] at h
    split at h
    · rename_i hb
      cases h
      rw [Nat.eq_of_beq_eq_true hb]
      exact ht.1
    · exact ht.2.tab f F h
theorem Ok.sound (hm : P.follows .mixedOrders = true) {f : FuncId} {F : AF} (hF : Ok P f F) {args : List Value} {h : Hp} {Q : Value → Hp → Prop} (hn : Nat.ble args.length F.n = true) (hw : WF P F args h Q) : ACalls P f args h Q :=
  fn_sound hm hF.1 (Nat.le_of_ble_eq_true hn) hw
end
end Go.Proofs.Ytbfbgkhlngkifaa.Am
