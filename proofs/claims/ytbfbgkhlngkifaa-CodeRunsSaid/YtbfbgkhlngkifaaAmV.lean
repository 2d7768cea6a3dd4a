/- Steps carried out: what is known wholly is computed. Plain theorems.
   Conditions: none. -/
import Derived.Test.YtbfbgkhlngkifaaAmU
namespace Go.Proofs.Ytbfbgkhlngkifaa.Am
open Go Go.RowKit
set_option linter.unusedVariables false
set_option linter.unusedSimpArgs false

/-! ### heaps as lists -/
def lk : List (Nat × Option Ob) → Nat → Option Ob
  | [], _ => none
  | (c, o) :: r, b => match Nat.beq b c with
    | true => o
    | false => lk r b
def updL : List (Nat × Option Ob) → Nat → Option Ob → List (Nat × Option Ob)
  | [], b, o => [(b, o)]
  | (c, o') :: r, b, o => match Nat.beq b c with
    | true => (c, o) :: r
    | false => (c, o') :: updL r b o
abbrev Ms := List (Nat × List (Value × Value))
def lkM : Ms → Nat → Option (List (Value × Value))
  | [], _ => none
  | (c, o) :: r, b => match Nat.beq b c with
    | true => some o
    | false => lkM r b
def updM : Ms → Nat → List (Value × Value) → Ms
  | [], b, o => [(b, o)]
  | (c, o') :: r, b, o => match Nat.beq b c with
    | true => (c, o) :: r
    | false => (c, o') :: updM r b o
structure HL where
  size : Nat
  obs : List (Nat × Option Ob)
  mps : Ms
def HL.hp (h : HL) : Hp := ⟨h.size, lk h.obs, lkM h.mps⟩
def HL.new (h : HL) (o : Ob) : HL := ⟨h.size + 1, (h.size, some o) :: h.obs, h.mps⟩
def HL.put (h : HL) (b : Nat) (o : Ob) : HL := ⟨h.size, updL h.obs b (some o), h.mps⟩
def HL.del (h : HL) (b : Nat) : HL := ⟨h.size, updL h.obs b none, h.mps⟩
def HL.newM (h : HL) (es : List (Value × Value)) : HL := ⟨h.size + 1, h.obs, (h.size, es) :: h.mps⟩
def HL.putM (h : HL) (b : Nat) (es : List (Value × Value)) : HL := ⟨h.size, h.obs, updM h.mps b es⟩
theorem beq_no {a b : Nat} (h : a ≠ b) : Nat.beq a b = false := by
  cases hb : Nat.beq a b
  · rfl
  · exact absurd (Nat.eq_of_beq_eq_true hb) h
theorem beq_yes (a : Nat) : Nat.beq a a = true := Nat.beq_refl a
theorem lk_upd (b : Nat) (o : Option Ob) : ∀ (l : List (Nat × Option Ob)) (x : Nat), lk (updL l b o) x = if x = b then o else lk l x
  | [], x => by
    by_cases h : x = b
    · subst h; simp only [updL, lk, beq_yes, if_true]
    · simp only [updL, lk, beq_no h, if_neg h]
  | (c, o') :: r, x => by
    by_cases hc : b = c
    · subst hc
      simp only [updL, beq_yes]
      by_cases h : x = b
      · subst h; simp only [lk, beq_yes, if_true]
      · simp only [lk, beq_no h, if_neg h]
    · simp only [updL, beq_no hc, lk]
      by_cases h : x = c
      · subst h; simp only [beq_yes, if_neg (Ne.symm hc)]
      · simp only [beq_no h]; exact lk_upd b o r x
theorem HL.hp_new (h : HL) (o : Ob) : (h.new o).hp = h.hp.new o := by
  simp only [HL.hp, HL.new, Hp.new, Hp.mk.injEq, true_and, and_true]
  funext b
  by_cases e : b = h.size
  · subst e; simp only [lk, beq_yes, if_true]
  · simp only [lk, beq_no e]; exact (if_neg e).symm
theorem HL.hp_put (h : HL) (b : Nat) (o : Ob) : (h.put b o).hp = h.hp.put b o := by
  simp only [HL.hp, HL.put, Hp.put, Hp.mk.injEq, true_and, and_true]
  funext x
  exact lk_upd b _ _ x
theorem HL.hp_del (h : HL) (b : Nat) : (h.del b).hp = h.hp.del b := by
  simp only [HL.hp, HL.del, Hp.del, Hp.mk.injEq, true_and, and_true]
  funext x
  exact lk_upd b _ _ x
theorem lk_updM (b : Nat) (o : List (Value × Value)) : ∀ (l : Ms) (x : Nat), lkM (updM l b o) x = if x = b then some o else lkM l x
  | [], x => by
    by_cases h : x = b
    · subst h; simp only [updM, lkM, beq_yes, if_true]
    · simp only [updM, lkM, beq_no h, if_neg h]
  | (c, o') :: r, x => by
    by_cases hc : b = c
    · subst hc
      simp only [updM, beq_yes]
      by_cases h : x = b
      · subst h; simp only [lkM, beq_yes, if_true]
      · simp only [lkM, beq_no h, if_neg h]
    · simp only [updM, beq_no hc, lkM]
      by_cases h : x = c
      · subst h; simp only [beq_yes, if_neg (Ne.symm hc)]
      · simp only [beq_no h]; exact lk_updM b o r x
theorem HL.hp_newM (h : HL) (o : List (Value × Value)) : (h.newM o).hp = h.hp.newM o := by
  simp only [HL.hp, HL.newM, Hp.newM, Hp.mk.injEq, true_and, and_true]
  funext b
  by_cases e : b = h.size
  · subst e; simp only [lkM, beq_yes, if_true]
  · simp only [lkM, beq_no e]; exact (if_neg e).symm
theorem HL.hp_putM (h : HL) (b : Nat) (o : List (Value × Value)) : (h.putM b o).hp = h.hp.putM b o := by
  simp only [HL.hp, HL.putM, Hp.putM, Hp.mk.injEq, true_and, and_true]
  funext x
  exact lk_updM b o _ x

/-! ### to compute at once -/
section
variable {α : Type}
def frcN (n : Nat) (k : Nat → α) : α := match n with
  | 0 => k 0
  | m + 1 => k (m + 1)
def frcL (l : List Value) (k : List Value → α) : α := match l with
  | [] => k []
  | x :: r => frcL r fun r => k (x :: r)
def frcO (o : Option Ob) (k : Option Ob → α) : α := match o with
  | none => k none
  | some ⟨cs, .ro⟩ => k (some ⟨cs, .ro⟩)
  | some ⟨cs, .own⟩ => k (some ⟨cs, .own⟩)
  | some ⟨cs, .hid z⟩ => k (some ⟨cs, .hid z⟩)
def frcB (l : List (Nat × Option Ob)) (k : List (Nat × Option Ob) → α) : α := match l with
  | [] => k []
  | (b, o) :: r => frcO o fun o => frcB r fun r => k ((b, o) :: r)
def frcA (a : Option Addr) (k : Option Addr → α) : α := match a with
  | none => k none
  | some ⟨b, o, sp⟩ => frcN b fun b => frcN o fun o => match sp with
    | none => k (some ⟨b, o, none⟩)
    | some z => frcN z fun z => k (some ⟨b, o, some z⟩)
def frcV (v : Value) (k : Value → α) : α := match v with
  | .int t (.ofNat n) => frcN n fun n => k (.int t (.ofNat n))
  | .int t (.negSucc n) => frcN n fun n => k (.int t (.negSucc n))
  | .bool true => k (.bool true)
  | .bool false => k (.bool false)
  | .pointer a => frcA a fun a => k (.pointer a)
  | .slice a l c => frcA a fun a => frcN l fun l => frcN c fun c => k (.slice a l c)
  | v => k v
def frcOV (v : Option Value) (k : Option Value → α) : α := match v with
  | none => k none
  | some v => frcV v fun v => k (some v)
def frcT (l : Tm) (k : Tm → α) : α := match l with
  | [] => k []
  | (i, v) :: r => frcOV v fun v => frcT r fun r => k ((i, v) :: r)
def frcE (l : List (Value × Value)) (k : List (Value × Value) → α) : α := match l with
  | [] => k []
  | (x, y) :: r => frcV x fun x => frcV y fun y => frcE r fun r => k ((x, y) :: r)
def frcM (l : Ms) (k : Ms → α) : α := match l with
  | [] => k []
  | (b, es) :: r => frcN b fun b => frcE es fun es => frcM r fun r => k ((b, es) :: r)
def frcH (h : HL) (k : HL → α) : α := match h with
  | ⟨s, obs, mps⟩ => frcN s fun s => frcB obs fun obs => frcM mps fun mps => k ⟨s, obs, mps⟩
def frcVL (l : List Value) (k : List Value → α) : α := match l with
  | [] => k []
  | x :: r => frcV x fun x => frcVL r fun r => k (x :: r)
theorem frcN_eq (n : Nat) (k : Nat → α) : frcN n k = k n := by cases n <;> rfl
theorem frcL_eq : ∀ (l : List Value) (k : List Value → α), frcL l k = k l
  | [], k => rfl
  | x :: r, k => frcL_eq r _
theorem frcO_eq (o : Option Ob) (k : Option Ob → α) : frcO o k = k o := by
  rcases o with _ | ⟨cs, md⟩
  · rfl
  · cases md <;> rfl
theorem frcB_eq : ∀ (l : List (Nat × Option Ob)) (k : List (Nat × Option Ob) → α), frcB l k = k l
  | [], k => rfl
  | (b, o) :: r, k => by rw [frcB, frcO_eq, frcB_eq r]
theorem frcA_eq (a : Option Addr) (k : Option Addr → α) : frcA a k = k a := by
  rcases a with _ | ⟨b, o, _ | z⟩ <;> simp only [frcA, frcN_eq]
theorem frcV_eq (v : Value) (k : Value → α) : frcV v k = k v := by
  unfold frcV
  split <;> simp only [frcN_eq, frcA_eq]
theorem frcE_eq : ∀ (l : List (Value × Value)) (k : List (Value × Value) → α), frcE l k = k l
  | [], k => rfl
  | (x, y) :: r, k => by rw [frcE, frcV_eq, frcV_eq, frcE_eq r]
theorem frcM_eq : ∀ (l : Ms) (k : Ms → α), frcM l k = k l
  | [], k => rfl
  | (b, es) :: r, k => by rw [frcM, frcN_eq, frcE_eq, frcM_eq r]
theorem frcH_eq (h : HL) (k : HL → α) : frcH h k = k h := by
  obtain ⟨s, obs, mps⟩ := h
  simp only [frcH, frcN_eq, frcB_eq, frcM_eq]
theorem frcOV_eq (v : Option Value) (k : Option Value → α) : frcOV v k = k v := by
  cases v <;> simp only [frcOV, frcV_eq]
theorem frcT_eq : ∀ (l : Tm) (k : Tm → α), frcT l k = k l
  | [], k => rfl
  | (i, v) :: r, k => by rw [frcT, frcOV_eq, frcT_eq r]
theorem frcVL_eq : ∀ (l : List Value) (k : List Value → α), frcVL l k = k l
  | [], k => rfl
  | x :: r, k => by rw [frcVL, frcV_eq, frcVL_eq r]
end

/-! ### steps -/
abbrev XR := Option (Option Value × HL)
def xInt (op : BinOp) (k : IntKind) (a b : Int) : Option Value := match op with
  | .add => some (.int k (k.wrap (a + b)))
  | .sub => some (.int k (k.wrap (a - b)))
  | .mul => some (.int k (k.wrap (a * b)))
  | .quo => if b = 0 then none else some (.int k (k.wrap (a.tdiv b)))
  | .rem => if b = 0 then none else some (.int k (a.tmod b))
  | .and => some (.int k (k.wrap (BitVec.ofInt k.bits a &&& BitVec.ofInt k.bits b).toNat))
  | .or => some (.int k (k.wrap (BitVec.ofInt k.bits a ||| BitVec.ofInt k.bits b).toNat))
  | .xor => some (.int k (k.wrap (BitVec.ofInt k.bits a ^^^ BitVec.ofInt k.bits b).toNat))
  | .andNot => some (.int k (k.wrap (BitVec.ofInt k.bits a &&& ~~~(BitVec.ofInt k.bits b)).toNat))
  | .eql => some (.bool (a == b))
  | .neq => some (.bool (a != b))
  | .lss => some (.bool (decide (a < b)))
  | .leq => some (.bool (decide (a ≤ b)))
  | .gtr => some (.bool (decide (a > b)))
  | .geq => some (.bool (decide (a ≥ b)))
  | .shl | .shr => none
theorem xInt_ok {op : BinOp} {k : IntKind} {a b : Int} {v : Value} (h : xInt op k a b = some v) (K : Value → Prop) (hK : K v) : intBin op k a b K := by
  cases op <;> simp only [xInt, intBin] at h ⊢
  case quo =>
    split at h
    · cases h
    · cases h; exact ⟨by assumption, hK⟩
  case rem =>
    split at h
    · cases h
    · cases h; exact ⟨by assumption, hK⟩
  all_goals (first | (cases h; done) | (cases h; exact hK))
def eqB : List UInt8 → List UInt8 → Bool
  | [], [] => true
  | a :: r, b :: s => match Nat.beq a.toNat b.toNat with
    | true => eqB r s
    | false => false
  | _, _ => false
theorem eqB_eq : ∀ (a b : List UInt8), eqB a b = (a == b)
  | [], [] => rfl
  | [], _ :: _ => rfl
  | _ :: _, [] => rfl
  | a :: r, b :: s => by
    simp only [eqB, List.cons_beq_cons]
    by_cases h : a = b
    · subst h; simp only [beq_yes, eqB_eq r s, beq_self_eq_true, Bool.true_and]
    · have h2 : a.toNat ≠ b.toNat := fun e => h (UInt8.toNat_inj.1 e)
      have h3 : (a == b) = false := by simpa using h
      simp only [beq_no h2, h3, Bool.false_and]
theorem loop_toList (s : ByteArray) : ∀ (n i : Nat) (r : List UInt8), n = s.size - i → ByteArray.toList.loop s i r = r.reverse ++ s.data.toList.drop i
  | 0, i, r, h => by
    rw [ByteArray.toList.loop, if_neg (by omega), List.drop_eq_nil_of_le (by rw [Array.length_toList]; exact Nat.le_of_sub_eq_zero h.symm), List.append_nil]
  | n + 1, i, r, h => by
    have hi : i < s.size := by omega
    have hl : i < s.data.toList.length := by rw [Array.length_toList]; exact hi
    rw [ByteArray.toList.loop, if_pos hi, loop_toList s n (i + 1) _ (by omega), List.drop_eq_getElem_cons hl, List.reverse_cons, List.append_assoc]
    congr 1
    simp only [List.singleton_append, List.cons.injEq, and_true]
    have : s.get! i = s.data[i]! := rfl
    rw [this, getElem!_pos s.data i hi, Array.getElem_toList]
theorem bytes_toList (s : ByteArray) : s.toList = s.data.toList := by
  rw [ByteArray.toList, loop_toList s _ 0 [] rfl]
  rfl
def xStr (op : BinOp) (x y : ByteArray) : Option Value := match op with
  | .add => if x.size + y.size ≤ 140737488351232 then some (.string (x ++ y)) else none
  | .eql => some (.bool (eqB x.data.toList y.data.toList))
  | .neq => some (.bool !(eqB x.data.toList y.data.toList))
  | _ => none
theorem xStr_ok {op : BinOp} {x y : ByteArray} {v : Value} (h : xStr op x y = some v) (K : Value → Prop) (hK : K v) : strBin op x y K := by
  cases op <;> simp only [xStr, strBin, bytes_toList, eqB_eq] at h ⊢
  case add =>
    split at h
    · cases h; exact ⟨by assumption, hK⟩
    · cases h
  all_goals (first | (cases h; done) | (cases h; exact hK))
def xBin (op : BinOp) (x y : Value) : Option Value := match x, y with
  | .int k a, .int k' b => match op with
    | .shl => if 0 ≤ b then some (.int k (k.wrap (a * 2 ^ min b.toNat k.bits))) else none
    | .shr => if 0 ≤ b then some (.int k (a.fdiv (2 ^ min b.toNat k.bits))) else none
    | _ => if k = k' then xInt op k a b else none
  | .string a, .string b => xStr op a b
  | _, _ => none
theorem xBin_ok {op : BinOp} {x y v : Value} (h : xBin op x y = some v) (K : Value → Prop) (hK : K v) : binK op x y K := by
  unfold xBin at h
  unfold binK
  split at h
  · cases op <;> simp only at h ⊢ <;> split at h <;> first | (cases h; done) | exact ⟨by assumption, xInt_ok h K hK⟩ | (cases h; exact ⟨by assumption, hK⟩)
  · exact xStr_ok h K hK
  · cases h
def xOpt {α β : Type} (x : Option α) (k : α → Option β) : Option β := match x with
  | some a => k a
  | none => none
theorem xOpt_some {α β : Type} {x : Option α} {k : α → Option β} {b : β} (h : xOpt x k = some b) : ∃ a, x = some a ∧ k a = some b := by
  cases x with
  | none => cases h
  | some a => exact ⟨a, rfl, h⟩
def xIf {β : Type} (c : Prop) [Decidable c] (k : Option β) : Option β := if c then k else none
theorem xIf_some {β : Type} {c : Prop} [Decidable c] {k : Option β} {b : β} (h : xIf c k = some b) : c ∧ k = some b := by
  unfold xIf at h
  split at h
  · exact ⟨by assumption, h⟩
  · cases h
def xBnds (len cap : Nat) (lo hi mx : Option Value) : Option (Nat × Nat × Nat) := match lo, hi, mx with
  | none, none, none => some (0, len, cap)
  | some (.int _ l), none, none => xIf (0 ≤ l ∧ l ≤ len) (some (l.toNat, len, cap))
  | none, some (.int _ u), none => xIf (0 ≤ u ∧ u ≤ cap) (some (0, u.toNat, cap))
  | some (.int _ l), some (.int _ u), none => xIf (0 ≤ l ∧ l ≤ u ∧ u ≤ cap) (some (l.toNat, u.toNat, cap))
  | none, some (.int _ u), some (.int _ m) => xIf (0 ≤ u ∧ u ≤ m ∧ m ≤ cap) (some (0, u.toNat, m.toNat))
  | some (.int _ l), some (.int _ u), some (.int _ m) => xIf (0 ≤ l ∧ l ≤ u ∧ u ≤ m ∧ m ≤ cap) (some (l.toNat, u.toNat, m.toNat))
  | _, _, _ => none
theorem xBnds_ok {len cap : Nat} {lo hi mx : Option Value} {r : Nat × Nat × Nat} (h : xBnds len cap lo hi mx = some r) (K : Nat → Nat → Nat → Prop) (hK : K r.1 r.2.1 r.2.2) : bnds len cap lo hi mx K := by
  unfold xBnds at h
  unfold bnds
  split at h
  · cases h; exact hK
  · obtain ⟨h1, h2⟩ := xIf_some h; cases h2; exact ⟨h1, hK⟩
  · obtain ⟨h1, h2⟩ := xIf_some h; cases h2; exact ⟨h1, hK⟩
  · obtain ⟨h1, h2⟩ := xIf_some h; cases h2; exact ⟨h1, hK⟩
  · obtain ⟨h1, h2⟩ := xIf_some h; cases h2; exact ⟨h1, hK⟩
  · obtain ⟨h1, h2⟩ := xIf_some h; cases h2; exact ⟨h1, hK⟩
  · cases h
def isRo : Md → Bool
  | .ro => true
  | _ => false
theorem isRo_no {m : Md} (h : isRo m = false) : m ≠ .ro := by intro e; subst e; cases h
def xApp (z bytes : Nat) (s : Value) (m : Nat) (cs : List Value) (h : HL) : XR := match s with
  | .slice none 0 0 => match m with
    | 0 => some (some (.slice none 0 0), h)
    | m + 1 => xIf (bytes * (m + 1) ≤ 140737488355328) (some (some (.slice (some ⟨h.size, 0, some 0⟩) (m + 1) (m + 1)), h.new ⟨cs, .hid z⟩))
  | .slice (some ⟨b, off, sp⟩) ln cap => match Nat.ble (ln + m) cap with
    | true => match m with
      | 0 => some (some (.slice (some ⟨b, off, sp⟩) ln cap), h)
      | m + 1 => xIf (flagOk sp = true) (xOpt (h.hp.get b) fun o => xIf (isRo o.md = false ∧ off + (ln + (m + 1)) * z ≤ o.cs.length) (some (some (.slice (some ⟨b, off, sp⟩) (ln + (m + 1)) cap), h.put b ⟨spl o.cs (off + ln * z) cs, o.md⟩)))
    | false => xIf (bytes * (ln + m) ≤ 140737488355328) (xOpt (h.hp.rdN b off (ln * z)) fun old => match sp with
      | none => some (some (.slice (some ⟨h.size, 0, some 0⟩) (ln + m) (ln + m)), h.new ⟨old ++ cs, .hid z⟩)
      | some 0 => xOpt (h.hp.get b) fun o => xIf (o.md = .hid z ∧ off + cap * z ≤ o.cs.length) (some (some (.slice (some ⟨h.size, 0, some 0⟩) (ln + m) (ln + m)), (h.del b).new ⟨old ++ cs, .hid z⟩))
      | some (_ + 1) => none)
  | _ => none
theorem xApp_ok {z bytes : Nat} {s : Value} {m : Nat} {cs : List Value} {h h' : HL} {v : Option Value} (e : xApp z bytes s m cs h = some (v, h')) (K : Option Value → Hp → Prop) (hK : K v h'.hp) : appA z bytes s m cs h.hp K := by
  unfold xApp at e
  unfold appA
  split at e
  · split at e
    · cases e; exact hK
    · obtain ⟨h1, h2⟩ := xIf_some e
      cases h2
      rw [HL.hp_new] at hK
      show (if _ then _ else _)
      rw [if_neg (by omega)]
      exact ⟨h1, hK⟩
  · split at e
    · rename_i hb
      have hb := Nat.le_of_ble_eq_true hb
      show (if _ then _ else _)
      rw [if_pos hb]
      split at e
      · cases e
        rw [if_pos rfl]
        exact hK
      · obtain ⟨h1, h2⟩ := xIf_some e
        obtain ⟨o, h3, h4⟩ := xOpt_some h2
        obtain ⟨h5, h6⟩ := xIf_some h4
        cases h6
        rw [HL.hp_put] at hK
        rw [if_neg (by omega)]
        exact ⟨h1, o, h3, isRo_no h5.1, h5.2, hK⟩
    · rename_i hb
      have hb : ¬ (_ ≤ _) := fun h => by rw [Nat.ble_eq_true_of_le h] at hb; cases hb
      show (if _ then _ else _)
      rw [if_neg hb]
      obtain ⟨h1, h2⟩ := xIf_some e
      obtain ⟨old, h3, h4⟩ := xOpt_some h2
      refine ⟨h1, old, h3, ?_⟩
      split at h4
      · cases h4
        rw [HL.hp_new] at hK
        exact hK
      · obtain ⟨o, h5, h6⟩ := xOpt_some h4
        obtain ⟨h7, h8⟩ := xIf_some h6
        cases h8
        rw [HL.hp_new, HL.hp_del] at hK
        exact ⟨o, h5, h7.1, h7.2, hK⟩
      · cases h4
  · cases e
end Go.Proofs.Ytbfbgkhlngkifaa.Am
