/- Steps in words for simp: what is to be shown of code, one operation after another. Plain theorems.
   Conditions: none. -/
import Derived.Test.YtbfbgkhlngkifaaAmX
namespace Go.Proofs.Ytbfbgkhlngkifaa.Am
open Go Go.RowKit
set_option linter.unusedVariables false
set_option linter.unusedSimpArgs false

/-- Behind a part of code. -/
def Qs (k : Tm → Hp → Prop) (Q : AX → Tm → Hp → Prop) : AX → Tm → Hp → Prop
  | .normal, t, h => k t h
  | .exit i, t, h => Q (.exit i) t h
  | .ret, t, h => Q .ret t h
/-- Behind a block. -/
def Qb (id : Nat) (Q : AX → Tm → Hp → Prop) : AX → Tm → Hp → Prop
  | .normal, t, h => Q .normal t h
  | .exit i, t, h => match Nat.beq i id with
    | true => Q .normal t h
    | false => Q (.exit i) t h
  | .ret, t, h => Q .ret t h
/-- Behind a round of a loop. -/
def Ql (live : List Nat) (J : Tm → Hp → Prop) (Q : AX → Tm → Hp → Prop) : AX → Tm → Hp → Prop
  | .normal, t, h => J (keep live t) h
  | .exit i, t, h => Q (.exit i) t h
  | .ret, t, h => Q .ret t h
/-- Behind a function's code. -/
def Qf (res : List AR) (Q : Value → Hp → Prop) : AX → Tm → Hp → Prop
  | .normal, t, h => resVals res t h fun vs => Q (retV vs) h
  | .exit _, _, _ => False
  | .ret, t, h => resVals res t h fun vs => Q (retV vs) h
section
variable {P : Program} {t : Tm} {h : Hp} {Q : AX → Tm → Hp → Prop} {K : Tm → Hp → Prop}
theorem W_seq {x y : AC} : W P (.seq x y) t h Q = W P x t h (Qs (fun t h => W P y t h Q) Q) := by
  rw [W]; congr 1; funext e t h; cases e <;> rfl
theorem W_cut {live : List Nat} {x y : AC} : W P (.cut live x y) t h Q = ∃ M : Tm → Hp → Prop, W P x t h (Qs (fun t h => M (keep live t) h) Q) ∧ ∀ t h, M t h → W P y t h Q := by
  rw [W]; congr 1; funext M; congr 2; funext e t h; cases e <;> rfl
theorem W_block {id : Nat} {x : AC} : W P (.block id x) t h Q = W P x t h (Qb id Q) := by
  rw [W]; congr 1; funext e t h
  cases e with
  | exit i =>
    simp only [Qb]
    by_cases e : i = id
    · subst e; rw [if_pos rfl, beq_yes]
    · rw [if_neg e, beq_no e]
  | _ => rfl
theorem W_loop {live : List Nat} {x : AC} : W P (.loop live x) t h Q = ∃ J : Nat → Tm → Hp → Prop, (∃ n, J n (keep live t) h) ∧ ∀ n t h, J n t h → W P x t h (Ql live (fun t h => ∃ m, m < n ∧ J m t h) Q) := by
  rw [W]; congr 1; funext J; congr 1; exact forall_congr fun n => forall_congr fun t => forall_congr fun h => forall_congr fun _ => (by congr 1; funext e t h; cases e <;> rfl)
theorem WF_eq {F : AF} {args : List Value} {Q : Value → Hp → Prop} : WF P F args h Q = W P F.code (argsT args 0) h (Qf F.res Q) := by
  rw [WF]; congr 1; funext e t h; cases e <;> rfl
theorem W_cond {c : Operand} {x y : AC} : W P (.cond c x y) t h Q = match ev t c with
    | some (.bool b) => (b = true → W P x t h Q) ∧ (b = false → W P y t h Q)
    | _ => False := rfl
theorem W_skip : W P .skip t h Q = Q .normal t h := rfl
theorem W_ops {l : List AO} : W P (.ops l) t h Q = Wops P l t h (Q .normal) := rfl
theorem W_draw {l : List DO} : W P (.draw l) t h Q = Wd P l (forget l t) h [] (Q .normal) := rfl
theorem W_exit {id : Nat} : W P (.exit id) t h Q = Q (.exit id) t h := rfl
theorem W_ret : W P .ret t h Q = Q .ret t h := rfl
theorem Qs_n {k : Tm → Hp → Prop} : Qs k Q .normal t h = k t h := rfl
theorem Qs_n' {k : Tm → Hp → Prop} : Qs k Q .normal = k := rfl
theorem Qs_e {k : Tm → Hp → Prop} {i : Nat} : Qs k Q (.exit i) t h = Q (.exit i) t h := rfl
theorem Qs_r {k : Tm → Hp → Prop} : Qs k Q .ret t h = Q .ret t h := rfl
theorem Qb_n {id : Nat} : Qb id Q .normal t h = Q .normal t h := rfl
theorem Qb_n' {id : Nat} : Qb id Q .normal = Q .normal := rfl
theorem Qb_e {id i : Nat} : Qb id Q (.exit i) t h = match Nat.beq i id with
    | true => Q .normal t h
    | false => Q (.exit i) t h := rfl
theorem Qb_r {id : Nat} : Qb id Q .ret t h = Q .ret t h := rfl
theorem Ql_n {live : List Nat} {J : Tm → Hp → Prop} : Ql live J Q .normal t h = J (keep live t) h := rfl
theorem Ql_n' {live : List Nat} {J : Tm → Hp → Prop} : Ql live J Q .normal = fun t h => J (keep live t) h := rfl
theorem Ql_e {live : List Nat} {J : Tm → Hp → Prop} {i : Nat} : Ql live J Q (.exit i) t h = Q (.exit i) t h := rfl
theorem Ql_r {live : List Nat} {J : Tm → Hp → Prop} : Ql live J Q .ret t h = Q .ret t h := rfl
theorem Qf_n {res : List AR} {Q : Value → Hp → Prop} : Qf res Q .normal t h = resVals res t h fun vs => Q (retV vs) h := rfl
theorem Qf_n' {res : List AR} {Q : Value → Hp → Prop} : Qf res Q .normal = fun t h => resVals res t h fun vs => Q (retV vs) h := rfl
theorem Qf_e {res : List AR} {Q : Value → Hp → Prop} {i : Nat} : Qf res Q (.exit i) t h = False := rfl
theorem Qf_r {res : List AR} {Q : Value → Hp → Prop} : Qf res Q .ret t h = resVals res t h fun vs => Q (retV vs) h := rfl
theorem Wops_nil : Wops P [] t h K = K t h := rfl

/-- Equal numbers: a word of its own, so that nothing is rewritten by it before its time. -/
def EqI (a b : Int) : Prop := a = b
instance (a b : Int) : Decidable (EqI a b) := inferInstanceAs (Decidable (a = b))
/-- To be simplified before what follows. -/
structure Tag {α : Type} (a : α) : Type where
/-- Either way, by a bit. -/
def cnd (c : Bool) (A B : Prop) (_ : Tag (A, B) := ⟨⟩) : Prop := (c = true → A) ∧ (c = false → B)
theorem cnd_t {A B : Prop} {g : Tag (A, B)} : cnd true A B g = A := by simp [cnd]
theorem cnd_f {A B : Prop} {g : Tag (A, B)} : cnd false A B g = B := by simp [cnd]
def frc {α : Type} (l : α) (k : α → Prop) (_ : Tag k := ⟨⟩) : Prop := k l
def CallT (P : Program) (f : FuncId) (args : List Value) (h : Hp) (Q : Value → Hp → Prop) (_ : Tag Q) : Prop := ACalls P f args h Q
/-- A loop that is to be shown. -/
def WL (P : Program) (live : List Nat) (x : AC) (t : Tm) (h : Hp) (Q : AX → Tm → Hp → Prop) (_ : Tag (live, x, Q)) : Prop :=
  ∃ J : Nat → Tm → Hp → Prop, (∃ n, J n t h) ∧ ∀ n t h, J n t h → W P x t h (Ql live (fun t h => ∃ m, m < n ∧ J m t h) Q)
/-- A joint that is to be shown. -/
def WC (P : Program) (live : List Nat) (x y : AC) (t : Tm) (h : Hp) (Q : AX → Tm → Hp → Prop) (_ : Tag (live, x, y, Q)) : Prop :=
  ∃ M : Tm → Hp → Prop, W P x t h (Qs (fun t h => M (keep live t) h) Q) ∧ ∀ t h, M t h → W P y t h Q
theorem WL.mk {P : Program} {live : List Nat} {x : AC} {t : Tm} {h : Hp} {Q : AX → Tm → Hp → Prop} {g : Tag (live, x, Q)} (J : Nat → Tm → Hp → Prop) (h0 : ∃ n, J n t h)
    (hr : ∀ n t h, J n t h → W P x t h (Ql live (fun t h => ∃ m, m < n ∧ J m t h) Q)) : WL P live x t h Q g := ⟨J, h0, hr⟩
theorem WC.mk {P : Program} {live : List Nat} {x y : AC} {t : Tm} {h : Hp} {Q : AX → Tm → Hp → Prop} {g : Tag (live, x, y, Q)} (M : Tm → Hp → Prop) (h0 : W P x t h (Qs (fun t h => M (keep live t) h) Q))
    (hr : ∀ t h, M t h → W P y t h Q) : WC P live x y t h Q g := ⟨M, h0, hr⟩
theorem W_condT {c : Operand} {x y : AC} : W P (.cond c x y) t h Q = match ev t c with
    | some (.bool b) => cnd b (W P x t h Q) (W P y t h Q)
    | _ => False := rfl
theorem W_bad : W P .bad t h Q = False := rfl
theorem W_trim {live : List Nat} {x y : AC} : W P (.trim live x y) t h Q = W P x t h (Qs (fun t h => frc (keep live t) fun t => W P y t h Q) Q) := by
  rw [W]; congr 1; funext e t h; cases e <;> rfl
theorem W_loopT {live : List Nat} {x : AC} : W P (.loop live x) t h Q = WL P live x (keep live t) h Q ⟨⟩ := W_loop
theorem W_cutT {live : List Nat} {x y : AC} : W P (.cut live x y) t h Q = WC P live x y t h Q ⟨⟩ := W_cut
def lenIs : List Value → Nat → Bool
  | [], 0 => true
  | _ :: l, n + 1 => lenIs l n
  | _, _ => false
def leIs : Nat → List Value → Bool
  | 0, _ => true
  | n + 1, _ :: l => leIs n l
  | _ + 1, [] => false
theorem lenIs_eq : ∀ (l : List Value) (n : Nat), lenIs l n = Nat.beq l.length n
  | [], 0 => rfl
  | [], _ + 1 => rfl
  | _ :: _, 0 => rfl
  | _ :: l, n + 1 => by simp only [lenIs, List.length_cons, Nat.beq, lenIs_eq l n]
theorem leIs_eq : ∀ (n : Nat) (l : List Value), leIs n l = Nat.ble n l.length
  | 0, l => by simp [leIs]
  | n + 1, [] => rfl
  | n + 1, _ :: l => by simp only [leIs, List.length_cons, Nat.ble, leIs_eq n l]
theorem ite_beq {u v : Nat} {A B : Prop} : (if u = v then A else B) = (match Nat.beq u v with | true => A | false => B) := by
  by_cases h : u = v
  · subst h; rw [if_pos rfl, show Nat.beq u u = true from Nat.beq_refl u]
  · rw [if_neg h, beq_no h]
/-- A look into a map. -/
def LkT (h : Hp) (mb : Option Nat) (ka : Bool) (sh : List Nat) (kv z : Value) (K : Value → Bool → Prop) (_ : Tag K) : Prop :=
  eqKey ka sh kv kv = some true ∧ ∃ es, h.mof mb = some es ∧ ∃ r, mfind ka sh kv es 0 = some r ∧ K (mval es z r).1 (mval es z r).2
/-- A write into a map. -/
def UpT (h : Hp) (b : Nat) (ka : Bool) (sh : List Nat) (kv v : Value) (K : Hp → Prop) (_ : Tag K) : Prop :=
  eqKey ka sh kv kv = some true ∧ ∃ es, h.mp b = some es ∧ ∃ r, mfind ka sh kv es 0 = some r ∧ K (h.putM b (mset es kv v r))
theorem lkV_t {v : Value} {b : Bool} : lkV true (v, b) = .tuple #[v, .bool b] := rfl
theorem lkV_f {v : Value} {b : Bool} : lkV false (v, b) = v := rfl
theorem mkZ_t {z : List Value} : mkZ true z = .agg z.toArray := rfl
theorem mkZ_f {z : Value} : mkZ false [z] = z := rfl
theorem findR_c {t f ty : Nat} {r : List (Nat × Nat)} : findR ((t, f) :: r) ty = match Nat.beq ty t with
    | true => some f
    | false => findR r ty := rfl
theorem findR_n {ty : Nat} : findR [] ty = none := rfl
theorem lenIs_0 : lenIs [] 0 = true := rfl
theorem lenIs_S {a : Value} {l : List Value} {n : Nat} : lenIs (a :: l) (n + 1) = lenIs l n := rfl
theorem leIs_0 {l : List Value} : leIs 0 l = true := by cases l <;> rfl
theorem leIs_S {a : Value} {l : List Value} {n : Nat} : leIs (n + 1) (a :: l) = leIs n l := rfl
theorem lenIs_p {l : List Value} {n : Nat} : (l.length = n) = (lenIs l n = true) := by rw [lenIs_eq]; exact propext ⟨fun h => by rw [h]; exact Nat.beq_refl _, Nat.eq_of_beq_eq_true⟩
theorem leIs_p {l : List Value} {n : Nat} : (n ≤ l.length) = (leIs n l = true) := by rw [leIs_eq]; exact propext ⟨Nat.ble_eq_true_of_le, Nat.le_of_ble_eq_true⟩
theorem spl_00 {l : List Value} : spl l 0 [] = l := by simp [spl]
theorem spl_0 {a v : Value} {l vs : List Value} : spl (a :: l) 0 (v :: vs) = v :: spl l 0 vs := by simp [spl]
theorem spl_S {a : Value} {l vs : List Value} {n : Nat} : spl (a :: l) (n + 1) vs = a :: spl l n vs := by simp [spl, Nat.add_right_comm]
def appV (z bytes : Nat) (s : Value) (m : Nat) (cs : List Value) (h : Hp) (K : Value → Hp → Prop) (_ : Tag K := ⟨⟩) : Prop := appA z bytes s m cs h fun v h => match v with
  | some v => K v h
  | none => False
theorem appA_V {z bytes m : Nat} {s : Value} {cs : List Value} {h : Hp} {K : Option Value → Hp → Prop} : appA z bytes s m cs h K = appV z bytes s m cs h fun v h => K (some v) h := by
  unfold appV appA
  split
  · rfl
  · split
    · split <;> rfl
    · rfl
  · rfl
theorem decT : decide True = true := rfl
theorem decF : decide False = false := rfl
def ifS {α : Type} (x : Option α) (k : α → Prop) (_ : Tag k := ⟨⟩) : Prop := match x with
  | some v => k v
  | none => False
theorem ifS_some {α : Type} {v : α} {k : α → Prop} {g : Tag k} : ifS (some v) k g = k v := rfl
theorem ifS_none {α : Type} {k : α → Prop} {g : Tag k} : ifS none k g = False := rfl
theorem ex_some {α : Type} {x : Option α} {K : α → Prop} : (∃ v, x = some v ∧ K v) = ifS x K := by
  cases x <;> simp [ifS]
theorem Wops_cons {o : AO} {r : List AO} : Wops P (o :: r) t h K = o.go P t h (fun t h => Wops P r t h K) := rfl
theorem Wd_nil {ps : List Pd} : Wd P [] t h ps K = K t h := rfl
theorem Wd_0 {i b : Nat} {o : AO} {r : List DO} {ps : List Pd} : Wd P (⟨i, 0, b, o⟩ :: r) t h ps K = o.go P t h (fun t h => Wd P r t h ps K) := rfl
theorem Wd_1 {i b d : Nat} {g : Option (Nat × Bool)} {x : Operand} {r : List DO} {ps : List Pd} : Wd P (⟨i, 1, b, ⟨some d, g, .ld1 x⟩⟩ :: r) t h ps K = AO.go P ⟨some d, g, .ld1 x⟩ t h (fun t' h => frc (pdOf ⟨i, 1, b, ⟨some d, g, .ld1 x⟩⟩ t t' ++ ps) fun ps => Wd P r t' h ps K) := rfl
theorem Wd_1N {i b d z : Nat} {g : Option (Nat × Bool)} {x : Operand} {r : List DO} {ps : List Pd} : Wd P (⟨i, 1, b, ⟨some d, g, .ldN z x⟩⟩ :: r) t h ps K = AO.go P ⟨some d, g, .ldN z x⟩ t h (fun t' h => frc (pdOf ⟨i, 1, b, ⟨some d, g, .ldN z x⟩⟩ t t' ++ ps) fun ps => Wd P r t' h ps K) := rfl
theorem Wd_2 {i b : Nat} {o : AO} {r : List DO} {ps : List Pd} : Wd P (⟨i, 2, b, o⟩ :: r) t h ps K = o.go P t h (fun t h => frc (flt b ps) fun ps => Wd P r t h ps K) := rfl
theorem Wd_3 {i b : Nat} {o : AO} {r : List DO} {ps : List Pd} : Wd P (⟨i, 3, b, o⟩ :: r) t h ps K = o.go P t h (fun t h => Wd P r t h ps K) := rfl
theorem PR_nil : PR [] t = True := rfl
theorem PR_0 {i b : Nat} {o : AO} {r : List DO} : PR (⟨i, 0, b, o⟩ :: r) t = PR r t := rfl
theorem PR_1 {i b : Nat} {o : AO} {r : List DO} : PR (⟨i, 1, b, o⟩ :: r) t = PR r t := rfl
theorem PR_2 {i b : Nat} {o : AO} {r : List DO} : PR (⟨i, 2, b, o⟩ :: r) t = PR r t := rfl
theorem PR_4 {i b : Nat} {o : AO} {r : List DO} : PR (⟨i, 4, b, o⟩ :: r) t = PR r t := rfl
theorem PR_6 {i b : Nat} {o : AO} {r : List DO} : PR (⟨i, 6, b, o⟩ :: r) t = PR r t := rfl
theorem PR_3b {i b m : Nat} {d : Option Nat} {g : Option (Nat × Bool)} {z : List Value} {qs : List (Nat × Nat × Operand)} {r : List DO} : PR (⟨i, 3, b, ⟨d, g, .bslice z m qs⟩⟩ :: r) t = ((match fillA t z qs with | some cs => frc cs fun _ => True | none => False) ∧ PR r t) := rfl
theorem PR_3a {i b : Nat} {d : Option Nat} {g : Option (Nat × Bool)} {z : List Value} {r : List DO} : PR (⟨i, 3, b, ⟨d, g, .alloc z⟩⟩ :: r) t = (True ∧ PR r t) := rfl
theorem Wd_6 {i b : Nat} {o : AO} {r : List DO} {ps : List Pd} : Wd P (⟨i, 6, b, o⟩ :: r) t h ps K = (PR r t ∧ o.go P t h (fun t h => frc (flt b ps) fun ps => WChk ps h (Wd P r t h ps K))) := rfl
theorem Wd_4 {i b : Nat} {o : AO} {r : List DO} {ps : List Pd} : Wd P (⟨i, 4, b, o⟩ :: r) t h ps K = o.go P t h (fun t h => frc (flt b ps) fun ps => WChk ps h (Wd P r t h ps K)) := rfl
theorem WChk_nil {X : Prop} : WChk [] h X = X := rfl
theorem WChk_1 {i b off : Nat} {v : Value} {r : List Pd} {X : Prop} : WChk (⟨i, .pointer (some ⟨b, off, none⟩), none, v⟩ :: r) h X = (h.rd b off = some v ∧ WChk r h X) := rfl
theorem WChk_N {i b off z : Nat} {v : Value} {r : List Pd} {X : Prop} : WChk (⟨i, .pointer (some ⟨b, off, none⟩), some z, v⟩ :: r) h X = ((∃ cs, h.rdN b off z = some cs ∧ v = .agg cs.toArray) ∧ WChk r h X) := rfl
theorem pd_1 {i b d : Nat} {g : Option (Nat × Bool)} {x : Operand} {v : Value} {t0 : Tm} : pdOf ⟨i, 1, b, ⟨some d, g, .ld1 x⟩⟩ t ((d, some v) :: t0) = match ev t x with
    | some ad => [⟨i, ad, none, v⟩]
    | none => [] := by
  simp only [pdOf, tget, beq_yes]
  cases ev t x <;> rfl
theorem pd_N {i b d z : Nat} {g : Option (Nat × Bool)} {x : Operand} {v : Value} {t0 : Tm} : pdOf ⟨i, 1, b, ⟨some d, g, .ldN z x⟩⟩ t ((d, some v) :: t0) = match ev t x with
    | some ad => [⟨i, ad, some z, v⟩]
    | none => [] := by
  simp only [pdOf, tget, beq_yes]
  cases ev t x <;> rfl
theorem pd_app1 {p : Pd} {ps : List Pd} : [p] ++ ps = p :: ps := rfl
theorem pd_app0 {ps : List Pd} : [] ++ ps = ps := rfl
theorem pd_1g {i b d : Nat} {g : Option (Nat × Bool)} {x : Operand} {t0 : Tm} : pdOf ⟨i, 1, b, ⟨some d, g, .ld1 x⟩⟩ t ((d, none) :: t0) = [] := by
  simp only [pdOf, tget, beq_yes]
  split <;> first | rfl | (rename_i h; cases h)
theorem pd_Ng {i b d z : Nat} {g : Option (Nat × Bool)} {x : Operand} {t0 : Tm} : pdOf ⟨i, 1, b, ⟨some d, g, .ldN z x⟩⟩ t ((d, none) :: t0) = [] := by
  simp only [pdOf, tget, beq_yes]
  split <;> first | rfl | (rename_i h; cases h)
theorem flt_nil {b : Nat} : flt b [] = [] := rfl
theorem flt_cons {b i : Nat} {a : Value} {z : Option Nat} {v : Value} {r : List Pd} : flt b (⟨i, a, z, v⟩ :: r) = match Nat.beq (Nat.land (Nat.shiftRight b i) 1) 1 with
    | true => flt b r
    | false => ⟨i, a, z, v⟩ :: flt b r := by
  have e : Nat.beq (Nat.land (Nat.shiftRight b i) 1) 1 = b.testBit i := by
    show Nat.beq ((b >>> i) &&& 1) 1 = b.testBit i
    unfold Nat.testBit
    rw [Nat.and_comm, Nat.one_and_eq_mod_two]
    rcases Nat.mod_two_eq_zero_or_one (b >>> i) with h | h <;> rw [h] <;> rfl
  rw [e]
  simp only [flt, List.filter_cons]
  cases b.testBit i <;> rfl
theorem go_mv {d : Nat} {x : Operand} : AO.go P ⟨some d, none, .mv x⟩ t h K = (match ev t x with | some v => K ((d, some v) :: t) h | none => K ((d, none) :: t) h) := by
  simp only [AO.go, AO.run, AK.step, tput]
  cases ev t x <;> rfl
theorem go_pick {d : Nat} {c x y : Operand} : AO.go P ⟨some d, none, .pick c x y⟩ t h K = (match ev t c with | some (.bool b) => frc (if b then ev t x else ev t y) fun v => K ((d, v) :: t) h | _ => False) := rfl
theorem go_box {d : Nat} {x : Operand} : AO.go P ⟨some d, none, .box x⟩ t h K = (match ev t x with | some v => okStore v = true ∧ K ((d, some (.pointer (some ⟨h.size, 0, none⟩))) :: t) (h.new ⟨cellsOf v, .own⟩) | none => False) := rfl
theorem go_alloc {d : Nat} {z : List Value} : AO.go P ⟨some d, none, .alloc z⟩ t h K = (K ((d, some (.pointer (some ⟨h.size, 0, none⟩))) :: t) (h.new ⟨z, .own⟩)) := rfl
theorem go_build {d : Nat} {z : List Value} {ps : List (Nat × Nat × Operand)} : AO.go P ⟨some d, none, .build z ps⟩ t h K = (match fillA t z ps with | some cs => frc cs fun cs => K ((d, some (.agg cs.toArray)) :: t) h | none => False) := rfl
theorem go_bslice {d : Nat} {z : List Value} {m : Nat} {ps : List (Nat × Nat × Operand)} : AO.go P ⟨some d, none, .bslice z m ps⟩ t h K = (match fillA t z ps with | some cs => frc cs fun cs => K ((d, some (.slice (some ⟨h.size, 0, none⟩) m m)) :: t) (h.new ⟨cs, .own⟩) | none => False) := rfl
theorem go_ld1 {d : Nat} {a : Operand} : AO.go P ⟨some d, none, .ld1 a⟩ t h K = (match ev t a with | some (.pointer (some ⟨b, i, none⟩)) => ifS (h.rd b i) fun v => K ((d, some v) :: t) h | _ => False) := by
  simp only [AO.go, AO.run, AK.step, tput, ex_some, appA_V, lenIs_p, leIs_p]
  rfl
theorem go_ldN {d : Nat} {z : Nat} {a : Operand} : AO.go P ⟨some d, none, .ldN z a⟩ t h K = (match ev t a with | some (.pointer (some ⟨b, i, none⟩)) => ifS (h.rdN b i z) fun cs => K ((d, some (.agg cs.toArray)) :: t) h | _ => False) := by
  simp only [AO.go, AO.run, AK.step, tput, ex_some, appA_V, lenIs_p, leIs_p]
  rfl
theorem go_nil {d : Nat} {x : Operand} : AO.go P ⟨some d, none, .nil x⟩ t h K = (match ev t x with | some (.pointer (some a)) => K ((d, some (.pointer (some a))) :: t) h | some (.func (.func f) u v) => K ((d, some (.func (.func f) u v)) :: t) h | some (.iface ty v) => K ((d, some (.iface ty v)) :: t) h | _ => False) := rfl
theorem go_bin {d : Nat} {op : BinOp} {x y : Operand} : AO.go P ⟨some d, none, .bin op x y⟩ t h K = (match ev t x, ev t y with | some a, some b => binK op a b (fun v => K ((d, some v) :: t) h) | _, _ => False) := rfl
theorem go_shlc {d : Nat} {x : Operand} {n : Nat} : AO.go P ⟨some d, none, .shlc x n⟩ t h K = (match ev t x with | some (.int k a) => K ((d, some (.int k (k.wrap (a * 2 ^ min n k.bits)))) :: t) h | _ => False) := rfl
theorem go_shrc {d : Nat} {x : Operand} {n : Nat} : AO.go P ⟨some d, none, .shrc x n⟩ t h K = (match ev t x with | some (.int k a) => K ((d, some (.int k (a.fdiv (2 ^ min n k.bits)))) :: t) h | _ => False) := rfl
theorem go_neg {d : Nat} {x : Operand} : AO.go P ⟨some d, none, .un .neg x⟩ t h K = (match ev t x with | some (.int k a) => K ((d, some (.int k (k.wrap (0 - a)))) :: t) h | _ => False) := by
  simp only [AO.go, AO.run, AK.step, tput]
  cases ev t x with
  | none => rfl
  | some v => cases v <;> rfl
theorem go_not {d : Nat} {x : Operand} : AO.go P ⟨some d, none, .un .not x⟩ t h K = (match ev t x with | some (.bool b) => K ((d, some (.bool !b)) :: t) h | _ => False) := by
  simp only [AO.go, AO.run, AK.step, tput]
  cases ev t x with
  | none => rfl
  | some v => cases v <;> rfl
theorem go_com {d : Nat} {x : Operand} : AO.go P ⟨some d, none, .un .xor x⟩ t h K = (match ev t x with | some (.int k a) => K ((d, some (.int k (k.wrap (BitVec.ofInt k.bits (if k.signed then -1 else k.max) ^^^ BitVec.ofInt k.bits a).toNat))) :: t) h | _ => False) := by
  simp only [AO.go, AO.run, AK.step, tput]
  cases ev t x with
  | none => rfl
  | some v => cases v <;> rfl
theorem go_cvi {d : Nat} {k : IntKind} {x : Operand} : AO.go P ⟨some d, none, .cvi k x⟩ t h K = (match ev t x with | some (.int _ a) => K ((d, some (.int k (k.wrap a))) :: t) h | _ => False) := rfl
theorem go_mkif {d : Nat} {ty : TypeId} {x : Operand} : AO.go P ⟨some d, none, .mkif ty x⟩ t h K = (match ev t x with | some v => K ((d, some (.iface ty v)) :: t) h | none => False) := rfl
theorem go_mkf {d : Nat} {f : FuncId} {us vs : List Operand} : AO.go P ⟨some d, none, .mkf f us vs⟩ t h K = (match evs t us, evs t vs with | some xs, some ys => K ((d, some (.func (.func f) xs.toArray ys.toArray)) :: t) h | _, _ => False) := rfl
theorem go_mks {d : Nat} {z : List Value} {bytes : Nat} {l c : Operand} : AO.go P ⟨some d, none, .mks z bytes l c⟩ t h K = (match ev t l, ev t c with | some (.int _ n), some (.int _ m) => (0 ≤ n ∧ n ≤ m ∧ bytes * m ≤ 140737488355328 ∧ m ≤ 140737488355328) ∧ K ((d, some (.slice (some ⟨h.size, 0, none⟩) n.toNat m.toNat)) :: t) (h.new ⟨rep m.toNat z, .own⟩) | _, _ => False) := rfl
theorem go_slc {d : Nat} {z : Nat} {x : Operand} {lo hi m3 : Option Operand} : AO.go P ⟨some d, none, .slc z x lo hi m3⟩ t h K = (match ev t x, optO t lo, optO t hi, optO t m3 with | some (.slice (some ⟨b, off, sp⟩) ln cap), some l, some u, some m => flagOk sp = true ∧ capOk sp ln cap ∧ bnds ln cap l u m fun l u m' => K ((d, some (.slice (some (slAddr b off sp z l m' m.isNone)) (u - l) (m' - l))) :: t) h | some (.slice none 0 0), some l, some u, some m => bnds 0 0 l u m fun _ _ _ => K ((d, some (.slice none 0 0)) :: t) h | _, _, _, _ => False) := rfl
theorem go_slcs {d : Nat} {x : Operand} {lo hi : Option Operand} : AO.go P ⟨some d, none, .slcs x lo hi⟩ t h K = (match ev t x, optO t lo, optO t hi with | some (.string s), some l, some u => bnds s.size s.size l u none fun l u _ => K ((d, some (.string (s.extract l u))) :: t) h | _, _, _ => False) := rfl
theorem go_slca {d : Nat} {n z : Nat} {x : Operand} {lo hi m3 : Option Operand} : AO.go P ⟨some d, none, .slca n z x lo hi m3⟩ t h K = (match ev t x, optO t lo, optO t hi, optO t m3 with | some (.pointer (some ⟨b, off, none⟩)), some l, some u, some m => bnds n n l u m fun l u m' => K ((d, some (.slice (some ⟨b, if m' = l then off else off + l * z, none⟩) (u - l) (m' - l))) :: t) h | _, _, _, _ => False) := rfl
theorem go_fa {d : Nat} {off : Nat} {x : Operand} : AO.go P ⟨some d, none, .fa off x⟩ t h K = (match ev t x with | some (.pointer (some ⟨b, i, none⟩)) => K ((d, some (.pointer (some ⟨b, i + off, none⟩))) :: t) h | _ => False) := rfl
theorem go_fld1 {d : Nat} {off : Nat} {x : Operand} : AO.go P ⟨some d, none, .fld1 off x⟩ t h K = (match ev t x with | some (.agg cs) => ifS cs.toList[off]? fun v => K ((d, some v) :: t) h | _ => False) := by
  simp only [AO.go, AO.run, AK.step, tput, ex_some, appA_V, lenIs_p, leIs_p]
  rfl
theorem go_fldN {d : Nat} {off z : Nat} {x : Operand} : AO.go P ⟨some d, none, .fldN off z x⟩ t h K = (match ev t x with | some (.agg cs) => off + z ≤ cs.toList.length ∧ K ((d, some (.agg ((cs.toList.drop off).take z).toArray)) :: t) h | _ => False) := rfl
theorem go_ia {d : Nat} {z : Nat} {x i : Operand} : AO.go P ⟨some d, none, .ia z x i⟩ t h K = (match ev t x, ev t i with | some (.slice (some ⟨b, off, sp⟩) ln cap), some (.int k j) => flagOk sp = true ∧ (0 ≤ j ∧ j < ln) ∧ K ((d, some (.pointer (some ⟨b, off + j.toNat * z, none⟩))) :: t) h | _, _ => False) := rfl
theorem go_iaa {d : Nat} {n z : Nat} {x i : Operand} : AO.go P ⟨some d, none, .iaa n z x i⟩ t h K = (match ev t x, ev t i with | some (.pointer (some ⟨b, off, none⟩)), some (.int k j) => (0 ≤ j ∧ j < n) ∧ K ((d, some (.pointer (some ⟨b, off + j.toNat * z, none⟩))) :: t) h | _, _ => False) := rfl
theorem go_ixs {d : Nat} {x i : Operand} : AO.go P ⟨some d, none, .ixs x i⟩ t h K = (match ev t x, ev t i with | some (.string s), some (.int k j) => 0 ≤ j ∧ ifS s.data.toList[j.toNat]? fun b => K ((d, some (.int .u8 b.toNat)) :: t) h | _, _ => False) := by
  simp only [AO.go, AO.run, AK.step, tput, ex_some, appA_V, lenIs_p, leIs_p]
  rfl
theorem go_ixa1 {d : Nat} {n : Nat} {x i : Operand} : AO.go P ⟨some d, none, .ixa1 n x i⟩ t h K = (match ev t x, ev t i with | some (.agg cs), some (.int k j) => (0 ≤ j ∧ j < n) ∧ ifS cs.toList[j.toNat]? fun v => K ((d, some v) :: t) h | _, _ => False) := by
  simp only [AO.go, AO.run, AK.step, tput, ex_some, appA_V, lenIs_p, leIs_p]
  rfl
theorem go_ixaN {d : Nat} {n z : Nat} {x i : Operand} : AO.go P ⟨some d, none, .ixaN n z x i⟩ t h K = (match ev t x, ev t i with | some (.agg cs), some (.int k j) => (0 ≤ j ∧ j < n) ∧ j.toNat * z + z ≤ cs.toList.length ∧ K ((d, some (.agg ((cs.toList.drop (j.toNat * z)).take z).toArray)) :: t) h | _, _ => False) := rfl
theorem go_ext {d : Nat} {x : Operand} {i : Nat} : AO.go P ⟨some d, none, .ext x i⟩ t h K = (match ev t x with | some (.tuple vs) => ifS vs.toList[i]? fun v => K ((d, some v) :: t) h | _ => False) := by
  simp only [AO.go, AO.run, AK.step, tput, ex_some, appA_V, lenIs_p, leIs_p]
  rfl
theorem go_len {d : Nat} {x : Operand} : AO.go P ⟨some d, none, .len x⟩ t h K = (match ev t x with | some (.slice _ n _) => K ((d, some (.int .i64 n)) :: t) h | _ => False) := rfl
theorem go_lens {d : Nat} {x : Operand} : AO.go P ⟨some d, none, .lens x⟩ t h K = (match ev t x with | some (.string s) => K ((d, some (.int .i64 s.size)) :: t) h | _ => False) := rfl
theorem go_app {d : Nat} {z bytes : Nat} {s x : Operand} : AO.go P ⟨some d, none, .app z bytes s x⟩ t h K = (match ev t s, ev t x with | some sv, some (.slice xa m xc) => ifS (h.src z (.slice xa m xc)) fun cs => appV z bytes sv m cs h (fun v h => K ((d, some v) :: t) h) | _, _ => False) := by
  simp only [AO.go, AO.run, AK.step, tput, ex_some, appA_V, lenIs_p, leIs_p]
  rfl
theorem go_apps {d : Nat} {s x : Operand} : AO.go P ⟨some d, none, .apps s x⟩ t h K = (match ev t s, ev t x with | some sv, some (.string str) => appV 1 1 sv str.size (str.data.toList.map fun b => .int .u8 b.toNat) h (fun v h => K ((d, some v) :: t) h) | _, _ => False) := by
  simp only [AO.go, AO.run, AK.step, tput, ex_some, appA_V, lenIs_p, leIs_p]
  rfl
theorem go_cpy {d : Nat} {z : Nat} {dd x : Operand} : AO.go P ⟨some d, none, .cpy z dd x⟩ t h K = (match ev t dd, ev t x with | some (.slice (some ⟨b, off, sp⟩) dl dc), some (.slice xa m xc) => flagOk sp = true ∧ ifS (h.src z (.slice xa (Nat.min m dl) xc)) fun cs => ifS (h.get b) fun o => o.md ≠ .ro ∧ off + Nat.min m dl * z ≤ o.cs.length ∧ K ((d, some (.int .i64 (Nat.min m dl : Nat))) :: t) (h.put b ⟨spl o.cs off cs, o.md⟩) | _, _ => False) := by
  simp only [AO.go, AO.run, AK.step, tput, ex_some, appA_V]
  rfl
theorem go_mn {d : Nat} {xs : List Operand} : AO.go P ⟨some d, none, .mn xs⟩ t h K = (match evs t xs with | some vs => (match intMin vs with | some v => K ((d, some v) :: t) h | none => False) | none => False) := rfl
theorem go_mx {d : Nat} {xs : List Operand} : AO.go P ⟨some d, none, .mx xs⟩ t h K = (match evs t xs with | some vs => (match intMax vs with | some v => K ((d, some v) :: t) h | none => False) | none => False) := rfl
theorem go_nileq {d : Nat} {neg : Bool} {tag : Nat} {x y : Operand} : AO.go P ⟨some d, none, .nileq neg tag x y⟩ t h K = (match ev t x, ev t y with | some a, some b => (match isNilV tag a, isNilV tag b with | some true, some q => K ((d, some (.bool (if neg then !q else q))) :: t) h | some p, some true => K ((d, some (.bool (if neg then !p else p))) :: t) h | _, _ => False) | _, _ => False) := rfl
theorem go_eqa {d : Nat} {neg : Bool} {sh : List Nat} {x y : Operand} : AO.go P ⟨some d, none, .eqa neg sh x y⟩ t h K = (match ev t x, ev t y with | some (.agg a), some (.agg b) => ifS (eqCells sh a.toList b.toList) fun r => K ((d, some (.bool (if neg then !r else r))) :: t) h | _, _ => False) := by
  simp only [AO.go, AO.run, AK.step, tput, ex_some, appA_V, lenIs_p, leIs_p]
  rfl
theorem go_beq {d : Nat} {neg : Bool} {x y : Operand} : AO.go P ⟨some d, none, .beq neg x y⟩ t h K = (match ev t x, ev t y with | some (.bool p), some (.bool q) => K ((d, some (.bool (if neg then p != q else p == q))) :: t) h | _, _ => False) := rfl
theorem go_sob {d : Nat} {x : Operand} : AO.go P ⟨some d, none, .sob x⟩ t h K = (match ev t x with | some (.string s) => K ((d, some (.slice (some ⟨h.size, 0, some 0⟩) s.size s.size)) :: t) (h.new ⟨s.data.toList.map fun b => .int .u8 b.toNat, .hid 1⟩) | _ => False) := rfl
theorem go_bos {d : Nat} {x : Operand} : AO.go P ⟨some d, none, .bos x⟩ t h K = (match ev t x with | some (.slice none _ _) => K ((d, some (.string .empty)) :: t) h | some (.slice (some ⟨b, off, sp⟩) ln _) => flagOk sp = true ∧ ∃ ns : List Int, h.rdN b off ln = some (ns.map (Value.int .u8)) ∧ K ((d, some (.string ⟨(ns.map fun n => UInt8.ofNat n.toNat).toArray⟩)) :: t) h | _ => False) := rfl
theorem go_call {d : Nat} {f : FuncId} {args : List Operand} : AO.go P ⟨some d, none, .call f args⟩ t h K = (match evs t args with | some vs => CallT P f vs h (fun v h => K ((d, some v) :: t) h) ⟨⟩ | none => False) := rfl
theorem go_callv {d : Nat} {x : Operand} {args : List Operand} : AO.go P ⟨some d, none, .callv x args⟩ t h K = (match ev t x, evs t args with | some (.func (.func f) us vs), some as => okF P f = true ∧ CallT P f (us.toList ++ as ++ vs.toList) h (fun v h => K ((d, some v) :: t) h) ⟨⟩ | _, _ => False) := rfl
theorem go_st {z : Nat} {a x : Operand} : AO.go P ⟨none, none, .st z a x⟩ t h K = (match ev t a, ev t x with | some (.pointer (some ⟨b, i, none⟩)), some v => ifS (h.get b) fun o => o.md ≠ .ro ∧ okStore v = true ∧ lenIs (cellsOf v) z = true ∧ leIs (i + z) o.cs = true ∧ frc (spl o.cs i (cellsOf v)) fun cs => K t (h.put b ⟨cs, o.md⟩) | _, _ => False) := by
  simp only [AO.go, AO.run, AK.step, tput, ex_some, lenIs_p, leIs_p]
  rfl
theorem go_call0 {f : FuncId} {args : List Operand} : AO.go P ⟨none, none, .call f args⟩ t h K = (match evs t args with | some vs => CallT P f vs h (fun v h => K t h) ⟨⟩ | none => False) := rfl
theorem go_clr0 {z : List Value} {x : Operand} : AO.go P ⟨none, none, .clr z x⟩ t h K = (match ev t x with | some (.slice none _ _) => K t h | some (.slice (some ⟨b, off, sp⟩) n _) => flagOk sp = true ∧ ifS (h.get b) fun o => o.md ≠ .ro ∧ off + n * z.length ≤ o.cs.length ∧ K t (h.put b ⟨spl o.cs off (rep n z), o.md⟩) | _ => False) := by
  simp only [AO.go, AO.run, AK.step, tput, ex_some]
  rfl
theorem go_stuck {d : Option Nat} : AO.go P ⟨d, none, .stuck⟩ t h K = False := rfl
theorem go_callv0 {x : Operand} {args : List Operand} : AO.go P ⟨none, none, .callv x args⟩ t h K = (match ev t x, evs t args with | some (.func (.func f) us vs), some as => okF P f = true ∧ CallT P f (us.toList ++ as ++ vs.toList) h (fun v h => K t h) ⟨⟩ | _, _ => False) := rfl
theorem go_cpy0 {z : Nat} {dd x : Operand} : AO.go P ⟨none, none, .cpy z dd x⟩ t h K = (match ev t dd, ev t x with | some (.slice (some ⟨b, off, sp⟩) dl dc), some (.slice xa m xc) => flagOk sp = true ∧ ifS (h.src z (.slice xa (Nat.min m dl) xc)) fun cs => ifS (h.get b) fun o => o.md ≠ .ro ∧ off + Nat.min m dl * z ≤ o.cs.length ∧ K t (h.put b ⟨spl o.cs off cs, o.md⟩) | _, _ => False) := by
  simp only [AO.go, AO.run, AK.step, tput, ex_some]
  rfl
theorem go_mkm {d : Nat} {r : Option Operand} : AO.go P ⟨some d, none, .mkm r⟩ t h K = (match optO t r with | some none => K ((d, some (.map (some h.size))) :: t) (h.newM []) | some (some (.int _ _)) => K ((d, some (.map (some h.size))) :: t) (h.newM []) | _ => False) := rfl
theorem go_tas {d : Nat} {ty : TypeId} {ag : Bool} {z : List Value} {ok : Bool} {x : Operand} : AO.go P ⟨some d, none, .tas ty ag z ok x⟩ t h K = (match ev t x with | some (.iface u v) => (match Nat.beq u ty with | true => K ((d, some (lkV ok (v, true))) :: t) h | false => ok = true ∧ K ((d, some (.tuple #[mkZ ag z, .bool false])) :: t) h) | some .nilIface => ok = true ∧ K ((d, some (.tuple #[mkZ ag z, .bool false])) :: t) h | _ => False) := by
  simp only [AO.go, AO.run, AK.step, tput, ite_beq]
  rfl
theorem go_inv {d : Nat} {rows : List (Nat × Nat)} {x : Operand} {args : List Operand} : AO.go P ⟨some d, none, .inv rows x args⟩ t h K = (match ev t x, evs t args with | some (.iface ty u), some as => ifS (findR rows ty) fun f => CallT P f (u :: as) h (fun v h => K ((d, some v) :: t) h) ⟨⟩ | _, _ => False) := by
  simp only [AO.go, AO.run, tput, ex_some]
  rfl
theorem go_inv0 {rows : List (Nat × Nat)} {x : Operand} {args : List Operand} : AO.go P ⟨none, none, .inv rows x args⟩ t h K = (match ev t x, evs t args with | some (.iface ty u), some as => ifS (findR rows ty) fun f => CallT P f (u :: as) h (fun v h => K t h) ⟨⟩ | _, _ => False) := by
  simp only [AO.go, AO.run, tput, ex_some]
  rfl
theorem go_lkpT {d : Nat} {ka : Bool} {sh : List Nat} {ag : Bool} {z : List Value} {m k : Operand} : AO.go P ⟨some d, none, .lkp ka sh ag z true m k⟩ t h K = (match ev t m, ev t k with | some (.map mb), some kv => LkT h mb ka sh kv (mkZ ag z) (fun v b => K ((d, some (.tuple #[v, .bool b])) :: t) h) ⟨⟩ | _, _ => False) := rfl
theorem go_lkpF {d : Nat} {ka : Bool} {sh : List Nat} {ag : Bool} {z : List Value} {m k : Operand} : AO.go P ⟨some d, none, .lkp ka sh ag z false m k⟩ t h K = (match ev t m, ev t k with | some (.map mb), some kv => LkT h mb ka sh kv (mkZ ag z) (fun v _ => K ((d, some v) :: t) h) ⟨⟩ | _, _ => False) := rfl
theorem go_upd {ka : Bool} {sh : List Nat} {m k x : Operand} : AO.go P ⟨none, none, .upd ka sh m k x⟩ t h K = (match ev t m, ev t k, ev t x with | some (.map (some b)), some kv, some v => UpT h b ka sh kv v (fun h => K t h) ⟨⟩ | _, _, _ => False) := rfl
theorem go_g {d : Nat} {g : Nat} {b : Bool} {k : AK} : AO.go P ⟨some d, some (g, b), k⟩ t h K = (match tget t g with | some (.bool c) => (match b with | true => cnd c (AO.go P ⟨some d, none, k⟩ t h K) (K ((d, (match k with | .mv _ => some (.tuple #[]) | _ => none)) :: t) h) | false => cnd c (K ((d, (match k with | .mv _ => some (.tuple #[]) | _ => none)) :: t) h) (AO.go P ⟨some d, none, k⟩ t h K)) | some (.tuple _) => K ((d, (match k with | .mv _ => some (.tuple #[]) | _ => none)) :: t) h | _ => False) := by
  have e2 : (match k with | .mv _ => some (.tuple #[]) | _ => none) = skipV k := rfl
  rw [e2]
  have e : AO.go P ⟨some d, none, k⟩ t h K = AO.run P ⟨some d, some (g, b), k⟩ t h K := rfl
  rw [e]
  show (match tget t g with | some (.bool c) => if c = b then AO.run P ⟨some d, some (g, b), k⟩ t h K else K ((d, skipV k) :: t) h | some (.tuple _) => K ((d, skipV k) :: t) h | _ => False) = _
  generalize AO.run P ⟨some d, some (g, b), k⟩ t h K = X
  split
  · rename_i c hc
    cases c <;> cases b <;> simp [cnd]
  · rfl
  · rfl
theorem go_g0 {g : Nat} {b : Bool} {k : AK} : AO.go P ⟨none, some (g, b), k⟩ t h K = (match tget t g with | some (.bool c) => (match b with | true => cnd c (AO.go P ⟨none, none, k⟩ t h K) (K t h) | false => cnd c (K t h) (AO.go P ⟨none, none, k⟩ t h K)) | some (.tuple _) => K t h | _ => False) := by
  have e : AO.go P ⟨none, none, k⟩ t h K = AO.run P ⟨none, some (g, b), k⟩ t h K := rfl
  rw [e]
  show (match tget t g with | some (.bool c) => if c = b then AO.run P ⟨none, some (g, b), k⟩ t h K else K t h | some (.tuple _) => K t h | _ => False) = _
  generalize AO.run P ⟨none, some (g, b), k⟩ t h K = X
  split
  · rename_i c hc
    cases c <;> cases b <;> simp [cnd]
  · rfl
  · rfl
end
theorem bin_add {k : IntKind} {a b : Int} {K : Value → Prop} : binK .add (.int k a) (.int k b) K = K (.int k (k.wrap (a + b))) := by simp only [binK, intBin, true_and]
theorem bin_sub {k : IntKind} {a b : Int} {K : Value → Prop} : binK .sub (.int k a) (.int k b) K = K (.int k (k.wrap (a - b))) := by simp only [binK, intBin, true_and]
theorem bin_mul {k : IntKind} {a b : Int} {K : Value → Prop} : binK .mul (.int k a) (.int k b) K = K (.int k (k.wrap (a * b))) := by simp only [binK, intBin, true_and]
theorem bin_quo {k : IntKind} {a b : Int} {K : Value → Prop} : binK .quo (.int k a) (.int k b) K = (b ≠ 0 ∧ K (.int k (k.wrap (a.tdiv b)))) := by simp only [binK, intBin, true_and]
theorem bin_rem {k : IntKind} {a b : Int} {K : Value → Prop} : binK .rem (.int k a) (.int k b) K = (b ≠ 0 ∧ K (.int k (a.tmod b))) := by simp only [binK, intBin, true_and]
theorem bin_and {k : IntKind} {a b : Int} {K : Value → Prop} : binK .and (.int k a) (.int k b) K = K (.int k (k.wrap (BitVec.ofInt k.bits a &&& BitVec.ofInt k.bits b).toNat)) := by simp only [binK, intBin, true_and]
theorem bin_or {k : IntKind} {a b : Int} {K : Value → Prop} : binK .or (.int k a) (.int k b) K = K (.int k (k.wrap (BitVec.ofInt k.bits a ||| BitVec.ofInt k.bits b).toNat)) := by simp only [binK, intBin, true_and]
theorem bin_xor {k : IntKind} {a b : Int} {K : Value → Prop} : binK .xor (.int k a) (.int k b) K = K (.int k (k.wrap (BitVec.ofInt k.bits a ^^^ BitVec.ofInt k.bits b).toNat)) := by simp only [binK, intBin, true_and]
theorem bin_eql {k : IntKind} {a b : Int} {K : Value → Prop} : binK .eql (.int k a) (.int k b) K = K (.bool (decide (EqI a b))) := by simp only [binK, intBin, true_and]; congr
theorem bin_neq {k : IntKind} {a b : Int} {K : Value → Prop} : binK .neq (.int k a) (.int k b) K = K (.bool (decide (¬ EqI a b))) := by
  have : (a != b) = decide (¬ EqI a b) := by rw [decide_not]; rfl
  simp only [binK, intBin, true_and, this]
theorem bin_lss {k : IntKind} {a b : Int} {K : Value → Prop} : binK .lss (.int k a) (.int k b) K = K (.bool (decide (a < b))) := by simp only [binK, intBin, true_and]
theorem bin_leq {k : IntKind} {a b : Int} {K : Value → Prop} : binK .leq (.int k a) (.int k b) K = K (.bool (decide (a ≤ b))) := by simp only [binK, intBin, true_and]
theorem bin_gtr {k : IntKind} {a b : Int} {K : Value → Prop} : binK .gtr (.int k a) (.int k b) K = K (.bool (decide (b < a))) := by simp only [binK, intBin, true_and, GT.gt, GE.ge]
theorem bin_geq {k : IntKind} {a b : Int} {K : Value → Prop} : binK .geq (.int k a) (.int k b) K = K (.bool (decide (b ≤ a))) := by simp only [binK, intBin, true_and, GT.gt, GE.ge]
theorem bin_shl {k k' : IntKind} {a b : Int} {K : Value → Prop} : binK .shl (.int k a) (.int k' b) K = (0 ≤ b ∧ K (.int k (k.wrap (a * 2 ^ min b.toNat k.bits)))) := rfl
theorem bin_shr {k k' : IntKind} {a b : Int} {K : Value → Prop} : binK .shr (.int k a) (.int k' b) K = (0 ≤ b ∧ K (.int k (a.fdiv (2 ^ min b.toNat k.bits)))) := rfl
theorem bin_str {op : BinOp} {a b : ByteArray} {K : Value → Prop} : binK op (.string a) (.string b) K = strBin op a b K := rfl
theorem tget_cons {j i : Nat} {v : Option Value} {r : Tm} : tget ((j, v) :: r) i = match Nat.beq i j with
    | true => v
    | false => tget r i := rfl
theorem tget_nil {i : Nat} : tget [] i = none := rfl
theorem tput_some {t : Tm} {i : Nat} {v : Option Value} : tput t (some i) v = (i, v) :: t := rfl
theorem tput_none {t : Tm} {v : Option Value} : tput t none v = t := rfl
theorem ev_tmp {t : Tm} {i : Nat} : ev t (.tmp i) = tget t i := rfl
theorem ev_const {t : Tm} {v : Value} : ev t (.const v) = some v := rfl
theorem ev_func {t : Tm} {f : FuncId} : ev t (.func f) = some (.func (.func f) #[] #[]) := rfl
theorem evs_nil {t : Tm} : evs t [] = some [] := rfl
theorem evs_cons {t : Tm} {x : Operand} {r : List Operand} : evs t (x :: r) = match ev t x, evs t r with
    | some v, some vs => some (v :: vs)
    | _, _ => none := rfl
theorem keep_nil {t : Tm} : keep [] t = [] := rfl
theorem keep_cons {i : Nat} {l : List Nat} {t : Tm} : keep (i :: l) t = (i, tget t i) :: keep l t := rfl
theorem forget_nil {t : Tm} : forget [] t = t := rfl
theorem forget_cons {i k b : Nat} {o : AO} {r : List DO} {t : Tm} : forget (⟨i, k, b, o⟩ :: r) t = match k with
    | 3 => forget r (tput t o.d none)
    | _ => forget r t := rfl
theorem optO_none {t : Tm} : optO t none = some none := rfl
theorem optO_some {t : Tm} {x : Operand} : optO t (some x) = match ev t x with
    | some v => some (some v)
    | none => none := rfl
theorem res_nil {t : Tm} {h : Hp} {K : List Value → Prop} : resVals [] t h K = K [] := rfl
theorem res_tmp {i : Nat} {r : List AR} {t : Tm} {h : Hp} {K : List Value → Prop} : resVals (.tmp i :: r) t h K = match tget t i with
    | some v => resVals r t h fun vs => K (v :: vs)
    | none => False := rfl
theorem res_1 {i : Nat} {r : List AR} {t : Tm} {h : Hp} {K : List Value → Prop} : resVals (.cell1 i :: r) t h K = match tget t i with
    | some (.pointer (some ⟨b, off, none⟩)) => ifS (h.rd b off) fun v => resVals r t h fun vs => K (v :: vs)
    | _ => False := by
  simp only [resVals, ex_some]
  rfl
theorem res_N {z i : Nat} {r : List AR} {t : Tm} {h : Hp} {K : List Value → Prop} : resVals (.cellN z i :: r) t h K = match tget t i with
    | some (.pointer (some ⟨b, off, none⟩)) => ifS (h.rdN b off z) fun cs => resVals r t h fun vs => K (.agg cs.toArray :: vs)
    | _ => False := by
  simp only [resVals, ex_some]
  rfl
theorem retV_1 {v : Value} : retV [v] = v := rfl
theorem retV_0 : retV [] = .tuple #[] := rfl
theorem retV_2 {u v : Value} {r : List Value} : retV (u :: v :: r) = .tuple (u :: v :: r).toArray := rfl
theorem flagOk_none : flagOk none = true := rfl
theorem flagOk_0 : flagOk (some 0) = true := rfl
theorem fillA_nil {t : Tm} {cs : List Value} : fillA t cs [] = some cs := rfl
theorem fillA_cons {t : Tm} {cs : List Value} {off size : Nat} {x : Operand} {r : List (Nat × Nat × Operand)} : fillA t cs ((off, size, x) :: r) = match ev t x with
    | some v => match okStore v, lenIs (cellsOf v) size, leIs (off + size) cs with
      | true, true, true => fillA t (spl cs off (cellsOf v)) r
      | _, _, _ => none
    | none => none := by
  simp only [fillA, lenIs_eq, leIs_eq]
  rfl
theorem argsT_nil {i : Nat} : argsT [] i = [] := rfl
theorem argsT_cons {v : Value} {r : List Value} {i : Nat} : argsT (v :: r) i = (i, some v) :: argsT r (i + 1) := rfl
theorem optV_none : (none : Option Value).isNone = true := rfl
theorem optV_some {v : Value} : (some v).isNone = false := rfl
theorem ACalls.go {P : Program} {f : FuncId} {args : List Value} {h : Hp} {Q Q' : Value → Hp → Prop} {g : Tag Q'} (c : ACalls P f args h Q) (k : ∀ v h', Q v h' → Q' v h') : CallT P f args h Q' g := c.mono k
set_option linter.defProp false
/-- All of these words. -/
def AM := And.intro @W_seq (And.intro @W_block (And.intro @W_skip (And.intro @W_ops (And.intro @W_draw (And.intro @W_exit (And.intro @W_ret
  (And.intro @Qs_n (And.intro @Qs_n' (And.intro @Qs_e (And.intro @Qs_r (And.intro @Qb_n (And.intro @Qb_n' (And.intro @Qb_e (And.intro @Qb_r (And.intro @Ql_n (And.intro @Ql_n' (And.intro @Ql_e (And.intro
  @Ql_r (And.intro @Qf_n (And.intro @Qf_n' (And.intro @Qf_e (And.intro @Qf_r (And.intro @Wops_nil (And.intro @cnd_t (And.intro @cnd_f (And.intro @W_condT (And.intro @W_bad (And.intro @W_trim (And.intro
  @W_loopT (And.intro @W_cutT (And.intro @lkV_t (And.intro @lkV_f (And.intro @mkZ_t (And.intro @mkZ_f (And.intro @findR_c (And.intro @findR_n (And.intro @lenIs_0 (And.intro @lenIs_S (And.intro @leIs_0
  (And.intro @leIs_S (And.intro @spl_00 (And.intro @spl_0 (And.intro @spl_S (And.intro @decT (And.intro @decF (And.intro @ifS_some (And.intro @ifS_none (And.intro @Wops_cons (And.intro @Wd_nil
  (And.intro @Wd_0 (And.intro @Wd_1 (And.intro @Wd_1N (And.intro @Wd_2 (And.intro @Wd_3 (And.intro @PR_nil (And.intro @PR_0 (And.intro @PR_1 (And.intro @PR_2 (And.intro @PR_4 (And.intro @PR_6 (And.intro
  @PR_3b (And.intro @PR_3a (And.intro @Wd_6 (And.intro @Wd_4 (And.intro @WChk_nil (And.intro @WChk_1 (And.intro @WChk_N (And.intro @pd_1 (And.intro @pd_N (And.intro @pd_app1 (And.intro @pd_app0
  (And.intro @pd_1g (And.intro @pd_Ng (And.intro @flt_nil (And.intro @flt_cons (And.intro @go_mv (And.intro @go_pick (And.intro @go_box (And.intro @go_alloc (And.intro @go_build (And.intro @go_bslice
  (And.intro @go_ld1 (And.intro @go_ldN (And.intro @go_nil (And.intro @go_bin (And.intro @go_shlc (And.intro @go_shrc (And.intro @go_neg (And.intro @go_not (And.intro @go_com (And.intro @go_cvi
  (And.intro @go_mkif (And.intro @go_mkf (And.intro @go_mks (And.intro @go_slc (And.intro @go_slcs (And.intro @go_slca (And.intro @go_fa (And.intro @go_fld1 (And.intro @go_fldN (And.intro @go_ia
  (And.intro @go_iaa (And.intro @go_ixs (And.intro @go_ixa1 (And.intro @go_ixaN (And.intro @go_ext (And.intro @go_len (And.intro @go_lens (And.intro @go_app (And.intro @go_apps (And.intro @go_cpy
  (And.intro @go_mn (And.intro @go_mx (And.intro @go_nileq (And.intro @go_eqa (And.intro @go_beq (And.intro @go_sob (And.intro @go_bos (And.intro @go_call (And.intro @go_callv (And.intro @go_st
  (And.intro @go_call0 (And.intro @go_clr0 (And.intro @go_stuck (And.intro @go_callv0 (And.intro @go_cpy0 (And.intro @go_mkm (And.intro @go_tas (And.intro @go_inv (And.intro @go_inv0 (And.intro @go_lkpT
  (And.intro @go_lkpF (And.intro @go_upd (And.intro @go_g (And.intro @go_g0 (And.intro @bin_add (And.intro @bin_sub (And.intro @bin_mul (And.intro @bin_quo (And.intro @bin_rem (And.intro @bin_and
  (And.intro @bin_or (And.intro @bin_xor (And.intro @bin_eql (And.intro @bin_neq (And.intro @bin_lss (And.intro @bin_leq (And.intro @bin_gtr (And.intro @bin_geq (And.intro @bin_shl (And.intro @bin_shr
  (And.intro @bin_str (And.intro @tget_cons (And.intro @tget_nil (And.intro @tput_some (And.intro @tput_none (And.intro @ev_tmp (And.intro @ev_const (And.intro @ev_func (And.intro @evs_nil (And.intro
  @evs_cons (And.intro @keep_nil (And.intro @keep_cons (And.intro @forget_nil (And.intro @forget_cons (And.intro @optO_none (And.intro @optO_some (And.intro @res_nil (And.intro @res_tmp (And.intro
  @res_1 (And.intro @res_N (And.intro @retV_1 (And.intro @retV_0 (And.intro @retV_2 (And.intro @flagOk_none (And.intro @flagOk_0 (And.intro @fillA_nil (And.intro @fillA_cons (And.intro @argsT_nil
  (And.intro @argsT_cons (And.intro @optV_none (And.intro @optV_some (And.intro @decT
  (@decF))))))))))))))))))))))))))))))))))))))))))))))))))))))))))))))))))))))))))))))))))))))))))))))))))))))))))))))))))))))))))))))))))))))))))))))))))))))))))))))))))))))))))))))))))))))))
end Go.Proofs.Ytbfbgkhlngkifaa.Am
