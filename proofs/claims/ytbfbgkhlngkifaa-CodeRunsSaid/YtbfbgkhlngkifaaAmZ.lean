/- Heaps and slices for contracts. Plain theorems.
   Conditions: none. -/
import Derived.Test.YtbfbgkhlngkifaaAmY
import Derived.Laws.Bits64
namespace Go.Proofs.Ytbfbgkhlngkifaa.Am
open Go Go.RowKit
set_option linter.unusedVariables false
set_option linter.unusedSimpArgs false
set_option linter.defProp false

theorem dec_t {p : Prop} [Decidable p] : (decide p = true) = p := by simp
theorem dec_f {p : Prop} [Decidable p] : (decide p = false) = ¬ p := by simp
theorem nn_p {p : Prop} : (¬ ¬ p) = p := by simp
theorem ite_T {α : Type} {a b : α} : (if True then a else b) = a := if_pos trivial
theorem ite_F {α : Type} {a b : α} : (if False then a else b) = b := if_neg id
theorem not_lt_i {a b : Int} : (¬ a < b) = (b ≤ a) := by simp
theorem not_le_i {a b : Int} : (¬ a ≤ b) = (b < a) := by simp
theorem nn_i {n : Nat} : (0 ≤ (n : Int)) = True := by simp
theorem lt_i {a b : Nat} : ((a : Int) < (b : Int)) = (a < b) := by simp
theorem le_i {a b : Nat} : ((a : Int) ≤ (b : Int)) = (a ≤ b) := by simp
theorem not_lt_n {a b : Nat} : (¬ a < b) = (b ≤ a) := by simp
theorem not_le_n {a b : Nat} : (¬ a ≤ b) = (b < a) := by simp
theorem eqI_n {a b : Nat} (h : EqI a b) : a = b := Int.ofNat_inj.1 h
theorem eqI_self {a : Int} : EqI a a = True := by simp [EqI]
theorem e1_0 : EqI 1 0 = False := by simp [EqI]
theorem e2_0 : EqI 2 0 = False := by simp [EqI]
theorem e3_0 : EqI 3 0 = False := by simp [EqI]
theorem e4_0 : EqI 4 0 = False := by simp [EqI]
theorem e5_0 : EqI 5 0 = False := by simp [EqI]
theorem e6_0 : EqI 6 0 = False := by simp [EqI]
theorem e7_0 : EqI 7 0 = False := by simp [EqI]
theorem e8_0 : EqI 8 0 = False := by simp [EqI]
theorem e20_0 : EqI 20 0 = False := by simp [EqI]
theorem e30_0 : EqI 30 0 = False := by simp [EqI]
theorem e31_0 : EqI 31 0 = False := by simp [EqI]
theorem e32_0 : EqI 32 0 = False := by simp [EqI]
theorem e33_0 : EqI 33 0 = False := by simp [EqI]
theorem e34_0 : EqI 34 0 = False := by simp [EqI]
theorem e80_0 : EqI 80 0 = False := by simp [EqI]
theorem e130_0 : EqI 130 0 = False := by simp [EqI]
theorem e140_0 : EqI 140 0 = False := by simp [EqI]
theorem e150_0 : EqI 150 0 = False := by simp [EqI]
theorem e151_0 : EqI 151 0 = False := by simp [EqI]
theorem e200_0 : EqI 200 0 = False := by simp [EqI]
theorem e210_0 : EqI 210 0 = False := by simp [EqI]
theorem e211_0 : EqI 211 0 = False := by simp [EqI]
theorem e220_0 : EqI 220 0 = False := by simp [EqI]
theorem e230_0 : EqI 230 0 = False := by simp [EqI]
theorem e240_0 : EqI 240 0 = False := by simp [EqI]
theorem e260_0 : EqI 260 0 = False := by simp [EqI]
theorem e270_0 : EqI 270 0 = False := by simp [EqI]
theorem e271_0 : EqI 271 0 = False := by simp [EqI]
theorem e272_0 : EqI 272 0 = False := by simp [EqI]
theorem e0_1 : EqI 0 1 = False := by simp [EqI]
theorem tn {n : Nat} : ((n : Int)).toNat = n := rfl
theorem not_t : (!true) = false := rfl
theorem not_f : (!false) = true := rfl
theorem tt : (true = true) = True := by simp
theorem ff : (false = false) = True := by simp
theorem tf : (true = false) = False := by simp
theorem ft : (false = true) = False := by simp
theorem imp_t {p : Prop} : (True → p) = p := by simp
theorem imp_f {p : Prop} : (False → p) = True := by simp
theorem and_t {p : Prop} : (True ∧ p) = p := by simp
theorem and_t' {p : Prop} : (p ∧ True) = p := by simp
theorem and_f {p : Prop} : (False ∧ p) = False := by simp
theorem and_f' {p : Prop} : (p ∧ False) = False := by simp
theorem not_tr : (¬ True) = False := by simp
theorem not_fa : (¬ False) = True := by simp
theorem not_dec {p : Prop} [Decidable p] : (!decide p) = decide (¬ p) := by simp
theorem own_ro : (Md.own = Md.ro) = False := by simp
theorem hid_ro {z : Nat} : (Md.hid z = Md.ro) = False := by simp
theorem ne_not {α : Type} {a b : α} : (a ≠ b) = ¬ a = b := rfl
theorem ok_int {k : IntKind} {a : Int} : okStore (.int k a) = true := rfl
theorem ok_bool {b : Bool} : okStore (.bool b) = true := rfl
theorem ok_slice {a : Option Addr} {l c : Nat} : okStore (.slice a l c) = true := rfl
theorem ok_ptr {a : Option Addr} : okStore (.pointer a) = true := rfl
theorem ok_str {s : ByteArray} : okStore (.string s) = true := rfl
def allc : List Value → Bool
  | [] => true
  | v :: r => cell1 v && allc r
theorem allc_eq : ∀ l : List Value, l.all cell1 = allc l
  | [] => rfl
  | v :: r => by rw [List.all_cons, allc_eq r]; rfl
theorem ok_agg {cs : Array Value} : okStore (.agg cs) = allc cs.toList := allc_eq _
theorem allc_0 : allc [] = true := rfl
theorem allc_i {k : IntKind} {a : Int} {r : List Value} : allc (.int k a :: r) = allc r := rfl
theorem allc_b {b : Bool} {r : List Value} : allc (.bool b :: r) = allc r := rfl
theorem allc_s {s : ByteArray} {r : List Value} : allc (.string s :: r) = allc r := rfl
theorem allc_p {a : Option Addr} {r : List Value} : allc (.pointer a :: r) = allc r := rfl
theorem allc_l {a : Option Addr} {l c : Nat} {r : List Value} : allc (.slice a l c :: r) = allc r := rfl
theorem new_put {h : Hp} {o o' : Ob} : (h.new o).put h.size o' = h.new o' := by
  simp only [Hp.put, Hp.new, Hp.mk.injEq, true_and, and_true]
  funext x
  split <;> rfl
theorem co_int {k : IntKind} {a : Int} : cellsOf (.int k a) = [.int k a] := rfl
theorem co_bool {b : Bool} : cellsOf (.bool b) = [.bool b] := rfl
theorem co_slice {a : Option Addr} {l c : Nat} : cellsOf (.slice a l c) = [.slice a l c] := rfl
theorem co_ptr {a : Option Addr} : cellsOf (.pointer a) = [.pointer a] := rfl
theorem co_str {s : ByteArray} : cellsOf (.string s) = [.string s] := rfl
theorem co_agg {cs : Array Value} : cellsOf (.agg cs) = cs.toList := rfl
theorem nth0 {α : Type} {a : α} {l : List α} : (a :: l)[0]? = some a := rfl
theorem nthS {α : Type} {a : α} {l : List α} {n : Nat} : (a :: l)[n + 1]? = l[n]? := rfl
theorem l_nil {l : List Value} : [] ++ l = l := rfl
theorem l_nil' {l : List Value} : l ++ [] = l := List.append_nil l
theorem l_cons {a : Value} {l m : List Value} : (a :: l) ++ m = a :: (l ++ m) := rfl
theorem arr0 : (#[] : Array Value).toList = [] := rfl
theorem arrl {l : List Value} : l.toArray.toList = l := rfl
theorem tn_0 : Int.toNat 0 = 0 := rfl
theorem tn_l {n : Nat} : (OfNat.ofNat n : Int).toNat = OfNat.ofNat n := rfl
theorem frc_eq {α : Type} {l : α} {k : α → Prop} {g : Tag k} : frc l k g = k l := rfl
/-- Words for what was simplified. -/
theorem cnd_v {c : Bool} {A B : Prop} {g : Tag (A, B)} : cnd c A B g = ((c = true → A) ∧ (c = false → B)) := rfl
def AP := And.intro @frc_eq (And.intro @tn_0 (And.intro @cnd_v @tn_l))
theorem put_put {h : Hp} {b : Nat} {o o' : Ob} : (h.put b o).put b o' = h.put b o' := by
  simp only [Hp.put, Hp.mk.injEq, true_and, and_true]
  funext x
  split <;> rfl
theorem gput {h : Hp} {b : Nat} {o : Ob} : (h.put b o).get b = some o := if_pos rfl
theorem gnew {h : Hp} {o : Ob} : (h.new o).get h.size = some o := if_pos rfl
theorem rput {h : Hp} {b i : Nat} {o : Ob} : (h.put b o).rd b i = o.cs[i]? := by unfold Hp.rd; rw [gput]
theorem rnew {h : Hp} {i : Nat} {o : Ob} : (h.new o).rd h.size i = o.cs[i]? := by unfold Hp.rd; rw [gnew]
/-- The words of values. -/
def AV := And.intro @dec_t (And.intro @dec_f (And.intro @nn_p (And.intro @ite_T (And.intro @ite_F (And.intro @tn (And.intro @not_t (And.intro @not_f (And.intro @tt (And.intro @ff (And.intro @tf (And.intro @ft
  (And.intro @imp_t (And.intro @imp_f (And.intro @and_t (And.intro @and_t' (And.intro @and_f (And.intro @Nat.mul_one (And.intro @not_dec (And.intro @Nat.add_zero (And.intro @Nat.zero_add (And.intro @own_ro (And.intro @hid_ro
  (And.intro @ok_int (And.intro @ok_bool (And.intro @ok_slice (And.intro @ok_ptr (And.intro @ok_str (And.intro @co_int (And.intro @co_bool (And.intro @co_slice (And.intro @co_ptr (And.intro @co_str (And.intro @co_agg
  (And.intro @nth0 (And.intro @nthS (And.intro @arrl (And.intro @not_tr (And.intro @not_fa (And.intro @and_f' (And.intro @Nat.one_mul (And.intro @ne_not (And.intro @nn_i (And.intro @lt_i (And.intro @le_i (And.intro @Nat.sub_zero (And.intro @l_nil (And.intro @l_nil' (And.intro @l_cons (And.intro @put_put (And.intro @ok_agg (And.intro @allc_0 (And.intro @allc_i (And.intro @allc_b (And.intro @allc_s (And.intro @allc_p (And.intro @allc_l (And.intro @new_put (And.intro @gput (And.intro @gnew (And.intro @rput (And.intro @rnew (And.intro @eqI_self (And.intro @e0_1 (And.intro @e1_0 (And.intro @e2_0 (And.intro @e3_0 (And.intro @e4_0 (And.intro @e5_0 (And.intro @e6_0 (And.intro @e7_0 (And.intro @e8_0 (And.intro @e20_0 (And.intro @e30_0 (And.intro @e31_0 (And.intro @e32_0 (And.intro @e33_0 (And.intro @e34_0 (And.intro @e80_0 (And.intro @e130_0 (And.intro @e140_0 (And.intro @e150_0 (And.intro @e151_0 (And.intro @e200_0 (And.intro @e210_0 (And.intro @e211_0 (And.intro @e220_0 (And.intro @e230_0 (And.intro @e240_0 (And.intro @e260_0 (And.intro @e270_0 (And.intro @e271_0 (And.intro @e272_0 @arr0))))))))))))))))))))))))))))))))))))))))))))))))))))))))))))))))))))))))))))))))))))))))))))

/-! ### heaps -/
/-- Nothing lies beyond a heap's end. -/
structure Wf (h : Hp) : Prop where
  obs : ∀ b, h.size ≤ b → h.get b = none
  mps : ∀ b, h.size ≤ b → h.mp b = none
instance {h : Hp} : CoeFun (Wf h) (fun _ => ∀ b, h.size ≤ b → h.get b = none) := ⟨Wf.obs⟩
section
variable {h h1 h2 : Hp} {b x : Nat} {o : Ob} {es : List (Value × Value)} {F G : Nat → Prop}
theorem Wf.lt (w : Wf h) (e : h.get b = some o) : b < h.size := by
  rcases Nat.lt_or_ge b h.size with h' | h'
  · exact h'
  · rw [w.obs b h'] at e; cases e
theorem Wf.ltM (w : Wf h) (e : h.mp b = some es) : b < h.size := by
  rcases Nat.lt_or_ge b h.size with h' | h'
  · exact h'
  · rw [w.mps b h'] at e; cases e
theorem get_new_self : (h.new o).get h.size = some o := if_pos rfl
theorem get_new (hb : b < h.size) : (h.new o).get b = h.get b := if_neg (Nat.ne_of_lt hb)
theorem get_put_self : (h.put b o).get b = some o := if_pos rfl
theorem get_put (hx : x ≠ b) : (h.put b o).get x = h.get x := if_neg hx
theorem get_del (hx : x ≠ b) : (h.del b).get x = h.get x := if_neg hx
theorem get_newM : (h.newM es).get x = h.get x := rfl
theorem get_putM : (h.putM b es).get x = h.get x := rfl
theorem mp_new : (h.new o).mp x = h.mp x := rfl
theorem mp_put : (h.put b o).mp x = h.mp x := rfl
theorem mp_del : (h.del b).mp x = h.mp x := rfl
theorem mp_newM_self : (h.newM es).mp h.size = some es := if_pos rfl
theorem mp_newM (hb : b < h.size) : (h.newM es).mp b = h.mp b := if_neg (Nat.ne_of_lt hb)
theorem mp_putM_self : (h.putM b es).mp b = some es := if_pos rfl
theorem mp_putM (hx : x ≠ b) : (h.putM b es).mp x = h.mp x := if_neg hx
theorem size_new : (h.new o).size = h.size + 1 := rfl
theorem size_put : (h.put b o).size = h.size := rfl
theorem size_del : (h.del b).size = h.size := rfl
theorem size_newM : (h.newM es).size = h.size + 1 := rfl
theorem size_putM : (h.putM b es).size = h.size := rfl
theorem Wf.new (w : Wf h) : Wf (h.new o) := ⟨fun b hb => by
  have hb' : h.size + 1 ≤ b := hb
  show (if b = h.size then _ else _) = none
  rw [if_neg (by omega)]
  exact w.obs b (by omega), fun b hb => w.mps b (Nat.le_of_succ_le hb)⟩
theorem Wf.newM (w : Wf h) : Wf (h.newM es) := ⟨fun b hb => w.obs b (Nat.le_of_succ_le hb), fun b hb => by
  have hb' : h.size + 1 ≤ b := hb
  show (if b = h.size then _ else _) = none
  rw [if_neg (by omega)]
  exact w.mps b (by omega)⟩
theorem Wf.put (w : Wf h) (hb : b < h.size) : Wf (h.put b o) := ⟨fun x hx => by
  have hx' : h.size ≤ x := hx
  show (if x = b then _ else _) = none
  rw [if_neg (by omega)]
  exact w.obs x hx', w.mps⟩
theorem Wf.putM (w : Wf h) (hb : b < h.size) : Wf (h.putM b es) := ⟨w.obs, fun x hx => by
  have hx' : h.size ≤ x := hx
  show (if x = b then _ else _) = none
  rw [if_neg (by omega)]
  exact w.mps x hx'⟩
theorem Wf.del (w : Wf h) : Wf (h.del b) := ⟨fun x hx => by
  show (if x = b then _ else _) = none
  split
  · rfl
  · exact w.obs x hx, w.mps⟩
/-- Only what F names may have changed. -/
structure Fm (F : Nat → Prop) (h h' : Hp) : Prop where
  size : h.size ≤ h'.size
  get : ∀ x, x < h.size → ¬ F x → h'.get x = h.get x
  mp : ∀ x, x < h.size → ¬ F x → h'.mp x = h.mp x := by intros; rfl
theorem Fm.refl : Fm F h h := ⟨Nat.le_refl _, fun _ _ _ => rfl, fun _ _ _ => rfl⟩
theorem Fm.trans (a : Fm F h h1) (c : Fm G h1 h2) (hg : ∀ x, x < h.size → G x → F x) : Fm F h h2 :=
  ⟨Nat.le_trans a.size c.size, fun x hx hf => (c.get x (Nat.lt_of_lt_of_le hx a.size) fun g => hf (hg x hx g)).trans (a.get x hx hf),
    fun x hx hf => (c.mp x (Nat.lt_of_lt_of_le hx a.size) fun g => hf (hg x hx g)).trans (a.mp x hx hf)⟩
theorem Fm.mono (a : Fm F h h1) (hg : ∀ x, x < h.size → F x → G x) : Fm G h h1 := ⟨a.size, fun x hx hf => a.get x hx fun f => hf (hg x hx f), fun x hx hf => a.mp x hx fun f => hf (hg x hx f)⟩
theorem Fm.new (a : Fm F h h1) : Fm F h (h1.new o) := ⟨Nat.le_succ_of_le a.size, fun x hx hf => (get_new (Nat.lt_of_lt_of_le hx a.size)).trans (a.get x hx hf), a.mp⟩
theorem Fm.newM (a : Fm F h h1) : Fm F h (h1.newM es) := ⟨Nat.le_succ_of_le a.size, a.get, fun x hx hf => (mp_newM (Nat.lt_of_lt_of_le hx a.size)).trans (a.mp x hx hf)⟩
theorem Fm.put (a : Fm F h h1) (hb : b < h.size → F b) : Fm F h (h1.put b o) := ⟨a.size, fun x hx hf => (get_put fun e => hf (by subst e; exact hb hx)).trans (a.get x hx hf), a.mp⟩
theorem Fm.putM (a : Fm F h h1) (hb : b < h.size → F b) : Fm F h (h1.putM b es) := ⟨a.size, a.get, fun x hx hf => (mp_putM fun e => hf (by subst e; exact hb hx)).trans (a.mp x hx hf)⟩
theorem Fm.del (a : Fm F h h1) (hb : b < h.size → F b) : Fm F h (h1.del b) := ⟨a.size, fun x hx hf => (get_del fun e => hf (by subst e; exact hb hx)).trans (a.get x hx hf), a.mp⟩
theorem Fm.keep (a : Fm F h h1) (w : Wf h) (e : h.get b = some o) (hf : ¬ F b) : h1.get b = some o := (a.get b (w.lt e) hf).trans e
theorem Fm.keepM (a : Fm F h h1) (w : Wf h) (e : h.mp b = some es) (hf : ¬ F b) : h1.mp b = some es := (a.mp b (w.ltM e) hf).trans e
/-- Nothing. -/
def No : Nat → Prop := fun _ => False
end
section
variable {P : Program} {f : FuncId} {args : List Value} {h : Hp} {Q Q' : Value → Hp → Prop}
theorem Sim.wf {base : Nat} {w0 w : World} {γ : Gam} (s : Sim base w0 γ h w) : Wf h := ⟨fun b hb => (s.top b hb).2, s.maps.top⟩
theorem ACalls.use {g : Tag Q'} (c : ACalls P f args h Q) (k : ∀ v h', Wf h' → Q v h' → Q' v h') : CallT P f args h Q' g :=
  ⟨fun base w0 γ w args' s r => (c.out base w0 γ w args' s r).mono fun e w' ⟨v, v', h', γ', a, b, d, e, g, i⟩ => ⟨v, v', h', γ', a, k _ _ i.wf b, d, e, g, i⟩⟩
theorem Ok.snd (hm : P.follows .mixedOrders = true) {F : AF} (hF : Ok P f F) (hn : Nat.ble args.length F.n = true) (hw : Wf h → WF P F args h Q) : ACalls P f args h Q :=
  ⟨fun base w0 γ w args' s r => (hF.sound hm hn (hw s.wf)).out base w0 γ w args' s r⟩
end

/-! ### slices -/
/-- The block of a slice. -/
def At (oa : Option Addr) (x : Nat) : Prop := ∃ a, oa = some a ∧ a.block = x
theorem At.none {x : Nat} : ¬ At none x := fun ⟨_, h, _⟩ => by cases h
theorem At.some {a : Addr} {x : Nat} : At (some a) x ↔ a.block = x := ⟨fun ⟨b, h, e⟩ => by cases h; exact e, fun e => ⟨a, rfl, e⟩⟩
theorem rdN_get {h : Hp} {b off m : Nat} {cs : List Value} (e : h.rdN b off m = some cs) {i : Nat} {v : Value} (hv : cs[i]? = some v) : h.rd b (off + i) = some v := by
  obtain ⟨ob, h1, h2, rfl⟩ := rdN_of e
  unfold Hp.rd
  rw [h1]
  rw [List.getElem?_take] at hv
  split at hv
  · rw [List.getElem?_drop] at hv; exact hv
  · cases hv
theorem rdN_len {h : Hp} {b off m : Nat} {cs : List Value} (e : h.rdN b off m = some cs) : cs.length = m := by
  obtain ⟨ob, h1, h2, rfl⟩ := rdN_of e
  simp; omega
theorem rdN_mk {h : Hp} {b : Nat} {o : Ob} (hg : h.get b = some o) {off m : Nat} (hl : off + m ≤ o.cs.length) : h.rdN b off m = some ((o.cs.drop off).take m) := by
  unfold Hp.rdN; rw [hg]; simp only [if_pos hl]
theorem rd_mk {h : Hp} {b : Nat} {o : Ob} (hg : h.get b = some o) {i : Nat} : h.rd b i = o.cs[i]? := by
  unfold Hp.rd; rw [hg]
theorem rdN_keep {h h' : Hp} {b off m : Nat} (hg : h'.get b = h.get b) : h'.rdN b off m = h.rdN b off m := by unfold Hp.rdN; rw [hg]
theorem rd_keep {h h' : Hp} {b i : Nat} (hg : h'.get b = h.get b) : h'.rd b i = h.rd b i := by unfold Hp.rd; rw [hg]
theorem rdN_wf {h : Hp} (w : Wf h) {b off m : Nat} {cs : List Value} (e : h.rdN b off m = some cs) : b < h.size := by
  obtain ⟨ob, h1, h2, rfl⟩ := rdN_of e
  exact w.lt h1
/-- A slice of n elements of z cells each, read. -/
structure Rd (h : Hp) (z : Nat) (oa : Option Addr) (n : Nat) (cs : List Value) : Prop where
  len : cs.length = n * z
  nil : oa = none → n = 0
  at_ : ∀ a, oa = some a → (flagOk a.spot = true ∧ h.rdN a.block a.off (n * z) = some cs) ∨ (flagOk a.spot = false ∧ n = 0)
theorem Rd.keep {h h' : Hp} {z n : Nat} {oa : Option Addr} {cs : List Value} {F : Nat → Prop} (w : Wf h) (r : Rd h z oa n cs) (f : Fm F h h') (hf : ∀ x, At oa x → ¬ F x) : Rd h' z oa n cs :=
  ⟨r.len, r.nil, fun a ha => (r.at_ a ha).imp (fun ⟨h1, h2⟩ => ⟨h1, (rdN_keep (f.get _ (rdN_wf w h2) (hf _ ⟨_, ha, rfl⟩))).trans h2⟩) id⟩
theorem Rd.mk0 {h : Hp} {z : Nat} : Rd h z none 0 [] := ⟨by simp, fun _ => rfl, fun a h => by cases h⟩
theorem Rd.of {h : Hp} {z b off n : Nat} {sp : Option Nat} {cs : List Value} (hf : flagOk sp = true) (e : h.rdN b off (n * z) = some cs) : Rd h z (some ⟨b, off, sp⟩) n cs :=
  ⟨rdN_len e, fun h => (by cases h), fun a h => by cases h; exact .inl ⟨hf, e⟩⟩
theorem Rd.pos {h : Hp} {z n : Nat} {oa : Option Addr} {cs : List Value} (r : Rd h z oa n cs) (hn : 0 < n) : ∃ b off sp, oa = some ⟨b, off, sp⟩ ∧ flagOk sp = true ∧ h.rdN b off (n * z) = some cs := by
  rcases oa with _ | ⟨b, off, sp⟩
  · have := r.nil rfl; omega
  · rcases r.at_ _ rfl with ⟨h1, h2⟩ | ⟨_, h2⟩
    · exact ⟨b, off, sp, rfl, h1, h2⟩
    · omega
/-- What a slice of one cell each holds at a place. -/
theorem Rd.one {h : Hp} {oa : Option Addr} {n : Nat} {cs : List Value} (r : Rd h 1 oa n cs) {i : Nat} (hi : i < n) : ∃ b off sp v, oa = some ⟨b, off, sp⟩ ∧ flagOk sp = true ∧ cs[i]? = some v ∧ h.rd b (off + i) = some v := by
  obtain ⟨b, off, sp, e, h1, h2⟩ := r.pos (by omega)
  have hl : i < cs.length := by rw [r.len]; omega
  exact ⟨b, off, sp, cs[i], e, h1, List.getElem?_eq_getElem hl, rdN_get h2 (List.getElem?_eq_getElem hl)⟩
theorem Rd.int {h : Hp} {oa : Option Addr} {n : Nat} {k : IntKind} {xs : List Int} (r : Rd h 1 oa n (xs.map (Value.int k))) {i : Nat} (hi : i < n) :
    ∃ b off sp, oa = some ⟨b, off, sp⟩ ∧ flagOk sp = true ∧ ∃ v, xs[i]? = some v ∧ h.rd b (off + i) = some (.int k v) := by
  obtain ⟨b, off, sp, v, e, h1, h2, h3⟩ := r.one hi
  rw [List.getElem?_map] at h2
  cases hx : xs[i]? with
  | none => rw [hx] at h2; cases h2
  | some y => rw [hx] at h2; cases h2; exact ⟨b, off, sp, e, h1, y, rfl, h3⟩
theorem Rd.ilen {h : Hp} {oa : Option Addr} {n : Nat} {k : IntKind} {xs : List Int} (r : Rd h 1 oa n (xs.map (Value.int k))) : xs.length = n := by
  have := r.len; simpa using this
theorem Rd.src {h : Hp} {z n c : Nat} {oa : Option Addr} {cs : List Value} (r : Rd h z oa n cs) : h.src z (.slice oa n c) = some cs := by
  rcases oa with _ | ⟨b, off, sp⟩
  · have hn := r.nil rfl
    subst hn
    have : cs = [] := List.length_eq_zero_iff.1 (by simpa using r.len)
    subst this
    rfl
  · rcases r.at_ _ rfl with ⟨h1, h2⟩ | ⟨h1, h2⟩
    · simp only [Hp.src, h1, h2]
    · subst h2
      have : cs = [] := List.length_eq_zero_iff.1 (by simpa using r.len)
      subst this
      simp only [Hp.src, h1]
theorem src_new {h : Hp} {cs : List Value} {md : Md} {z n c : Nat} (e : lenIs cs (n * z) = true) : (h.new ⟨cs, md⟩).src z (.slice (some ⟨h.size, 0, none⟩) n c) = some cs := by
  have hl : cs.length = n * z := by rw [lenIs_p]; exact e
  simp only [Hp.src, flagOk_none]
  rw [rdN_mk get_new_self (by simp [hl]), List.drop_zero, List.take_of_length_le (by simp [hl])]
/-- A slice of one's own, at its block's beginning: it may grow. -/
structure Ow (h : Hp) (z : Nat) (oa : Option Addr) (ln cap : Nat) (cs : List Value) : Prop where
  len : cs.length = ln * z
  le : ln ≤ cap
  nil : oa = none → cap = 0
  at_ : ∀ a, oa = some a → a.off = 0 ∧ ∃ o, h.get a.block = some o ∧ o.md ≠ .ro ∧ cap * z ≤ o.cs.length ∧ o.cs.take (ln * z) = cs ∧ (a.spot = none ∨ (a.spot = some 0 ∧ o.md = .hid z))
theorem Ow.mk0 {h : Hp} {z : Nat} : Ow h z none 0 0 [] := ⟨by simp, Nat.le_refl _, fun _ => rfl, fun a h => by cases h⟩
theorem Ow.lt {h : Hp} {z ln cap : Nat} {oa : Option Addr} {cs : List Value} (o : Ow h z oa ln cap cs) (w : Wf h) : ∀ x, At oa x → x < h.size := fun x ⟨a, e, hx⟩ => by
  obtain ⟨_, ob, h1, _⟩ := o.at_ a e
  subst hx
  exact w.lt h1
theorem Ow.rd {h : Hp} {z ln cap : Nat} {oa : Option Addr} {cs : List Value} (o : Ow h z oa ln cap cs) : Rd h z oa ln cs := by
  refine ⟨o.len, fun e => ?_, fun a e => .inl ?_⟩
  · have := o.nil e; have := o.le; omega
  · obtain ⟨h0, ob, h1, h2, h3, h4, h5⟩ := o.at_ a e
    refine ⟨?_, ?_⟩
    · rcases h5 with h5 | h5
      · rw [h5]; rfl
      · rw [h5.1]; rfl
    · have : ln * z ≤ cap * z := Nat.mul_le_mul_right z o.le
      rw [h0, rdN_mk h1 (by omega), List.drop_zero, h4]
theorem Ow.keep {h h' : Hp} {z ln cap : Nat} {oa : Option Addr} {cs : List Value} {F : Nat → Prop} (w : Wf h) (o : Ow h z oa ln cap cs) (f : Fm F h h') (hf : ∀ x, At oa x → ¬ F x) : Ow h' z oa ln cap cs :=
  ⟨o.len, o.le, o.nil, fun a e => let ⟨h0, ob, h1, rest⟩ := o.at_ a e; ⟨h0, ob, f.keep w h1 (hf _ ⟨_, e, rfl⟩), rest⟩⟩
theorem Ow.new {h : Hp} {z n : Nat} {cs : List Value} (hl : cs.length = n * z) {m : Nat} (hm : m ≤ n) : Ow (h.new ⟨cs, .own⟩) z (some ⟨h.size, 0, none⟩) m n (cs.take (m * z)) := by
  have : m * z ≤ n * z := Nat.mul_le_mul_right z hm
  exact ⟨by simp; omega, hm, (fun e => by cases e), fun a e => by cases e; exact ⟨rfl, _, get_new_self, by simp, by simp [hl], rfl, .inl rfl⟩⟩
theorem take_app {α : Type} (l r : List α) (n : Nat) (h : l.length = n) : (l ++ r).take n = l := by subst h; simp
/-- Appending. -/
theorem Ow.app {h : Hp} {z bytes ln cap m : Nat} {oa : Option Addr} {cs xs : List Value} {K : Option Value → Hp → Prop} (w : Wf h) (o : Ow h z oa ln cap cs) (hx : xs.length = m * z) (hb : bytes * (ln + m) ≤ 140737488355328)
    (k : ∀ oa' cap' h', Ow h' z oa' (ln + m) cap' (cs ++ xs) → Wf h' → Fm (At oa) h h' → (∀ x, At oa' x → At oa x ∨ h.size ≤ x) → K (some (.slice oa' (ln + m) cap')) h') : appA z bytes (.slice oa ln cap) m xs h K := by
  have hlen := o.len
  have fresh : Ow (h.new ⟨cs ++ xs, .hid z⟩) z (some ⟨h.size, 0, some 0⟩) (ln + m) (ln + m) (cs ++ xs) :=
    ⟨by simp [hlen, hx, Nat.add_mul], Nat.le_refl _, (fun e => by cases e), fun a e => by cases e; exact ⟨rfl, _, get_new_self, by simp, by simp [hlen, hx, Nat.add_mul], by rw [List.take_of_length_le (by simp [hlen, hx, Nat.add_mul])], .inr ⟨rfl, rfl⟩⟩⟩
  have atn : ∀ x, At (some ⟨h.size, 0, some 0⟩) x → At oa x ∨ h.size ≤ x := fun x ⟨a, e, hx⟩ => by cases e; exact .inr (Nat.le_of_eq hx)
  rcases oa with _ | ⟨b, off, sp⟩
  · have hc := o.nil rfl
    have hl := o.le
    subst hc
    have hl : ln = 0 := by omega
    subst hl
    have hcs : cs = [] := List.length_eq_zero_iff.1 (by simpa using hlen)
    subst hcs
    show (if _ then _ else _)
    split
    · rename_i h0
      subst h0
      have : xs = [] := List.length_eq_zero_iff.1 (by simpa using hx)
      subst this
      exact k none 0 h (by simpa using o) w Fm.refl (fun x hx => .inl hx)
    · rename_i h0
      refine ⟨by simpa using hb, ?_⟩
      have := k _ _ _ (by simpa using fresh) w.new (Fm.new Fm.refl) atn
      simpa using this
  · obtain ⟨h0, ob, hg, hmd, hcap, htake, hsp⟩ := o.at_ _ rfl
    have h0 : off = 0 := h0
    subst h0
    show (if _ then _ else _)
    split
    · rename_i hle
      split
      · rename_i hm0
        subst hm0
        have : xs = [] := List.length_eq_zero_iff.1 (by simpa using hx)
        subst this
        exact k _ _ h (by simpa using o) w Fm.refl (fun x hx => .inl hx)
      · rename_i hm0
        have hmul : (ln + m) * z ≤ cap * z := Nat.mul_le_mul_right z hle
        have hadd : (ln + m) * z = ln * z + m * z := Nat.add_mul _ _ _
        refine ⟨?_, ob, hg, hmd, by omega, ?_⟩
        · rcases hsp with h | h
          · have h : sp = none := h
            subst h; rfl
          · have h : sp = some 0 := h.1
            subst h; rfl
        · refine k _ _ _ ⟨by simp [hlen, hx, hadd], hle, (fun e => by cases e), fun a e => ?_⟩ (w.put (w.lt hg)) (Fm.put Fm.refl fun _ => ⟨_, rfl, rfl⟩) (fun x hx => .inl hx)
          cases e
          refine ⟨rfl, _, get_put_self, hmd, ?_, ?_, hsp⟩
          · show cap * z ≤ (spl ob.cs (0 + ln * z) xs).length
            rw [spl_length (by omega)]; exact hcap
          · show (spl ob.cs (0 + ln * z) xs).take _ = _
            unfold spl
            rw [Nat.zero_add, htake, hadd]
            exact take_app _ _ _ (by simp [hlen, hx])
    · rename_i hle
      have hlz : ln * z ≤ cap * z := Nat.mul_le_mul_right z o.le
      refine ⟨hb, cs, ?_, ?_⟩
      · rw [rdN_mk hg (by omega), List.drop_zero, htake]
      · rcases hsp with hs | hs
        · have hs : sp = none := hs
          subst hs
          exact k _ _ _ fresh w.new (Fm.new Fm.refl) atn
        · have hs' : sp = some 0 := hs.1
          subst hs'
          refine ⟨ob, hg, hs.2, by omega, ?_⟩
          have : Ow ((h.del b).new ⟨cs ++ xs, .hid z⟩) z (some ⟨h.size, 0, some 0⟩) (ln + m) (ln + m) (cs ++ xs) :=
            ⟨fresh.len, Nat.le_refl _, (fun e => by cases e), fun a e => by cases e; exact ⟨rfl, _, get_new_self, by simp, by simp [hlen, hx, Nat.add_mul], by rw [List.take_of_length_le (by simp [hlen, hx, Nat.add_mul])], .inr ⟨rfl, rfl⟩⟩⟩
          exact k _ _ _ this (w.del).new (Fm.new (Fm.del Fm.refl fun _ => ⟨_, rfl, rfl⟩)) atn
theorem Ow.add {h : Hp} {z bytes ln cap m : Nat} {oa : Option Addr} {cs xs : List Value} {K : Value → Hp → Prop} {tg : Tag K} (w : Wf h) (o : Ow h z oa ln cap cs) (hx : xs.length = m * z) (hb : bytes * (ln + m) ≤ 140737488355328)
    (k : ∀ oa' cap' h', Ow h' z oa' (ln + m) cap' (cs ++ xs) → Wf h' → Fm (At oa) h h' → (∀ x, At oa' x → At oa x ∨ h.size ≤ x) → K (.slice oa' (ln + m) cap') h') : appV z bytes (.slice oa ln cap) m xs h K tg := Ow.app w o hx hb k
/-- One element of one's own: read, and written anew. -/
theorem Ow.cell {h : Hp} {ln cap i : Nat} {oa : Option Addr} {cs : List Value} (w : Wf h) (o : Ow h 1 oa ln cap cs) (hi : i < ln) :
    ∃ b sp ob v, oa = some ⟨b, 0, sp⟩ ∧ flagOk sp = true ∧ h.get b = some ob ∧ (ob.md = .ro) = False ∧ leIs (i + 1) ob.cs = true ∧ cs[i]? = some v ∧ h.rd b i = some v ∧
      ∀ u, (spl ob.cs i [u])[i]? = some u ∧ Ow (h.put b ⟨spl ob.cs i [u], ob.md⟩) 1 oa ln cap (cs.set i u) ∧ Wf (h.put b ⟨spl ob.cs i [u], ob.md⟩) ∧ Fm (At oa) h (h.put b ⟨spl ob.cs i [u], ob.md⟩) := by
  rcases oa with _ | ⟨b, off, sp⟩
  · have := o.nil rfl; have := o.le; omega
  · obtain ⟨h0, ob, hg, hmd, hcap, htake, hsp⟩ := o.at_ _ rfl
    have h0 : off = 0 := h0
    subst h0
    have hle := o.le
    have hlen := o.len
    have hcap : cap ≤ ob.cs.length := by simpa using hcap
    have htake : ob.cs.take ln = cs := by simpa using htake
    have hil : i < ob.cs.length := by omega
    refine ⟨b, sp, ob, ob.cs[i], rfl, ?_, hg, by simpa using hmd, by rw [← leIs_p]; omega, ?_, ?_, fun u => ⟨?_, ⟨by simpa using hlen, hle, (fun e => by cases e), fun a e => ?_⟩, w.put (w.lt hg), Fm.put Fm.refl fun _ => ⟨_, rfl, rfl⟩⟩⟩
    · rcases hsp with h | h
      · have h : sp = none := h
        subst h; rfl
      · have h : sp = some 0 := h.1
        subst h; rfl
    · rw [← htake, List.getElem?_take, if_pos hi, List.getElem?_eq_getElem hil]
    · rw [rd_mk hg, List.getElem?_eq_getElem hil]
    · rw [spl_one _ _ _ hil, List.getElem?_set_self hil]
    · cases e
      refine ⟨rfl, _, get_put_self, hmd, ?_, ?_, hsp⟩
      · show cap * 1 ≤ (spl ob.cs i [u]).length
        rw [spl_length (by simp; omega)]; omega
      · show (spl ob.cs i [u]).take _ = _
        rw [spl_one _ _ _ hil, Nat.mul_one, List.take_set, htake]
/-- Appending, where the new elements were just made. -/
theorem Ow.push {h : Hp} {z bytes ln cap m : Nat} {oa : Option Addr} {cs xs : List Value} {g : Ob} {K : Value → Hp → Prop} (w : Wf h) (o : Ow h z oa ln cap cs) (hx : xs.length = m * z) (hb : bytes * (ln + m) ≤ 140737488355328)
    (k : ∀ oa' cap' h', Ow h' z oa' (ln + m) cap' (cs ++ xs) → Wf h' → Fm (At oa) h h' → (∀ x, At oa' x → At oa x ∨ h.size ≤ x) → K (.slice oa' (ln + m) cap') h') {tg : Tag K} : appV z bytes (.slice oa ln cap) m xs (h.new g) K tg := by
  have fm : Fm No h (h.new g) := Fm.new Fm.refl
  refine Ow.app w.new (o.keep w fm fun _ _ => id) hx hb fun oa' cap' h' o' w' f' n' => k oa' cap' h' o' w' ?_ fun x hx => (n' x hx).imp id fun hs => Nat.le_of_succ_le hs
  exact (fm.mono fun _ _ h => h.elim).trans f' fun _ _ h => h
/-- New memory: nothing there was before. -/
def Nw (h : Hp) (oa : Option Addr) : Prop := ∀ x, At oa x → h.size ≤ x
theorem Nw.none {h : Hp} : Nw h none := fun x hx => absurd hx At.none
theorem Nw.new {h h1 : Hp} {k : Nat} {sp : Option Nat} (fm : Fm No h h1) : Nw h (some ⟨h1.size, k, sp⟩) := fun x ⟨a, e, hx⟩ => by cases e; exact hx ▸ fm.size
theorem grown {h h1 h2 : Hp} {oa oa' : Option Addr} (fm : Fm No h h1) (nw : Nw h oa) (f : Fm (At oa) h1 h2) (n : ∀ x, At oa' x → At oa x ∨ h1.size ≤ x) : Fm No h h2 ∧ Nw h oa' :=
  ⟨fm.trans f fun x hx ha => absurd (nw x ha) (Nat.not_le_of_lt hx), fun x hx => (n x hx).elim (nw x) (fun hs => Nat.le_trans fm.size hs)⟩
/-- A store into a slice of one's own, of elements of one cell. -/
theorem Ow.set {h : Hp} {ln cap i : Nat} {oa : Option Addr} {cs : List Value} {v : Value} (w : Wf h) (o : Ow h 1 oa ln cap cs) (hi : i < ln) :
    ∃ b sp ob, oa = some ⟨b, 0, sp⟩ ∧ flagOk sp = true ∧ h.get b = some ob ∧ ob.md ≠ .ro ∧ i + 1 ≤ ob.cs.length ∧ Ow (h.put b ⟨spl ob.cs i [v], ob.md⟩) 1 oa ln cap (cs.set i v) := by
  rcases oa with _ | ⟨b, off, sp⟩
  · have := o.nil rfl; have := o.le; omega
  · obtain ⟨h0, ob, hg, hmd, hcap, htake, hsp⟩ := o.at_ _ rfl
    have h0 : off = 0 := h0
    subst h0
    have hle := o.le
    have hlen := o.len
    have hcap : cap ≤ ob.cs.length := by simpa using hcap
    refine ⟨b, sp, ob, rfl, ?_, hg, hmd, by omega, by simpa using hlen, hle, (fun e => by cases e), fun a e => ?_⟩
    · rcases hsp with h | h
      · have h : sp = none := h
        subst h; rfl
      · have h : sp = some 0 := h.1
        subst h; rfl
    · cases e
      refine ⟨rfl, _, get_put_self, hmd, ?_, ?_, hsp⟩
      · show cap * 1 ≤ (spl ob.cs i [v]).length
        rw [spl_length (by simp; omega)]; omega
      · show (spl ob.cs i [v]).take _ = _
        have htake : ob.cs.take ln = cs := by simpa using htake
        rw [spl_one _ _ _ (by omega), Nat.mul_one, List.take_set, htake]
end Go.Proofs.Ytbfbgkhlngkifaa.Am
