/- The abstract steps, what each does, and that it does so in the world. Plain theorems.
   Conditions: none. -/
import Derived.Test.YtbfbgkhlngkifaaAmC
namespace Go.Proofs.Ytbfbgkhlngkifaa.Am
open Go Go.RowKit
set_option linter.unusedVariables false
set_option linter.unusedSimpArgs false

def optO (t : Tm) : Option Operand → Option (Option Value)
  | none => some none
  | some x => match ev t x with
    | some v => some (some v)
    | none => none
/-- The bounds of a slice expression. -/
def bnds (len cap : Nat) (lo hi mx : Option Value) (K : Nat → Nat → Nat → Prop) : Prop :=
  match lo, hi, mx with
  | none, none, none => K 0 len cap
  | some (.int _ l), none, none => (0 ≤ l ∧ l ≤ len) ∧ K l.toNat len cap
  | none, some (.int _ u), none => (0 ≤ u ∧ u ≤ cap) ∧ K 0 u.toNat cap
  | some (.int _ l), some (.int _ u), none => (0 ≤ l ∧ l ≤ u ∧ u ≤ cap) ∧ K l.toNat u.toNat cap
  | none, some (.int _ u), some (.int _ m) => (0 ≤ u ∧ u ≤ m ∧ m ≤ cap) ∧ K 0 u.toNat m.toNat
  | some (.int _ l), some (.int _ u), some (.int _ m) => (0 ≤ l ∧ l ≤ u ∧ u ≤ m ∧ m ≤ cap) ∧ K l.toNat u.toNat m.toNat
  | _, _, _ => False
/-- The address of a slice from element l on. -/
def slAddr (b off : Nat) (sp : Option Nat) (z l m : Nat) (full : Bool) : Addr := match full, sp with
  | true, some k => if m = l then ⟨b, off, some (l * z)⟩ else ⟨b, off + l * z, some k⟩
  | true, none => ⟨b, if m = l then off else off + l * z, none⟩
  | false, _ => ⟨b, if m = l then off else off + l * z, none⟩
/-- Equal cells; sh tells each cell's kind: 0 a bool, 1 a number, 2 a string. -/
def eqCell : Nat → Value → Value → Option Bool
  | 1, .int k a, .int k' b => if k = k' then some (a == b) else none
  | 0, .bool a, .bool b => some (a == b)
  | 2, .string a, .string b => some (a == b)
  | _, _, _ => none
def eqCells : List Nat → List Value → List Value → Option Bool
  | [], [], [] => some true
  | s :: ss, x :: xs, y :: ys => match eqCell s x y, eqCells ss xs ys with
    | some a, some b => some (a && b)
    | _, _ => none
  | _, _, _ => none
/-- A zero value, by its cells. -/
def mkZ (ag : Bool) (z : List Value) : Value := match ag with
  | true => .agg z.toArray
  | false => z.headD (.tuple #[])
/-- Equal keys of a map; ka: the key's type is a struct or an array. -/
def eqKey (ka : Bool) (sh : List Nat) (x y : Value) : Option Bool := match ka with
  | true => match x, y with
    | .agg a, .agg b => eqCells sh a.toList b.toList
    | _, _ => none
  | false => eqCells sh [x] [y]
/-- The place of a key. -/
def mfind (ka : Bool) (sh : List Nat) (k : Value) : List (Value × Value) → Nat → Option (Option Nat)
  | [], _ => some none
  | e :: es, i => match eqKey ka sh k e.1 with
    | some true => some (some i)
    | some false => mfind ka sh k es (i + 1)
    | none => none
def mset (es : List (Value × Value)) (k v : Value) : Option Nat → List (Value × Value)
  | none => es ++ [(k, v)]
  | some i => es.set i (k, v)
def mval (es : List (Value × Value)) (z : Value) : Option Nat → Value × Bool
  | none => (z, false)
  | some i => match es[i]? with
    | some p => (p.2, true)
    | none => (z, false)
def lkV (ok : Bool) (r : Value × Bool) : Value := match ok with
  | true => .tuple #[r.1, .bool r.2]
  | false => r.1
def Hp.mof (h : Hp) : Option Nat → Option (List (Value × Value))
  | none => some []
  | some b => h.mp b
/-- The method of a dynamic type. -/
def findR : List (Nat × Nat) → Nat → Option Nat
  | [], _ => none
  | (t, f) :: r, ty => match Nat.beq ty t with
    | true => some f
    | false => findR r ty
def rep (n : Nat) (z : List Value) : List Value := (List.replicate n z).flatten
def intMin : List Value → Option Value
  | [.int k x, .int k' y] => if k = k' then some (.int k (if y < x then y else x)) else none
  | _ => none
def intMax : List Value → Option Value
  | [.int k x, .int k' y] => if k = k' then some (.int k (if y > x then y else x)) else none
  | _ => none
/-- Is it nil: of pointers (0), slices (1), functions (2). -/
def isNilV : Nat → Value → Option Bool
  | 0, .pointer a => some a.isNone
  | 1, .slice none 0 0 => some true
  | 1, .slice none 0 (_ + 1) => some false
  | 1, .slice (some _) _ _ => some false
  | 2, .nilFunc => some true
  | 2, .func .. => some false
  | _, _ => none
/-- A slice that may have hidden capacity shows at least its length. -/
def capOk : Option Nat → Nat → Nat → Prop
  | none, _, _ => True
  | some _, ln, cap => ln ≤ cap
/-- The cells of a slice. -/
def Hp.src (h : Hp) (z : Nat) : Value → Option (List Value)
  | .slice none _ _ => some []
  | .slice (some ⟨b, off, sp⟩) ln _ => match flagOk sp with
    | true => h.rdN b off (ln * z)
    | false => match ln with
      | 0 => some []
      | _ => none
  | _ => none
/-- An append of m elements whose cells are cs. -/
def appA (z bytes : Nat) (s : Value) (m : Nat) (cs : List Value) (h : Hp) (K : Option Value → Hp → Prop) : Prop := match s with
  | .slice none 0 0 => if m = 0 then K (some (.slice none 0 0)) h else bytes * m ≤ 140737488355328 ∧ K (some (.slice (some ⟨h.size, 0, some 0⟩) m m)) (h.new ⟨cs, .hid z⟩)
  | .slice (some ⟨b, off, sp⟩) ln cap =>
    if ln + m ≤ cap then
      if m = 0 then K (some (.slice (some ⟨b, off, sp⟩) ln cap)) h
      else flagOk sp = true ∧ ∃ o, h.get b = some o ∧ o.md ≠ .ro ∧ off + (ln + m) * z ≤ o.cs.length ∧ K (some (.slice (some ⟨b, off, sp⟩) (ln + m) cap)) (h.put b ⟨spl o.cs (off + ln * z) cs, o.md⟩)
    else bytes * (ln + m) ≤ 140737488355328 ∧ ∃ old, h.rdN b off (ln * z) = some old ∧ match sp with
      | none => K (some (.slice (some ⟨h.size, 0, some 0⟩) (ln + m) (ln + m))) (h.new ⟨old ++ cs, .hid z⟩)
      | some 0 => ∃ o, h.get b = some o ∧ o.md = .hid z ∧ off + cap * z ≤ o.cs.length ∧ K (some (.slice (some ⟨h.size, 0, some 0⟩) (ln + m) (ln + m))) ((h.del b).new ⟨old ++ cs, .hid z⟩)
      | some (k + 1) => ln = 0 ∧ ∃ o, h.get b = some o ∧ o.md = .hid z ∧ off + (k + 1) + cap * z ≤ o.cs.length ∧ K (some (.slice (some ⟨h.size, 0, some 0⟩) (ln + m) (ln + m))) ((h.del b).new ⟨old ++ cs, .hid z⟩)
  | _ => False

def AK.step (k : AK) (t : Tm) (h : Hp) (K : Option Value → Hp → Prop) : Prop := match k with
  | .mv x => K (ev t x) h
  | .pick c x y => match ev t c with
    | some (.bool b) => K (if b then ev t x else ev t y) h
    | _ => False
  | .box x => match ev t x with
    | some v => okStore v = true ∧ K (some (.pointer (some ⟨h.size, 0, none⟩))) (h.new ⟨cellsOf v, .own⟩)
    | none => False
  | .alloc z => K (some (.pointer (some ⟨h.size, 0, none⟩))) (h.new ⟨z, .own⟩)
  | .build z ps => match fillA t z ps with
    | some cs => K (some (.agg cs.toArray)) h
    | none => False
  | .bslice z m ps => match fillA t z ps with
    | some cs => K (some (.slice (some ⟨h.size, 0, none⟩) m m)) (h.new ⟨cs, .own⟩)
    | none => False
  | .ld1 a => match ev t a with
    | some (.pointer (some ⟨b, i, none⟩)) => ∃ v, h.rd b i = some v ∧ K (some v) h
    | _ => False
  | .ldN z a => match ev t a with
    | some (.pointer (some ⟨b, i, none⟩)) => ∃ cs, h.rdN b i z = some cs ∧ K (some (.agg cs.toArray)) h
    | _ => False
  | .st z a x => match ev t a, ev t x with
    | some (.pointer (some ⟨b, i, none⟩)), some v =>
      ∃ o, h.get b = some o ∧ o.md ≠ .ro ∧ okStore v = true ∧ (cellsOf v).length = z ∧ i + z ≤ o.cs.length ∧ K none (h.put b ⟨spl o.cs i (cellsOf v), o.md⟩)
    | _, _ => False
  | .nil x => match ev t x with
    | some (.pointer (some a)) => K (some (.pointer (some a))) h
    | some (.func (.func f) u v) => K (some (.func (.func f) u v)) h
    | some (.iface ty v) => K (some (.iface ty v)) h
    | _ => False
  | .bin op x y => match ev t x, ev t y with
    | some a, some b => binK op a b (fun v => K (some v) h)
    | _, _ => False
  | .shlc x n => match ev t x with
    | some (.int k a) => K (some (.int k (k.wrap (a * 2 ^ min n k.bits)))) h
    | _ => False
  | .shrc x n => match ev t x with
    | some (.int k a) => K (some (.int k (a.fdiv (2 ^ min n k.bits)))) h
    | _ => False
  | .un op x => match op, ev t x with
    | .neg, some (.int k a) => K (some (.int k (k.wrap (0 - a)))) h
    | .not, some (.bool b) => K (some (.bool !b)) h
    | .xor, some (.int k a) => K (some (.int k (k.wrap (BitVec.ofInt k.bits (if k.signed then -1 else k.max) ^^^ BitVec.ofInt k.bits a).toNat))) h
    | _, _ => False
  | .cvi k x => match ev t x with
    | some (.int _ a) => K (some (.int k (k.wrap a))) h
    | _ => False
  | .mkif ty x => match ev t x with
    | some v => K (some (.iface ty v)) h
    | none => False
  | .mkf f us vs => match evs t us, evs t vs with
    | some xs, some ys => K (some (.func (.func f) xs.toArray ys.toArray)) h
    | _, _ => False
  | .mks z bytes l c => match ev t l, ev t c with
    | some (.int _ n), some (.int _ m) => (0 ≤ n ∧ n ≤ m ∧ bytes * m ≤ 140737488355328 ∧ m ≤ 140737488355328) ∧ K (some (.slice (some ⟨h.size, 0, none⟩) n.toNat m.toNat)) (h.new ⟨rep m.toNat z, .own⟩)
    | _, _ => False
  | .slc z x lo hi m3 => match ev t x, optO t lo, optO t hi, optO t m3 with
    | some (.slice (some ⟨b, off, sp⟩) ln cap), some l, some u, some m => flagOk sp = true ∧ capOk sp ln cap ∧ bnds ln cap l u m fun l u m' => K (some (.slice (some (slAddr b off sp z l m' m.isNone)) (u - l) (m' - l))) h
    | some (.slice none 0 0), some l, some u, some m => bnds 0 0 l u m fun _ _ _ => K (some (.slice none 0 0)) h
    | _, _, _, _ => False
  | .slcs x lo hi => match ev t x, optO t lo, optO t hi with
    | some (.string s), some l, some u => bnds s.size s.size l u none fun l u _ => K (some (.string (s.extract l u))) h
    | _, _, _ => False
  | .slca n z x lo hi m3 => match ev t x, optO t lo, optO t hi, optO t m3 with
    | some (.pointer (some ⟨b, off, none⟩)), some l, some u, some m => bnds n n l u m fun l u m' => K (some (.slice (some ⟨b, if m' = l then off else off + l * z, none⟩) (u - l) (m' - l))) h
    | _, _, _, _ => False
  | .fa off x => match ev t x with
    | some (.pointer (some ⟨b, i, none⟩)) => K (some (.pointer (some ⟨b, i + off, none⟩))) h
    | _ => False
  | .fld1 off x => match ev t x with
    | some (.agg cs) => ∃ v, cs.toList[off]? = some v ∧ K (some v) h
    | _ => False
  | .fldN off z x => match ev t x with
    | some (.agg cs) => off + z ≤ cs.toList.length ∧ K (some (.agg ((cs.toList.drop off).take z).toArray)) h
    | _ => False
  | .ia z x i => match ev t x, ev t i with
    | some (.slice (some ⟨b, off, sp⟩) ln cap), some (.int k j) => flagOk sp = true ∧ (0 ≤ j ∧ j < ln) ∧ K (some (.pointer (some ⟨b, off + j.toNat * z, none⟩))) h
    | _, _ => False
  | .iaa n z x i => match ev t x, ev t i with
    | some (.pointer (some ⟨b, off, none⟩)), some (.int k j) => (0 ≤ j ∧ j < n) ∧ K (some (.pointer (some ⟨b, off + j.toNat * z, none⟩))) h
    | _, _ => False
  | .ixs x i => match ev t x, ev t i with
    | some (.string s), some (.int k j) => 0 ≤ j ∧ ∃ b, s.data.toList[j.toNat]? = some b ∧ K (some (.int .u8 b.toNat)) h
    | _, _ => False
  | .ixa1 n x i => match ev t x, ev t i with
    | some (.agg cs), some (.int k j) => (0 ≤ j ∧ j < n) ∧ ∃ v, cs.toList[j.toNat]? = some v ∧ K (some v) h
    | _, _ => False
  | .ixaN n z x i => match ev t x, ev t i with
    | some (.agg cs), some (.int k j) => (0 ≤ j ∧ j < n) ∧ j.toNat * z + z ≤ cs.toList.length ∧ K (some (.agg ((cs.toList.drop (j.toNat * z)).take z).toArray)) h
    | _, _ => False
  | .ext x i => match ev t x with
    | some (.tuple vs) => ∃ v, vs.toList[i]? = some v ∧ K (some v) h
    | _ => False
  | .len x => match ev t x with
    | some (.slice _ n _) => K (some (.int .i64 n)) h
    | _ => False
  | .lens x => match ev t x with
    | some (.string s) => K (some (.int .i64 s.size)) h
    | _ => False
  | .app z bytes s x => match ev t s, ev t x with
    | some sv, some (.slice xa m xc) => ∃ cs, h.src z (.slice xa m xc) = some cs ∧ appA z bytes sv m cs h K
    | _, _ => False
  | .apps s x => match ev t s, ev t x with
    | some sv, some (.string str) => appA 1 1 sv str.size (str.data.toList.map fun b => .int .u8 b.toNat) h K
    | _, _ => False
  | .clr z x => match ev t x with
    | some (.slice none _ _) => K (some (.tuple #[])) h
    | some (.slice (some ⟨b, off, sp⟩) n _) => flagOk sp = true ∧ ∃ o, h.get b = some o ∧ o.md ≠ .ro ∧ off + n * z.length ≤ o.cs.length ∧ K (some (.tuple #[])) (h.put b ⟨spl o.cs off (rep n z), o.md⟩)
    | _ => False
  | .cpy z d x => match ev t d, ev t x with
    | some (.slice (some ⟨b, off, sp⟩) dl dc), some (.slice xa m xc) => flagOk sp = true ∧ ∃ cs, h.src z (.slice xa (Nat.min m dl) xc) = some cs ∧
        ∃ o, h.get b = some o ∧ o.md ≠ .ro ∧ off + Nat.min m dl * z ≤ o.cs.length ∧ K (some (.int .i64 (Nat.min m dl : Nat))) (h.put b ⟨spl o.cs off cs, o.md⟩)
    | _, _ => False
  | .mn xs => match evs t xs with
    | some vs => match intMin vs with
      | some v => K (some v) h
      | none => False
    | none => False
  | .mx xs => match evs t xs with
    | some vs => match intMax vs with
      | some v => K (some v) h
      | none => False
    | none => False
  | .nileq neg tag x y => match ev t x, ev t y with
    | some a, some b => match isNilV tag a, isNilV tag b with
      | some true, some q => K (some (.bool (if neg then !q else q))) h
      | some p, some true => K (some (.bool (if neg then !p else p))) h
      | _, _ => False
    | _, _ => False
  | .eqa neg sh x y => match ev t x, ev t y with
    | some (.agg a), some (.agg b) => ∃ r, eqCells sh a.toList b.toList = some r ∧ K (some (.bool (if neg then !r else r))) h
    | _, _ => False
  | .beq neg x y => match ev t x, ev t y with
    | some (.bool p), some (.bool q) => K (some (.bool (if neg then p != q else p == q))) h
    | _, _ => False
  | .sob x => match ev t x with
    | some (.string s) => K (some (.slice (some ⟨h.size, 0, some 0⟩) s.size s.size)) (h.new ⟨s.data.toList.map fun b => .int .u8 b.toNat, .hid 1⟩)
    | _ => False
  | .bos x => match ev t x with
    | some (.slice none _ _) => K (some (.string .empty)) h
    | some (.slice (some ⟨b, off, sp⟩) ln _) => flagOk sp = true ∧ ∃ ns : List Int, h.rdN b off ln = some (ns.map (Value.int .u8)) ∧ K (some (.string ⟨(ns.map fun n => UInt8.ofNat n.toNat).toArray⟩)) h
    | _ => False
  | .mkm r => match optO t r with
    | some none => K (some (.map (some h.size))) (h.newM [])
    | some (some (.int _ _)) => K (some (.map (some h.size))) (h.newM [])
    | _ => False
  | .upd ka sh m k x => match ev t m, ev t k, ev t x with
    | some (.map (some b)), some kv, some v => eqKey ka sh kv kv = some true ∧ ∃ es, h.mp b = some es ∧ ∃ r, mfind ka sh kv es 0 = some r ∧ K none (h.putM b (mset es kv v r))
    | _, _, _ => False
  | .lkp ka sh ag z ok m k => match ev t m, ev t k with
    | some (.map mb), some kv => eqKey ka sh kv kv = some true ∧ ∃ es, h.mof mb = some es ∧ ∃ r, mfind ka sh kv es 0 = some r ∧ K (some (lkV ok (mval es (mkZ ag z) r))) h
    | _, _ => False
  | .tas ty ag z ok x => match ev t x with
    | some (.iface u v) => if u = ty then K (some (lkV ok (v, true))) h else ok = true ∧ K (some (.tuple #[mkZ ag z, .bool false])) h
    | some .nilIface => ok = true ∧ K (some (.tuple #[mkZ ag z, .bool false])) h
    | _ => False
  | .call _ _ | .callv _ _ | .inv _ _ _ | .stuck => False

section
variable {P : Program} {n base : Nat} {w0 : World} {γ : Gam} {h : Hp} {w : World} {t : Tm} {a : Act} {K : Option Value → Hp → Prop} {o : Oper}

theorem s_mv (r : TRel γ n t a) {m : Nat} {x : Operand} (ho : o.op = .move x ∨ o.op = .assign x) (hx : okO m x = true) (hs : (AK.mv x).step t h K) : PG P γ o a h K :=
  ⟨a.eval x, fun w => by rcases ho with ho | ho <;> simp [execOp, ho, Sem.run], ev t x, hs, fun v hv => r.ev hx hv⟩

theorem s_box (r : TRel γ n t a) (s : Sim base w0 γ h w) {m : Nat} {x : Operand} {e : TypeId} (ho : o.op = .box e x) (hx : okO m x = true) (hs : (AK.box x).step t h K) : Got P base w0 γ w ((execOp a.eval o).run P w) K := by
  simp only [AK.step] at hs
  split at hs
  · rename_i v hv
    obtain ⟨hst, hk⟩ := hs
    have rv := r.ev hx hv
    obtain ⟨s', hsub⟩ := s.alloc e rv.cells (okStore_cells hst)
    refine ⟨_, _, _, _, _, hk, hsub, Fr.new (by simp) (fun k hk => Below.heap_alloc _ _ _ hk) (s.top _ (Nat.le_refl _)).1, s', ?_, .inr ⟨.pointer (some ⟨w.heap.size, 0, none⟩), rfl, fun u hu => ?_⟩⟩
    · simp [execOp, ho, Instr.box, newVar, newRow, ← cellsOf_eq]
    · cases hu
      exact VRel.ptr (off := 0) Gam.add_self
  · exact hs.elim

theorem s_ld1 (r : TRel γ n t a) (s : Sim base w0 γ h w) {m : Nat} {x : Operand} {ty : TypeId} {d : TypeDesc} (ho : o.op = .load ty x) (hx : okO m x = true)
    (hd : P.underlying ty = some d) (hagg : aggD d = false) (hs : (AK.ld1 x).step t h K) : Got P base w0 γ w ((execOp a.eval o).run P w) K := by
  simp only [AK.step] at hs
  split at hs
  · rename_i b i hv
    obtain ⟨v, hrd, hk⟩ := hs
    have rv := r.ev hx hv
    cases hax : a.eval x <;> rw [hax] at rv <;> cases rv
    rename_i c σ E hg
    unfold Hp.rd at hrd
    cases hget : h.get b with
    | none => rw [hget] at hrd; cases hrd
    | some ob =>
      rw [hget] at hrd
      obtain ⟨C, e, lo, hi, l⟩ := s.at hg hget
      obtain ⟨v', hc, rv'⟩ := l.cell hrd
      refine Got.pure s hk ?_ rv'
      have hag : (isAgg ty).run P w = .ok false w := by
        unfold isAgg
        rw [Sem.run_bind, run_underlying hd]
        simp only [Result.andThen_ok]
        cases d <;> simp_all [Sem.run, aggD]
      simp [execOp, ho, hax, Instr.loadAt, Instr.sureAddr, loadVar, Sem.run_bind, hag, run_load, hc]
  · exact hs.elim
end
end Go.Proofs.Ytbfbgkhlngkifaa.Am
