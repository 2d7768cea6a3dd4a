/- Code carried out: what is known wholly is computed. Plain theorems.
   Conditions: none. -/
import Derived.Test.YtbfbgkhlngkifaaAmV
namespace Go.Proofs.Ytbfbgkhlngkifaa.Am
open Go Go.RowKit
set_option linter.unusedVariables false
set_option linter.unusedSimpArgs false

def xPtr (t : Tm) (a : Operand) {β : Type} (k : Nat → Nat → Option β) : Option β := match ev t a with
  | some (.pointer (some ⟨b, i, none⟩)) => k b i
  | _ => none
theorem xPtr_some {t : Tm} {a : Operand} {β : Type} {k : Nat → Nat → Option β} {r : β} (h : xPtr t a k = some r) : ∃ b i, ev t a = some (.pointer (some ⟨b, i, none⟩)) ∧ k b i = some r := by
  unfold xPtr at h
  split at h
  · exact ⟨_, _, by assumption, h⟩
  · cases h
def bytesV (cs : List Value) : Option (List Int) := match cs with
  | [] => some []
  | .int .u8 n :: r => match bytesV r with
    | some l => some (n :: l)
    | none => none
  | _ => none
theorem bytesV_some : ∀ {cs : List Value} {ns : List Int}, bytesV cs = some ns → cs = ns.map (Value.int .u8)
  | [], ns, h => by cases h; rfl
  | .int .u8 n :: r, ns, h => by
    simp only [bytesV] at h
    split at h
    · rename_i l hl
      cases h
      rw [List.map_cons, ← bytesV_some hl]
    · cases h
/-- A step carried out. -/
def xK (k : AK) (t : Tm) (h : HL) : XR := match k with
  | .mv x => some (ev t x, h)
  | .pick c x y => match ev t c with
    | some (.bool true) => some (ev t x, h)
    | some (.bool false) => some (ev t y, h)
    | _ => none
  | .box x => xOpt (ev t x) fun v => xIf (okStore v = true) (some (some (.pointer (some ⟨h.size, 0, none⟩)), h.new ⟨cellsOf v, .own⟩))
  | .alloc z => some (some (.pointer (some ⟨h.size, 0, none⟩)), h.new ⟨z, .own⟩)
  | .build z ps => xOpt (fillA t z ps) fun cs => some (some (.agg cs.toArray), h)
  | .bslice z m ps => xOpt (fillA t z ps) fun cs => some (some (.slice (some ⟨h.size, 0, none⟩) m m), h.new ⟨cs, .own⟩)
  | .ld1 a => xPtr t a fun b i => xOpt (h.hp.rd b i) fun v => some (some v, h)
  | .ldN z a => xPtr t a fun b i => xOpt (h.hp.rdN b i z) fun cs => some (some (.agg cs.toArray), h)
  | .st z a x => xPtr t a fun b i => xOpt (ev t x) fun v => xOpt (h.hp.get b) fun o =>
      xIf (isRo o.md = false ∧ okStore v = true ∧ (cellsOf v).length = z ∧ i + z ≤ o.cs.length) (some (none, h.put b ⟨spl o.cs i (cellsOf v), o.md⟩))
  | .nil x => match ev t x with
    | some (.pointer (some a)) => some (some (.pointer (some a)), h)
    | some (.func (.func f) u v) => some (some (.func (.func f) u v), h)
    | some (.iface ty v) => some (some (.iface ty v), h)
    | _ => none
  | .bin op x y => xOpt (ev t x) fun a => xOpt (ev t y) fun b => xOpt (xBin op a b) fun v => some (some v, h)
  | .shlc x n => match ev t x with
    | some (.int k a) => some (some (.int k (k.wrap (a * 2 ^ min n k.bits))), h)
    | _ => none
  | .shrc x n => match ev t x with
    | some (.int k a) => some (some (.int k (a.fdiv (2 ^ min n k.bits))), h)
    | _ => none
  | .un op x => match op, ev t x with
    | .neg, some (.int k a) => some (some (.int k (k.wrap (0 - a))), h)
    | .not, some (.bool b) => some (some (.bool !b), h)
    | .xor, some (.int k a) => some (some (.int k (k.wrap (BitVec.ofInt k.bits (if k.signed then -1 else k.max) ^^^ BitVec.ofInt k.bits a).toNat)), h)
    | _, _ => none
  | .cvi k x => match ev t x with
    | some (.int _ a) => some (some (.int k (k.wrap a)), h)
    | _ => none
  | .mkif ty x => xOpt (ev t x) fun v => some (some (.iface ty v), h)
  | .mkf f us vs => xOpt (evs t us) fun xs => xOpt (evs t vs) fun ys => some (some (.func (.func f) xs.toArray ys.toArray), h)
  | .mks z bytes l c => match ev t l, ev t c with
    | some (.int _ n), some (.int _ m) => xIf (0 ≤ n ∧ n ≤ m ∧ bytes * m ≤ 140737488355328 ∧ m ≤ 140737488355328) (some (some (.slice (some ⟨h.size, 0, none⟩) n.toNat m.toNat), h.new ⟨rep m.toNat z, .own⟩))
    | _, _ => none
  | .slc z x lo hi m3 => xOpt (optO t lo) fun l => xOpt (optO t hi) fun u => xOpt (optO t m3) fun m => match ev t x with
    | some (.slice (some ⟨b, off, sp⟩) ln cap) => xIf (flagOk sp = true ∧ (sp = none ∨ ln ≤ cap)) (xOpt (xBnds ln cap l u m) fun r => some (some (.slice (some (slAddr b off sp z r.1 r.2.2 m.isNone)) (r.2.1 - r.1) (r.2.2 - r.1)), h))
    | some (.slice none 0 0) => xOpt (xBnds 0 0 l u m) fun r => some (some (.slice none 0 0), h)
    | _ => none
  | .slcs x lo hi => xOpt (optO t lo) fun l => xOpt (optO t hi) fun u => match ev t x with
    | some (.string s) => xOpt (xBnds s.size s.size l u none) fun r => some (some (.string (s.extract r.1 r.2.1)), h)
    | _ => none
  | .slca n z x lo hi m3 => xOpt (optO t lo) fun l => xOpt (optO t hi) fun u => xOpt (optO t m3) fun m => xPtr t x fun b off => xOpt (xBnds n n l u m) fun r => some (some (.slice (some ⟨b, if r.2.2 = r.1 then off else off + r.1 * z, none⟩) (r.2.1 - r.1) (r.2.2 - r.1)), h)
  | .fa off x => xPtr t x fun b i => some (some (.pointer (some ⟨b, i + off, none⟩)), h)
  | .fld1 off x => match ev t x with
    | some (.agg cs) => xOpt cs.toList[off]? fun v => some (some v, h)
    | _ => none
  | .fldN off z x => match ev t x with
    | some (.agg cs) => xIf (off + z ≤ cs.toList.length) (some (some (.agg ((cs.toList.drop off).take z).toArray), h))
    | _ => none
  | .ia z x i => match ev t x, ev t i with
    | some (.slice (some ⟨b, off, sp⟩) ln cap), some (.int k j) => xIf (flagOk sp = true ∧ (0 ≤ j ∧ j < ln)) (some (some (.pointer (some ⟨b, off + j.toNat * z, none⟩)), h))
    | _, _ => none
  | .iaa n z x i => xPtr t x fun b off => match ev t i with
    | some (.int k j) => xIf (0 ≤ j ∧ j < n) (some (some (.pointer (some ⟨b, off + j.toNat * z, none⟩)), h))
    | _ => none
  | .ixs x i => match ev t x, ev t i with
    | some (.string s), some (.int k j) => xIf (0 ≤ j) (xOpt s.data.toList[j.toNat]? fun b => some (some (.int .u8 b.toNat), h))
    | _, _ => none
  | .ixa1 n x i => match ev t x, ev t i with
    | some (.agg cs), some (.int k j) => xIf (0 ≤ j ∧ j < n) (xOpt cs.toList[j.toNat]? fun v => some (some v, h))
    | _, _ => none
  | .ixaN n z x i => match ev t x, ev t i with
    | some (.agg cs), some (.int k j) => xIf ((0 ≤ j ∧ j < n) ∧ j.toNat * z + z ≤ cs.toList.length) (some (some (.agg ((cs.toList.drop (j.toNat * z)).take z).toArray), h))
    | _, _ => none
  | .ext x i => match ev t x with
    | some (.tuple vs) => xOpt vs.toList[i]? fun v => some (some v, h)
    | _ => none
  | .len x => match ev t x with
    | some (.slice _ n _) => some (some (.int .i64 n), h)
    | _ => none
  | .lens x => match ev t x with
    | some (.string s) => some (some (.int .i64 s.size), h)
    | _ => none
  | .app z bytes s x => xOpt (ev t s) fun sv => match ev t x with
    | some (.slice xa m xc) => xOpt (h.hp.src z (.slice xa m xc)) fun cs => xApp z bytes sv m cs h
    | _ => none
  | .apps s x => xOpt (ev t s) fun sv => match ev t x with
    | some (.string str) => xApp 1 1 sv str.size (str.data.toList.map fun b => .int .u8 b.toNat) h
    | _ => none
  | .clr z x => match ev t x with
    | some (.slice none _ _) => some (some (.tuple #[]), h)
    | some (.slice (some ⟨b, off, sp⟩) n _) => xIf (flagOk sp = true) (xOpt (h.hp.get b) fun o =>
        xIf (isRo o.md = false ∧ off + n * z.length ≤ o.cs.length) (some (some (.tuple #[]), h.put b ⟨spl o.cs off (rep n z), o.md⟩)))
    | _ => none
  | .cpy z d x => match ev t d, ev t x with
    | some (.slice (some ⟨b, off, sp⟩) dl dc), some (.slice xa m xc) => xIf (flagOk sp = true) (xOpt (h.hp.src z (.slice xa (Nat.min m dl) xc)) fun cs => xOpt (h.hp.get b) fun o =>
        xIf (isRo o.md = false ∧ off + Nat.min m dl * z ≤ o.cs.length) (some (some (.int .i64 (Nat.min m dl : Nat)), h.put b ⟨spl o.cs off cs, o.md⟩)))
    | _, _ => none
  | .mn xs => xOpt (evs t xs) fun vs => xOpt (intMin vs) fun v => some (some v, h)
  | .mx xs => xOpt (evs t xs) fun vs => xOpt (intMax vs) fun v => some (some v, h)
  | .nileq neg tag x y => xOpt (ev t x) fun a => xOpt (ev t y) fun b => match isNilV tag a, isNilV tag b with
    | some true, some q => some (some (.bool (if neg then !q else q)), h)
    | some false, some true => some (some (.bool (if neg then true else false)), h)
    | _, _ => none
  | .eqa neg sh x y => match ev t x, ev t y with
    | some (.agg a), some (.agg b) => xOpt (eqCells sh a.toList b.toList) fun r => some (some (.bool (if neg then !r else r)), h)
    | _, _ => none
  | .beq neg x y => match ev t x, ev t y with
    | some (.bool p), some (.bool q) => some (some (.bool (if neg then p != q else p == q)), h)
    | _, _ => none
  | .sob x => match ev t x with
    | some (.string s) => some (some (.slice (some ⟨h.size, 0, some 0⟩) s.size s.size), h.new ⟨s.data.toList.map fun b => .int .u8 b.toNat, .hid 1⟩)
    | _ => none
  | .bos x => match ev t x with
    | some (.slice none _ _) => some (some (.string .empty), h)
    | some (.slice (some ⟨b, off, sp⟩) ln _) => xIf (flagOk sp = true) (xOpt (h.hp.rdN b off ln) fun cs => xOpt (bytesV cs) fun ns => some (some (.string ⟨(ns.map fun n => UInt8.ofNat n.toNat).toArray⟩), h))
    | _ => none
  | .mkm r => xOpt (optO t r) fun v => match v with
    | none => some (some (.map (some h.size)), h.newM [])
    | some (.int _ _) => some (some (.map (some h.size)), h.newM [])
    | _ => none
  | .upd ka sh m k x => match ev t m with
    | some (.map (some b)) => xOpt (ev t k) fun kv => xOpt (ev t x) fun v => xIf (eqKey ka sh kv kv = some true) (xOpt (h.hp.mp b) fun es => xOpt (mfind ka sh kv es 0) fun r => some (none, h.putM b (mset es kv v r)))
    | _ => none
  | .lkp ka sh ag z ok m k => match ev t m with
    | some (.map mb) => xOpt (ev t k) fun kv => xIf (eqKey ka sh kv kv = some true) (xOpt (h.hp.mof mb) fun es => xOpt (mfind ka sh kv es 0) fun r => some (some (lkV ok (mval es (mkZ ag z) r)), h))
    | _ => none
  | .tas ty ag z ok x => match ev t x with
    | some (.iface u v) => match Nat.beq u ty with
      | true => some (some (lkV ok (v, true)), h)
      | false => xIf (ok = true) (some (some (.tuple #[mkZ ag z, .bool false]), h))
    | some .nilIface => xIf (ok = true) (some (some (.tuple #[mkZ ag z, .bool false]), h))
    | _ => none
  | .call _ _ | .callv _ _ | .inv _ _ _ | .stuck => none

theorem xK_ok {k : AK} {t : Tm} {h h' : HL} {v : Option Value} (e : xK k t h = some (v, h')) (K : Option Value → Hp → Prop) (hK : K v h'.hp) : k.step t h.hp K := by
  cases k <;> simp only [xK] at e <;> simp only [AK.step]
  case mv => cases e; exact hK
  case pick c x y => split at e <;> first | (rename_i hc; cases e; rw [hc]; exact hK) | cases e
  case box x =>
    obtain ⟨u, h1, e⟩ := xOpt_some e
    obtain ⟨h2, e⟩ := xIf_some e
    cases e
    rw [HL.hp_new] at hK
    rw [h1]
    exact ⟨h2, hK⟩
  case alloc z => cases e; rw [HL.hp_new] at hK; exact hK
  case build z ps => obtain ⟨u, h1, e⟩ := xOpt_some e; cases e; rw [h1]; exact hK
  case bslice z m ps => obtain ⟨u, h1, e⟩ := xOpt_some e; cases e; rw [HL.hp_new] at hK; rw [h1]; exact hK
  case ld1 a => obtain ⟨b, i, h1, e⟩ := xPtr_some e; obtain ⟨u, h2, e⟩ := xOpt_some e; cases e; rw [h1]; exact ⟨_, h2, hK⟩
  case ldN z a => obtain ⟨b, i, h1, e⟩ := xPtr_some e; obtain ⟨u, h2, e⟩ := xOpt_some e; cases e; rw [h1]; exact ⟨_, h2, hK⟩
  case st z a x =>
    obtain ⟨b, i, h1, e⟩ := xPtr_some e
    obtain ⟨u, h2, e⟩ := xOpt_some e
    obtain ⟨o, h3, e⟩ := xOpt_some e
    obtain ⟨h4, e⟩ := xIf_some e
    cases e
    rw [HL.hp_put] at hK
    rw [h1, h2]
    exact ⟨o, h3, isRo_no h4.1, h4.2.1, h4.2.2.1, h4.2.2.2, hK⟩
  case nil x => split at e <;> first | (rename_i hc; cases e; rw [hc]; exact hK) | cases e
  case bin op x y =>
    obtain ⟨a, h1, e⟩ := xOpt_some e
    obtain ⟨b, h2, e⟩ := xOpt_some e
    obtain ⟨u, h3, e⟩ := xOpt_some e
    cases e
    rw [h1, h2]
    exact xBin_ok h3 _ hK
  case shlc x n => split at e <;> first | (rename_i hc; cases e; rw [hc]; exact hK) | cases e
  case shrc x n => split at e <;> first | (rename_i hc; cases e; rw [hc]; exact hK) | cases e
  case un op x => split at e <;> first | (rename_i hc; cases e; rw [hc]; exact hK) | cases e
  case cvi k x => split at e <;> first | (rename_i hc; cases e; rw [hc]; exact hK) | cases e
  case mkif ty x => obtain ⟨a, h1, e⟩ := xOpt_some e; cases e; rw [h1]; exact hK
  case mkf f us vs => obtain ⟨a, h1, e⟩ := xOpt_some e; obtain ⟨b, h2, e⟩ := xOpt_some e; cases e; rw [h1, h2]; exact hK
  case mks z b l c =>
    split at e
    · rename_i h1 h2
      obtain ⟨h3, e⟩ := xIf_some e
      cases e
      rw [HL.hp_new] at hK
      rw [h1, h2]
      exact ⟨h3, hK⟩
    · cases e
  case slc z x lo hi m3 =>
    obtain ⟨a, h1, e⟩ := xOpt_some e
    obtain ⟨b, h2, e⟩ := xOpt_some e
    obtain ⟨c, h3, e⟩ := xOpt_some e
    rw [h1, h2, h3]
    split at e
    · rename_i bb off sp ln cap hx
      obtain ⟨h4, e⟩ := xIf_some e
      obtain ⟨r, h5, e⟩ := xOpt_some e
      cases e
      rw [hx]
      refine ⟨h4.1, ?_, xBnds_ok h5 _ hK⟩
      rcases h4.2 with rfl | h6
      · trivial
      · cases sp
        · trivial
        · exact h6
    · rename_i hx
      obtain ⟨r, h5, e⟩ := xOpt_some e
      cases e
      rw [hx]
      exact xBnds_ok h5 _ hK
    · cases e
  case slcs x lo hi =>
    obtain ⟨a, h1, e⟩ := xOpt_some e
    obtain ⟨b, h2, e⟩ := xOpt_some e
    rw [h1, h2]
    split at e
    · rename_i s hx
      obtain ⟨r, h5, e⟩ := xOpt_some e
      cases e
      rw [hx]
      exact xBnds_ok h5 _ hK
    · cases e
  case slca n z x lo hi m3 =>
    obtain ⟨a, h1, e⟩ := xOpt_some e
    obtain ⟨b, h2, e⟩ := xOpt_some e
    obtain ⟨c, h3, e⟩ := xOpt_some e
    obtain ⟨bb, off, h4, e⟩ := xPtr_some e
    obtain ⟨r, h5, e⟩ := xOpt_some e
    cases e
    rw [h1, h2, h3, h4]
    exact xBnds_ok h5 _ hK
  case fa off x => obtain ⟨b, i, h1, e⟩ := xPtr_some e; cases e; rw [h1]; exact hK
  case fld1 off x =>
    split at e
    · rename_i hx
      obtain ⟨u, h1, e⟩ := xOpt_some e
      cases e
      rw [hx]
      exact ⟨_, h1, hK⟩
    · cases e
  case fldN off z x =>
    split at e
    · rename_i hx
      obtain ⟨h1, e⟩ := xIf_some e
      cases e
      rw [hx]
      exact ⟨h1, hK⟩
    · cases e
  case ia z x i =>
    split at e
    · rename_i h1 h2
      obtain ⟨h3, e⟩ := xIf_some e
      cases e
      rw [h1, h2]
      exact ⟨h3.1, h3.2, hK⟩
    · cases e
  case iaa n z x i =>
    obtain ⟨b, off, h1, e⟩ := xPtr_some e
    split at e
    · rename_i h2
      obtain ⟨h3, e⟩ := xIf_some e
      cases e
      rw [h1, h2]
      exact ⟨h3, hK⟩
    · cases e
  case ixs x i =>
    split at e
    · rename_i h1 h2
      obtain ⟨h3, e⟩ := xIf_some e
      obtain ⟨u, h4, e⟩ := xOpt_some e
      cases e
      rw [h1, h2]
      exact ⟨h3, _, h4, hK⟩
    · cases e
  case ixa1 n x i =>
    split at e
    · rename_i h1 h2
      obtain ⟨h3, e⟩ := xIf_some e
      obtain ⟨u, h4, e⟩ := xOpt_some e
      cases e
      rw [h1, h2]
      exact ⟨h3, _, h4, hK⟩
    · cases e
  case ixaN n z x i =>
    split at e
    · rename_i h1 h2
      obtain ⟨h3, e⟩ := xIf_some e
      cases e
      rw [h1, h2]
      exact ⟨h3.1, h3.2, hK⟩
    · cases e
  case ext x i =>
    split at e
    · rename_i hx
      obtain ⟨u, h1, e⟩ := xOpt_some e
      cases e
      rw [hx]
      exact ⟨_, h1, hK⟩
    · cases e
  case len x => split at e <;> first | (rename_i hc; cases e; rw [hc]; exact hK) | cases e
  case lens x => split at e <;> first | (rename_i hc; cases e; rw [hc]; exact hK) | cases e
  case app z b s x =>
    obtain ⟨sv, h1, e⟩ := xOpt_some e
    split at e
    · rename_i hx
      obtain ⟨cs, h2, e⟩ := xOpt_some e
      rw [h1, hx]
      exact ⟨cs, h2, xApp_ok e K hK⟩
    · cases e
  case apps s x =>
    obtain ⟨sv, h1, e⟩ := xOpt_some e
    split at e
    · rename_i hx
      rw [h1, hx]
      exact xApp_ok e K hK
    · cases e
  case cpy z d x =>
    split at e
    · rename_i hd hx
      obtain ⟨h1, e⟩ := xIf_some e
      obtain ⟨cs, h2, e⟩ := xOpt_some e
      obtain ⟨o, h3, e⟩ := xOpt_some e
      obtain ⟨h4, e⟩ := xIf_some e
      cases e
      rw [HL.hp_put] at hK
      rw [hd, hx]
      exact ⟨h1, cs, h2, o, h3, isRo_no h4.1, h4.2, hK⟩
    · cases e
  case clr z x =>
    split at e
    · rename_i hx
      cases e
      rw [hx]
      exact hK
    · rename_i hx
      obtain ⟨h1, e⟩ := xIf_some e
      obtain ⟨o, h3, e⟩ := xOpt_some e
      obtain ⟨h4, e⟩ := xIf_some e
      cases e
      rw [HL.hp_put] at hK
      rw [hx]
      exact ⟨h1, o, h3, isRo_no h4.1, h4.2, hK⟩
    · cases e
  case mkm r =>
    obtain ⟨v, h1, e⟩ := xOpt_some e
    rw [h1]
    split at e
    · cases e; rw [HL.hp_newM] at hK; exact hK
    · cases e; rw [HL.hp_newM] at hK; exact hK
    · cases e
  case upd ka sh m k x =>
    split at e
    · rename_i b hm
      obtain ⟨kv, h1, e⟩ := xOpt_some e
      obtain ⟨v, h2, e⟩ := xOpt_some e
      obtain ⟨h3, e⟩ := xIf_some e
      obtain ⟨es, h4, e⟩ := xOpt_some e
      obtain ⟨r, h5, e⟩ := xOpt_some e
      cases e
      rw [HL.hp_putM] at hK
      rw [hm, h1, h2]
      exact ⟨h3, es, h4, r, h5, hK⟩
    · cases e
  case lkp ka sh ag z ok m k =>
    split at e
    · rename_i mb hm
      obtain ⟨kv, h1, e⟩ := xOpt_some e
      obtain ⟨h3, e⟩ := xIf_some e
      obtain ⟨es, h4, e⟩ := xOpt_some e
      obtain ⟨r, h5, e⟩ := xOpt_some e
      cases e
      rw [hm, h1]
      exact ⟨h3, es, h4, r, h5, hK⟩
    · cases e
  case tas ty ag z ok x =>
    split at e
    · rename_i u v hx
      rw [hx]
      show (if _ then _ else _)
      split at e
      · rename_i hb
        cases e
        rw [if_pos (Nat.eq_of_beq_eq_true hb)]
        exact hK
      · rename_i hb
        obtain ⟨h1, e⟩ := xIf_some e
        cases e
        rw [if_neg (fun h => by subst h; rw [beq_yes] at hb; cases hb)]
        exact ⟨h1, hK⟩
    · rename_i hx
      obtain ⟨h1, e⟩ := xIf_some e
      cases e
      rw [hx]
      exact ⟨h1, hK⟩
    · cases e
  case mn xs => obtain ⟨vs, h1, e⟩ := xOpt_some e; obtain ⟨u, h2, e⟩ := xOpt_some e; cases e; rw [h1]; show (match intMin vs with | some v => K (some v) h.hp | none => False); rw [h2]; exact hK
  case mx xs => obtain ⟨vs, h1, e⟩ := xOpt_some e; obtain ⟨u, h2, e⟩ := xOpt_some e; cases e; rw [h1]; show (match intMax vs with | some v => K (some v) h.hp | none => False); rw [h2]; exact hK
  case nileq neg tag x y =>
    obtain ⟨a, h1, e⟩ := xOpt_some e
    obtain ⟨b, h2, e⟩ := xOpt_some e
    rw [h1, h2]
    simp only
    split at e
    · rename_i q h3 h4; cases e; rw [h3, h4]; exact hK
    · rename_i h3 h4; cases e; rw [h3, h4]; cases neg <;> exact hK
    · cases e
  case eqa neg sh x y =>
    split at e
    · rename_i h1 h2
      obtain ⟨r, h3, e⟩ := xOpt_some e
      cases e
      rw [h1, h2]
      exact ⟨r, h3, hK⟩
    · cases e
  case beq neg x y => split at e <;> first | (rename_i h1 h2; cases e; rw [h1, h2]; exact hK) | cases e
  case sob x => split at e <;> first | (rename_i hc; cases e; rw [HL.hp_new] at hK; rw [hc]; exact hK) | cases e
  case bos x =>
    split at e
    · rename_i hc; cases e; rw [hc]; exact hK
    · rename_i hc
      obtain ⟨h1, e⟩ := xIf_some e
      obtain ⟨cs, h2, e⟩ := xOpt_some e
      obtain ⟨ns, h3, e⟩ := xOpt_some e
      cases e
      rw [hc]
      exact ⟨h1, ns, by rw [h2, bytesV_some h3], hK⟩
    · cases e
  all_goals cases e
end Go.Proofs.Ytbfbgkhlngkifaa.Am
