/- The abstract steps: maps, type assertions. Plain theorems.
   Conditions: none. -/
import Derived.Test.YtbfbgkhlngkifaaAmK
import Derived.MapKept
import Derived.ChangeMaps5
namespace Go.Proofs.Ytbfbgkhlngkifaa.Am
open Go Go.RowKit
set_option linter.unusedVariables false
set_option linter.unusedSimpArgs false

section
variable {P : Program} {n base : Nat} {w0 : World} {γ : Gam} {h : Hp} {w : World} {t : Tm} {a : Act} {K : Option Value → Hp → Prop} {o : Oper}

/-! ### keys -/
/-- A key of a plain type is no trouble. -/
theorem check_plain (em : Bool) : ∀ (d D : Nat) (ty : TypeId) (xs : List Value), plainT P d ty = true → xs.length = P.cellsOf ty → ∀ w, (Instr.checkKey em (D + d) ty (asV P ty xs)).run P w = .ok () w
  | 0, _, _, _, hp, _, _ => by cases hp
  | d + 1, D, ty, xs, hp, hl, w => by
    simp only [plainT] at hp
    cases hu : P.underlying ty with
    | none => rw [hu] at hp; cases hp
    | some dd =>
      rw [hu] at hp
      rw [show D + (d + 1) = (D + d) + 1 from rfl]
      cases dd <;> simp only [Bool.false_eq_true] at hp
      case bool => simp [Instr.checkKey, run_underlying hu]
      case int k => simp [Instr.checkKey, run_underlying hu]
      case string => simp [Instr.checkKey, run_underlying hu]
      case struct fs =>
        simp only [Bool.and_eq_true, Bool.not_eq_true'] at hp
        simp only [asV, hu]
        rw [Instr.checkKey]
        simp only [Sem.run_bind, run_underlying hu, Result.andThen_ok]
        rw [← Array.forIn_toList]
        have ht : tiles P fs.toList 0 xs.length = true := by rw [hl]; exact hp.1.1
        have hf := hp.1.2
        generalize fs.toList = L at ht hf
        generalize (0 : Nat) = off at ht
        induction L generalizing off with
        | nil => simp
        | cons f L ih =>
          simp only [tiles, Bool.and_eq_true, beq_iff_eq] at ht
          simp only [List.all_cons, Bool.and_eq_true, bne_iff_ne, ne_eq] at hf
          obtain ⟨⟨hn, hpf⟩, hfs⟩ := hf
          obtain ⟨hoff, ht⟩ := ht
          have hle : ∀ (fs : List Field) (o : Nat), tiles P fs o xs.length = true → o ≤ xs.length := by
            intro fs
            induction fs with
            | nil => intro o h; simp only [tiles, beq_iff_eq] at h; omega
            | cons g gs ih => intro o h; simp only [tiles, Bool.and_eq_true, beq_iff_eq] at h; have := ih _ h.2; omega
          have hb := hle L _ ht
          rw [← hoff] at hb
          have p1 := run_part_plain (P := P) (w := w) hpf (xs := xs) (off := f.offset) hb
          have p2 := check_plain em d D f.type ((xs.drop f.offset).take (P.cellsOf f.type)) hpf (by rw [List.length_take, List.length_drop]; omega) w
          simp only [List.forIn_cons, Sem.run_bind, hn, ne_eq, not_false_eq_true, if_true, Result.andThen_ok, p1, p2, Sem.run_pure]
          exact ih hfs _ ht
      case array l e =>
        simp only [Bool.and_eq_true, beq_iff_eq] at hp
        have hti : ∃ ti, P.info? e = some ti := by
          cases d with
          | zero => cases hp.2
          | succ d =>
            have h2 := hp.2
            simp only [plainT] at h2
            cases hue : P.underlying e with
            | none => rw [hue] at h2; cases h2
            | some _ =>
              unfold Program.underlying at hue
              split at hue
              · exact ⟨_, ‹_›⟩
              · exact ⟨_, ‹_›⟩
              · cases hue
        obtain ⟨ti, hi⟩ := hti
        simp only [asV, hu]
        rw [Instr.checkKey]
        simp only [Sem.run_bind, run_underlying hu, Result.andThen_ok, Std.Legacy.Range.forIn_eq_forIn_range', Std.Legacy.Range.size, Nat.sub_zero, Nat.add_one_sub_one, Nat.div_one]
        have hcs : P.cellsOf e = ti.size := by simp [Program.cellsOf, hi]
        have hb : ∀ j ∈ List.range' 0 l, j * ti.size + ti.size ≤ xs.length := fun j hj => by
          have hj : j < l := by simpa using hj
          have : (j + 1) * ti.size ≤ l * ti.size := Nat.mul_le_mul_right _ hj
          rw [Nat.succ_mul] at this
          rw [hl, ← hp.1, hcs]
          exact this
        generalize List.range' 0 l = is at hb
        induction is with
        | nil => simp
        | cons j is ih =>
          have p1 := run_part_plain (P := P) (w := w) hp.2 (xs := xs) (off := j * ti.size) (by rw [hcs]; exact hb j (by simp))
          have p2 := check_plain em d D e ((xs.drop (j * ti.size)).take (P.cellsOf e)) hp.2 (by rw [List.length_take, List.length_drop, hcs]; have := hb j (by simp); omega) w
          simp only [List.forIn_cons, Sem.run_bind, run_size hi, Result.andThen_ok, p1, p2, Sem.run_pure]
          exact ih fun y hy => hb y (by simp [hy])

theorem ba_eq {a b : ByteArray} (h : (a == b) = true) : a = b := by
  obtain ⟨x⟩ := a
  obtain ⟨y⟩ := b
  have : (x == y) = true := h
  rw [eq_of_beq this]
theorem ba_self (a : ByteArray) : (a == a) = true := by
  have : (a.data == a.data) = true := beq_self_eq_true _
  exact this
theorem eqKey_self {ka : Bool} {sh : List Nat} {kv : Value} (h : eqKey ka sh kv kv = some true) : (ka = true ∧ ∃ a, kv = .agg a ∧ eqCells sh a.toList a.toList = some true) ∨ (ka = false ∧ eqCells sh [kv] [kv] = some true) := by
  unfold eqKey at h
  cases ka
  · exact .inr ⟨rfl, h⟩
  · cases kv <;> simp only at h <;> first | exact .inl ⟨rfl, _, rfl, h⟩ | cases h
def kaD : TypeDesc → Bool
  | .struct _ | .array _ _ => true
  | _ => false
/-- The cells of a key. -/
theorem key_cells {d : Nat} {kt : TypeId} {dd : TypeDesc} (hu : P.underlying kt = some dd) (hp : plainT P d kt = true) {x y : Value} {b : Bool} (h : eqKey (kaD dd) (shapeT P d kt) x y = some b) :
    ∃ xs ys, eqCells (shapeT P d kt) xs ys = some b ∧ asV P kt xs = x ∧ asV P kt ys = y ∧ xs = cellsOf x ∧ ys = cellsOf y := by
  unfold eqKey at h
  split at h
  · rename_i hk
    split at h
    · rename_i a b
      refine ⟨a.toList, b.toList, h, ?_, ?_, rfl, rfl⟩
      all_goals (unfold asV; rw [hu]; cases dd <;> simp_all [kaD])
    · cases h
  · rename_i hk
    have hcx : cellsOf x = [x] ∧ cellsOf y = [y] := by
      have hl := (eqCells_len h).1
      match hs : shapeT P d kt, hl with
      | [s], _ =>
        rw [hs] at h
        simp only [eqCells] at h
        split at h
        · rename_i p q h1 h2
          match s, x, y, h1 with
          | 1, .int _ _, .int _ _, _ => exact ⟨rfl, rfl⟩
          | 0, .bool _, .bool _, _ => exact ⟨rfl, rfl⟩
          | 2, .string _, .string _, _ => exact ⟨rfl, rfl⟩
        · cases h
    refine ⟨[x], [y], h, ?_, ?_, hcx.1.symm, hcx.2.symm⟩
    all_goals (unfold asV; rw [hu]; cases dd <;> simp_all [kaD])
theorem VRel.cells' {v v' : Value} (h : VRel γ v v') : LRel γ (cellsOf v) (cellsOf v') := h.cells
theorem key_same {d : Nat} {kt : TypeId} {dd : TypeDesc} (hu : P.underlying kt = some dd) (hp : plainT P d kt = true) {x y x' y' : Value} {b : Bool} (h : eqKey (kaD dd) (shapeT P d kt) x y = some b) (rx : VRel γ x x') (ry : VRel γ y y') : x' = x ∧ y' = y := by
  unfold eqKey at h
  split at h
  · split at h
    · rename_i a b
      cases rx with
      | agg hs hr =>
        cases ry with
        | agg hs2 hr2 =>
          obtain ⟨e1, e2⟩ := eqCells_same h (LRel.arr hs hr) (LRel.arr hs2 hr2)
          exact ⟨congrArg Value.agg (Array.ext' e1), congrArg Value.agg (Array.ext' e2)⟩
    · cases h
  · obtain ⟨e1, e2⟩ := eqCells_same h (LRel.cons rx LRel.nil) (LRel.cons ry LRel.nil)
    exact ⟨by simpa using e1, by simpa using e2⟩
theorem key_eq {d : Nat} {kt : TypeId} {dd : TypeDesc} (hu : P.underlying kt = some dd) (hp : plainT P d kt = true) (hd : d ≤ 10000) {x y : Value} {b : Bool} (h : eqKey (kaD dd) (shapeT P d kt) x y = some b) (w : World) : (Op.equal kt x y).run P w = .ok b w := by
  obtain ⟨xs, ys, h1, rfl, rfl, _, _⟩ := key_cells hu hp h
  have := eq_plain (P := P) d (10000 - d) kt xs ys b hp h1 w
  rwa [show 10000 - d + d = 10000 by omega] at this
theorem key_now {d : Nat} {kt : TypeId} {dd : TypeDesc} (hu : P.underlying kt = some dd) (hp : plainT P d kt = true) (hk : kaD dd = false) {x y : Value} {b : Bool} (h : eqKey (kaD dd) (shapeT P d kt) x y = some b) : Instr.sameNow dd x y = some b := by
  rw [hk] at h
  unfold eqKey at h
  cases d with
  | zero => cases hp
  | succ d =>
    simp only [plainT, hu] at hp
    simp only [shapeT, hu] at h
    have one : ∀ s, eqCells [s] [x] [y] = some b → eqCell s x y = some b := fun s h => by
      simp only [eqCells] at h
      split at h
      · rename_i p q h1 h2
        cases h2; cases h
        simpa using h1
      · cases h
    cases dd <;> simp only [Bool.false_eq_true] at hp
    case bool =>
      have := one 0 h
      match x, y, this with
      | .bool p, .bool q, he => cases he; rfl
    case int k =>
      have := one 1 h
      match x, y, this with
      | .int k1 p, .int k2 q, he =>
        simp only [eqCell] at he
        simp only [Instr.sameNow]
        exact he
    case string =>
      have := one 2 h
      match x, y, this with
      | .string p, .string q, he => cases he; rfl
    case struct => cases hk
    case array => cases hk
/-- A key's place in the world. -/
theorem find_run {d : Nat} {kt : TypeId} {dd : TypeDesc} (hu : P.underlying kt = some dd) (hp : plainT P d kt = true) (hd : d ≤ 10000) {kv : Value} (hself : eqKey (kaD dd) (shapeT P d kt) kv kv = some true) (w : World) : ∀ (es : List (Value × Value)) (es' : List MapEntry) (i : Nat) (r : Option Nat),
    ERel γ es es' → mfind (kaD dd) (shapeT P d kt) kv es i = some r →
    ∃ q, (Instr.findAsking kt kv es' i).run P w = .ok q w ∧ (kaD dd = false → Instr.findNow dd kv es' i = some q) ∧ q.map (·.1) = r ∧ (∀ j v', q = some (j, v') → i ≤ j ∧ ∃ e, es'[j - i]? = some e ∧ e.val = v' ∧ e.key = kv)
  | [], es', i, r, hr, hf => by
    have : es' = [] := by cases es' with | nil => rfl | cons _ _ => have := hr.len; simp at this
    subst this
    cases hf
    exact ⟨none, by simp [Instr.findAsking], fun _ => rfl, rfl, fun j v' h => by cases h⟩
  | e :: es, [], i, r, hr, hf => by have := hr.len; simp at this
  | e :: es, e' :: es', i, r, hr, hf => by
    obtain ⟨hk, hv⟩ := hr.at_ 0 e e' rfl rfl
    have hr' : ERel γ es es' := ⟨by have := hr.len; simpa using this, fun i p x h1 h2 => hr.at_ (i + 1) p x (by simpa using h1) (by simpa using h2)⟩
    have hself' : VRel γ kv kv := by
      rcases eqKey_self hself with ⟨_, a, rfl, hs⟩ | ⟨_, hs⟩
      · have : LRel γ a.toList a.toList := ⟨rfl, fun i hi _ => by
            have key : ∀ (sh : List Nat) (xs ys : List Value) (b : Bool), eqCells sh xs ys = some b → ∀ v ∈ xs, VRel γ v v := by
              intro sh
              induction sh with
              | nil => intro xs ys b h v hv; have := (eqCells_len h).1; cases xs <;> simp at this; cases hv
              | cons s ss ih =>
                intro xs ys b h v hv
                match xs, ys, h with
                | [], ys, h => cases hv
                | x :: xs, [], h => simp [eqCells] at h
                | x :: xs, y :: ys, h =>
                  simp only [eqCells] at h
                  split at h
                  · rename_i p q h1 h2
                    rcases List.mem_cons.1 hv with rfl | hv
                    · match s, v, y, h1 with
                      | 1, .int _ _, .int _ _, _ => exact .int _ _
                      | 0, .bool _, .bool _, _ => exact .bool _
                      | 2, .string _, .string _, _ => exact .string _
                    · exact ih xs ys _ h2 v hv
                  · cases h
            exact key _ _ _ _ hs _ (List.getElem_mem hi)⟩
        have := VRel.agg_of this
        simpa using this
      · match hsh : shapeT P d kt, hs with
        | [s], key =>
          simp only [eqCells] at key
          split at key
          · rename_i p q h1 h2
            match s, kv, h1 with
            | 1, .int _ _, _ => exact .int _ _
            | 0, .bool _, _ => exact .bool _
            | 2, .string _, _ => exact .string _
          · cases key
        | [], key => simp [eqCells] at key
        | _ :: _ :: _, key => simp [eqCells] at key
    simp only [mfind] at hf
    cases hq : eqKey (kaD dd) (shapeT P d kt) kv e.1 with
    | none => rw [hq] at hf; cases hf
    | some b =>
      obtain ⟨_, ek⟩ := key_same hu hp hq hself' hk
      have hrun := key_eq hu hp hd hq w
      have hnow := fun hka => key_now hu hp hka hq
      rw [hq] at hf
      cases b with
      | true =>
        cases hf
        have heq : e'.key = kv := by
          rw [ek]
          obtain ⟨xs, ys, h1, h2, h3, _, _⟩ := key_cells hu hp hq
          have : ∀ (sh : List Nat) (xs ys : List Value), eqCells sh xs ys = some true → xs = ys := by
            intro sh
            induction sh with
            | nil => intro xs ys h; have := eqCells_len h; cases xs <;> cases ys <;> simp at this ⊢
            | cons s ss ih =>
              intro xs ys h
              match xs, ys, h with
              | [], ys, h => simp [eqCells] at h
              | x :: xs, [], h => simp [eqCells] at h
              | x :: xs, y :: ys, h =>
                simp only [eqCells] at h
                split at h
                · rename_i p q h1 h2
                  have hpq : (p && q) = true := by simpa using h
                  simp only [Bool.and_eq_true] at hpq
                  obtain ⟨rfl, rfl⟩ := hpq
                  rw [ih xs ys h2]
                  congr 1
                  match s, x, y, h1 with
                  | 1, .int k a, .int k' b, h1 => simp only [eqCell] at h1; split at h1 <;> simp at h1; rename_i hk; subst hk; rw [h1]
                  | 0, .bool a, .bool b, h1 => simp [eqCell] at h1; rw [h1]
                  | 2, .string a, .string b, h1 => simp only [eqCell, Option.some.injEq] at h1; rw [ba_eq h1]
                · cases h
          rw [← h3, ← h2, this _ _ _ h1]
        refine ⟨some (i, e'.val), ?_, ?_, rfl, fun j v' h => by cases h; exact ⟨Nat.le_refl _, e', by simp, rfl, heq⟩⟩
        · rw [← ek] at hrun
          simp [Instr.findAsking, hrun]
        · intro hka
          have := hnow hka
          rw [← ek] at this
          simp only [Instr.findNow, this]
      | false =>
        obtain ⟨q, q1, q2, q3, q4⟩ := find_run hu hp hd hself w es es' (i + 1) r hr' hf
        refine ⟨q, ?_, ?_, q3, fun j v' h => ?_⟩
        · rw [← ek] at hrun
          simp [Instr.findAsking, hrun, q1]
        · intro hka
          have := hnow hka
          rw [← ek] at this
          simp only [Instr.findNow, this]
          exact q2 hka
        · obtain ⟨h1, e2, h2, h3, h4⟩ := q4 j v' h
          refine ⟨by omega, e2, ?_, h3, h4⟩
          rw [show j - i = (j - (i + 1)) + 1 by omega, List.getElem?_cons_succ]
          exact h2
theorem findKey_run {d : Nat} {kt : TypeId} {dd : TypeDesc} (hu : P.underlying kt = some dd) (hp : plainT P d kt = true) (hd : d ≤ 10000) {kv : Value} (hself : eqKey (kaD dd) (shapeT P d kt) kv kv = some true) (w : World) {es : List (Value × Value)} {es' : List MapEntry} {r : Option Nat}
    (hr : ERel γ es es') (hf : mfind (kaD dd) (shapeT P d kt) kv es 0 = some r) :
    ∃ q, (Instr.findKey kt kv es').run P w = .ok q w ∧ q.map (·.1) = r ∧ (∀ j v', q = some (j, v') → ∃ e, es'[j]? = some e ∧ e.val = v' ∧ e.key = kv) := by
  obtain ⟨q, q1, q2, q3, q4⟩ := find_run hu hp hd hself w es es' 0 r hr hf
  refine ⟨q, ?_, q3, fun j v' h => by simpa using (q4 j v' h).2⟩
  simp only [Instr.findKey, Sem.run_bind, run_underlying hu, Result.andThen_ok]
  cases hka : kaD dd with
  | false => simp [q2 hka]
  | true =>
    have key : ∀ es', Instr.findNow dd kv es' 0 = none ∨ (es' = []) := fun es' => by
      cases es' with
      | nil => exact .inr rfl
      | cons e es' =>
        left
        have : Instr.sameNow dd kv e.key = none := by cases dd <;> simp [kaD] at hka <;> rfl
        simp [Instr.findNow, this]
    rcases key es' with h1 | rfl
    · simp [h1, q1]
    · simp [Instr.findAsking] at q1
      simp [Instr.findNow, q1]
theorem key_check {d : Nat} {kt : TypeId} {dd : TypeDesc} (hu : P.underlying kt = some dd) (hp : plainT P d kt = true) (hd : d ≤ 10000) {kv : Value} (hself : eqKey (kaD dd) (shapeT P d kt) kv kv = some true) (em : Bool) (w : World) : (Instr.checkKey em 10000 kt kv).run P w = .ok () w := by
  obtain ⟨xs, ys, h1, h2, h3, h4, h5⟩ := key_cells hu hp hself
  have := check_plain (P := P) em d (10000 - d) kt xs hp (by rw [← (eqCells_len h1).1, shape_len _ _ hp]) w
  rwa [show 10000 - d + d = 10000 by omega, h2] at this
theorem same_bits {d : Nat} {kt : TypeId} {dd : TypeDesc} (hu : P.underlying kt = some dd) (hp : plainT P d kt = true) {kv : Value} (hself : eqKey (kaD dd) (shapeT P d kt) kv kv = some true) : Instr.sameBits 10000 kv kv = true := by
  have cell : ∀ (s : Nat) (x y : Value) (b : Bool) (m : Nat), eqCell s x y = some b → Instr.sameBits m x x = true := fun s x y b m h => by
    match s, x, y, h with
    | 1, .int _ _, .int _ _, _ => cases m <;> simp [Instr.sameBits]
    | 0, .bool _, .bool _, _ => cases m <;> simp [Instr.sameBits]
    | 2, .string _, .string _, _ => cases m <;> simp only [Instr.sameBits] <;> exact ba_self _
  have cells : ∀ (sh : List Nat) (xs ys : List Value) (b : Bool), eqCells sh xs ys = some b → ∀ (m : Nat), ∀ v ∈ xs, Instr.sameBits m v v = true := by
    intro sh
    induction sh with
    | nil => intro xs ys b h m v hv; have := (eqCells_len h).1; cases xs <;> simp at this; cases hv
    | cons s ss ih =>
      intro xs ys b h m v hv
      match xs, ys, h with
      | [], ys, h => cases hv
      | x :: xs, [], h => simp [eqCells] at h
      | x :: xs, y :: ys, h =>
        simp only [eqCells] at h
        split at h
        · rename_i p q h1 h2
          rcases List.mem_cons.1 hv with rfl | hv
          · exact cell _ _ _ _ m h1
          · exact ih xs ys _ h2 m v hv
        · cases h
  rcases eqKey_self hself with ⟨_, a, rfl, hs⟩ | ⟨_, hs⟩
  · show Instr.sameBits (9999 + 1) (.agg a) (.agg a) = true
    have : ∀ l : List Value, (∀ v ∈ l, Instr.sameBits 9999 v v = true) → ((l.zip l).all fun (x, y) => Instr.sameBits 9999 x y) = true := by
      intro l
      induction l with
      | nil => intro _; rfl
      | cons x l ih => intro h; simp only [List.zip_cons_cons, List.all_cons, Bool.and_eq_true]; exact ⟨h x (by simp), ih fun v hv => h v (by simp [hv])⟩
    rw [Instr.sameBits]
    simp only [Bool.and_eq_true, beq_self_eq_true, true_and]
    exact this a.toList (cells _ _ _ _ hs 9999)
  · exact cells _ _ _ _ hs 10000 kv (by simp)

/-! ### maps -/
theorem s_mkm (r : TRel γ n t a) (s : Sim base w0 γ h w) {m : Nat} {ty kt et : TypeId} {x : Option Operand} (ho : o.op = .makeMap ty x) (hu : P.underlying ty = some (.map kt et)) (hx : x.all (okO m) = true)
    (hs : (AK.mkm x).step t h K) : Got P base w0 γ w ((execOp a.eval o).run P w) K := by
  obtain ⟨s', hsub⟩ := s.mkm
  have fin : K (some (.map (some h.size))) (h.newM []) → (execOp a.eval o).run P w = .ok (.value (.map (some w.heap.size))) (w.alloc (.map #[] 0)) → Got P base w0 γ w ((execOp a.eval o).run P w) K := fun hk hrun =>
    ⟨_, _, _, _, _, hk, hsub, Fr.new (by simp) (fun k hk => Below.heap_alloc _ _ _ hk) (s.top _ (Nat.le_refl _)).1, s', hrun, .inr ⟨_, rfl, fun u hu => by cases hu; exact VRel.map Gam.add_self⟩⟩
  cases x with
  | none =>
    simp only [AK.step, optO] at hs
    refine fin hs ?_
    simp [execOp, ho, Instr.makeMap]
  | some x =>
    simp only [AK.step, optO] at hs
    split at hs
    · rename_i h0; split at h0 <;> cases h0
    · rename_i k i h0
      split at h0
      · rename_i v hv
        cases h0
        have e1 := int_of (r.ev (by simpa using hx) hv)
        refine fin hs ?_
        simp [execOp, ho, Instr.makeMap, e1, run_underlying hu, asInt, asIntOf]
      · cases h0
    · exact hs.elim

theorem s_upd (r : TRel γ n t a) (s : Sim base w0 γ h w) {m d : Nat} {ty kt et : TypeId} {dd : TypeDesc} {x k y : Operand} (ho : o.op = .mapUpdate ty x k y ∨ o.op = .insert ty x k y) (hu : P.underlying ty = some (.map kt et)) (hk : P.underlying kt = some dd)
    (hp : plainT P d kt = true) (hd : d ≤ 10000) (hx : okO m x = true) (hkx : okO m k = true) (hy : okO m y = true)
    (hs : (AK.upd (kaD dd) (shapeT P d kt) x k y).step t h K) : Got P base w0 γ w ((execOp a.eval o).run P w) K := by
  simp only [AK.step] at hs
  split at hs
  · rename_i b kv v hxv hkv hyv
    obtain ⟨hself, es, hes, q, hf, hK⟩ := hs
    have rx := r.ev hx hxv
    have rk := r.ev hkx hkv
    have ry := r.ev hy hyv
    obtain ⟨ek, _⟩ := key_same hk hp hself rk rk
    generalize hax : a.eval x = xv at rx
    cases rx with
    | map hg =>
      rename_i c
      obtain ⟨c1, es', clock, h1, hb, hheap, hr⟩ := s.maps.obj b es hes
      rw [hg] at h1
      cases h1
      obtain ⟨q', f1, f2, f3⟩ := findKey_run hk hp hd hself w hr hf
      have hchk := key_check hk hp hd hself false w
      have hget := MapKept.run_getObj_map (P := P) hheap
      have hsetr := fun ob => MapKept.run_setObj_map (P := P) ob hheap
      have run : ∃ new cl', (execOp a.eval o).run P w = .ok .skip { w with heap := w.heap.setIfInBounds c (.map new cl') } ∧ ERel γ (mset es kv v q) new.toList := by
        have hexec : execOp a.eval o = (do Instr.mapUpdate ty (a.eval x) (a.eval k) (a.eval y); Pure.pure .skip : Sem Next) := by rcases ho with ho | ho <;> simp [execOp, ho]
        cases q' with
        | none =>
          cases f2
          refine ⟨es'.push { key := kv, val := a.eval y, born := clock }, clock + 1, ?_, ?_⟩
          · rw [hexec]
            simp [Instr.mapUpdate, run_underlying hu, hax, hget, ek, hchk, f1, hsetr]
          · simp only [Option.map_none, mset, Array.toList_push]
            refine ⟨by simpa using hr.len, fun i p e h1 h2 => ?_⟩
            by_cases hi : i < es.length
            · rw [List.getElem?_append_left hi] at h1
              rw [List.getElem?_append_left (hr.len ▸ hi)] at h2
              exact hr.at_ i p e h1 h2
            · rw [List.getElem?_append_right (by omega)] at h1
              rw [List.getElem?_append_right (by rw [← hr.len]; omega)] at h2
              have hi0 : i - es.length = 0 := by
                have := (List.getElem?_eq_some_iff.1 h1).1
                simpa using this
              rw [hi0] at h1
              rw [← hr.len, hi0] at h2
              cases h1; cases h2
              exact ⟨by rw [ek] at rk; exact rk, ry⟩
        | some jv =>
          obtain ⟨j, vv⟩ := jv
          cases f2
          obtain ⟨e, he, _, hkey⟩ := f3 j vv rfl
          rw [Array.getElem?_toList] at he
          refine ⟨es'.modify j fun e => { e with key := kv, val := a.eval y }, clock, ?_, ?_⟩
          · rw [hexec]
            have hb2 := same_bits hk hp hself
            simp [Instr.mapUpdate, run_underlying hu, hax, hget, ek, hchk, f1, hsetr, he, hkey, Instr.keyThatStays, hb2]
          · simp only [Option.map_some, mset]
            refine ⟨by simpa using hr.len, fun i p e' h1 h2 => ?_⟩
            rw [Array.getElem?_toList, Array.getElem?_modify] at h2
            rw [List.getElem?_set] at h1
            by_cases hij : j = i
            · subst hij
              rw [if_pos rfl] at h1
              rw [if_pos rfl, he] at h2
              simp only [Option.map_some, Option.some.injEq] at h2
              subst h2
              split at h1
              · cases h1
                exact ⟨by rw [ek] at rk; exact rk, ry⟩
              · cases h1
            · rw [if_neg hij] at h1
              rw [if_neg hij] at h2
              exact hr.at_ i p e' h1 (by rw [Array.getElem?_toList]; exact h2)
      obtain ⟨new, cl', hrun, hrel⟩ := run
      have hlt := map_lt hheap
      have s' := s.putM (w' := { w with heap := w.heap.setIfInBounds c (.map new cl') }) hes hg hheap rfl rfl rfl (by simp) (fun k hk => by simp [Array.getElem?_setIfInBounds_ne (Ne.symm hk)]) (cl' := cl') (by simp [Array.getElem?_setIfInBounds_self_of_lt hlt]) hrel
      exact ⟨_, _, _, _, _, hK, Sub.refl _, Fr.putM hg (by simp) (fun k hk => by simp [Array.getElem?_setIfInBounds_ne (Ne.symm hk)]), s', hrun, .inl ⟨rfl, rfl⟩⟩
  · exact hs.elim

def isAggV : Value → Bool
  | .agg _ => true
  | _ => false
theorem mkZ_eq {z : Value} (hz : (cellsOf z).all plainV = true) : mkZ (isAggV z) (cellsOf z) = z := by cases z <;> simp [isAggV, mkZ, cellsOf]
theorem mkZ_rel {z : Value} (hz : (cellsOf z).all plainV = true) : VRel γ z z := by
  cases z
  case agg cs =>
    have := VRel.agg_of (γ := γ) (xs := cs.toList) (ys := cs.toList) ⟨rfl, fun i hi _ => plainV_rel (List.all_eq_true.1 hz _ (List.getElem_mem hi))⟩
    simpa using this
  all_goals exact plainV_rel (List.all_eq_true.1 hz _ (by simp [cellsOf]))
theorem lkV_rel {ok : Bool} {v v' : Value} {b : Bool} (h : VRel γ v v') : VRel γ (lkV ok (v, b)) (if ok then .tuple #[v', .bool b] else v') := by
  cases ok
  · exact h
  · exact VRel.tuple_of (xs := [v, .bool b]) (ys := [v', .bool b]) (LRel.cons h (LRel.cons (.bool b) LRel.nil))

theorem s_lkp (r : TRel γ n t a) (s : Sim base w0 γ h w) {m d : Nat} {ok : Bool} {ty kt et : TypeId} {dd : TypeDesc} {ti : TypeInfo} {z : Value} {x k : Operand} (ho : o.op = .lookup ty x k ok) (hu : P.underlying ty = some (.map kt et)) (hk : P.underlying kt = some dd)
    (hp : plainT P d kt = true) (hd : d ≤ 10000) (hi : P.info? et = some ti) (hz : ti.zero = some z) (hzp : (cellsOf z).all plainV = true) (hx : okO m x = true) (hkx : okO m k = true)
    (hs : (AK.lkp (kaD dd) (shapeT P d kt) (isAggV z) (cellsOf z) ok x k).step t h K) : Got P base w0 γ w ((execOp a.eval o).run P w) K := by
  simp only [AK.step, mkZ_eq hzp] at hs
  split at hs
  · rename_i mb kv hxv hkv
    obtain ⟨hself, es, hes, q, hf, hK⟩ := hs
    have rx := r.ev hx hxv
    have rk := r.ev hkx hkv
    obtain ⟨ek, _⟩ := key_same hk hp hself rk rk
    have hzero : (zeroValue et).run P w = .ok z w := by simp [zeroValue, typeInfo, hi, hz]
    have go : ∀ (es' : Array MapEntry), ERel γ es es'.toList → (∀ q' : Option (Nat × Value), (Instr.checkKey es'.isEmpty 10000 kt kv).run P w = .ok () w → (Instr.findKey kt kv es'.toList).run P w = .ok q' w →
        (execOp a.eval o).run P w = .ok (.value (match q' with | some jv => (if ok then .tuple #[jv.2, .bool true] else jv.2) | none => if ok then .tuple #[z, .bool false] else z)) w) → Got P base w0 γ w ((execOp a.eval o).run P w) K := by
      intro es' hr hrun
      obtain ⟨q', f1, f2, f3⟩ := findKey_run hk hp hd hself w hr hf
      have hrun := hrun q' (key_check hk hp hd hself es'.isEmpty w) f1
      cases q' with
      | none =>
        cases f2
        exact Got.pure s hK hrun (lkV_rel (mkZ_rel hzp))
      | some jv =>
        obtain ⟨j, vv⟩ := jv
        cases f2
        obtain ⟨e, he, hev, hkey⟩ := f3 j vv rfl
        have hj : j < es.length := by rw [hr.len]; exact (List.getElem?_eq_some_iff.1 he).1
        have hp1 := List.getElem?_eq_getElem hj
        have hval := (hr.at_ j _ e hp1 he).2
        have hm : mval es z (some j) = (es[j].2, true) := by simp only [mval, hp1]
        simp only [Option.map_some, hm] at hK
        rw [hev] at hval
        exact Got.pure s hK hrun (lkV_rel hval)
    generalize hax : a.eval x = xv at rx
    cases rx with
    | map0 =>
      cases hes
      refine go #[] ⟨rfl, fun i p e h1 => by cases h1⟩ fun q' h1 h2 => ?_
      simp [execOp, ho, Instr.lookup, run_underlying hu, hax, ek] at h1 h2 ⊢
      simp [h1, h2]
      cases q' <;> simp [hzero]
    | map hg =>
      obtain ⟨c1, es', clock, h1, hb, hheap, hr⟩ := s.maps.obj _ es hes
      rw [hg] at h1
      cases h1
      refine go es' hr fun q' h1 h2 => ?_
      simp [execOp, ho, Instr.lookup, run_underlying hu, hax, ek, MapKept.run_getObj_map (P := P) hheap]
      simp only [h1, h2, Result.andThen_ok]
      cases q' <;> simp [hzero]
  · exact hs.elim

/-! ### type assertions -/
theorem s_tas (r : TRel γ n t a) {m : Nat} {ok : Bool} {xt ty : TypeId} {d : TypeDesc} {ti : TypeInfo} {z : Value} {x : Operand} (ho : o.op = .typeAssert x xt ty ok) (hu : P.underlying ty = some d) (hd : ifaceD d = false) (hi : P.info? ty = some ti) (hz : ti.zero = some z)
    (hzp : (cellsOf z).all plainV = true) (hx : okO m x = true) (hs : (AK.tas ty (isAggV z) (cellsOf z) ok x).step t h K) : PG P γ o a h K := by
  simp only [AK.step, mkZ_eq hzp] at hs
  have hzero : ∀ w, (zeroValue ty).run P w = .ok z w := fun w => by simp [zeroValue, typeInfo, hi, hz]
  split at hs
  · rename_i u v hv
    have rv := r.ev hx hv
    generalize hax : a.eval x = vv at rv
    cases rv with
    | iface h1 =>
      rename_i v'
      split at hs
      · rename_i he
        subst he
        refine PG.of hs (v' := if ok then .tuple #[v', .bool true] else v') (fun w => ?_) (lkV_rel h1)
        simp only [execOp, ho, Instr.typeAssert, Sem.run_bind, run_underlying hu, Result.andThen_ok, hax]
        cases d <;> simp_all [ifaceD] <;> split <;> simp
      · rename_i he
        obtain ⟨rfl, hs⟩ := hs
        refine PG.of hs (v' := .tuple #[z, .bool false]) (fun w => ?_) (lkV_rel (ok := true) (mkZ_rel hzp))
        simp only [execOp, ho, Instr.typeAssert, Sem.run_bind, run_underlying hu, Result.andThen_ok, hax]
        cases d <;> simp_all [ifaceD]
  · rename_i hv
    obtain ⟨rfl, hs⟩ := hs
    have rv := r.ev hx hv
    generalize hax : a.eval x = vv at rv
    cases rv
    refine PG.of hs (v' := .tuple #[z, .bool false]) (fun w => ?_) (lkV_rel (ok := true) (mkZ_rel hzp))
    simp only [execOp, ho, Instr.typeAssert, Sem.run_bind, run_underlying hu, Result.andThen_ok, hax]
    cases d <;> simp_all [ifaceD]
  · exact hs.elim
end
end Go.Proofs.Ytbfbgkhlngkifaa.Am
