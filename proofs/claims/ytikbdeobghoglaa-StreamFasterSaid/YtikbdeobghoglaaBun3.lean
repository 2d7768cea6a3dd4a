/- Nothing of its own: the functions stand in one text. -/
import Derived.Test.YtikbdeobghoglaaBun2
import Derived.Test.YtikbdeobghoglaaAmZb
import Derived.IntWalk
import Derived.Test.YtikbdeobghoglaaBun1

/- Tracks in memory. Plain theorems over the abstract machine.
   Conditions: none. -/
namespace Go.Proofs.Ytikbdeobghoglaa.Md
open Go Go.RowKit Go.Proofs.Ytikbdeobghoglaa.Am Go.Proofs.Ytikbdeobghoglaa.Af
set_option linter.unusedVariables false
set_option linter.unusedSimpArgs false
set_option linter.defProp false
set_option maxRecDepth 20000

theorem i64 {n : Int} (h : -9223372036854775808 ≤ n ∧ n ≤ 9223372036854775807) : IntKind.i64.wrap n = n := IntWalk.i64_in n h
theorem u64 {n : Int} (h : 0 ≤ n ∧ n ≤ 18446744073709551615) : IntKind.u64.wrap n = n := IntWalk.u64_in n h
theorem u32 {n : Int} (h : 0 ≤ n ∧ n ≤ 4294967295) : IntKind.u32.wrap n = n := IntWalk.u32_in n h
theorem u8 {n : Int} (h : 0 ≤ n ∧ n ≤ 255) : IntKind.u8.wrap n = n := IntWalk.u8_in n h
theorem i64s {i : Nat} (h : (i : Int) ≤ 9223372036854775806) : IntKind.i64.wrap ((i : Int) + 1) = ((i + 1 : Nat) : Int) := by rw [i64 (by omega)]; rfl
def Bytes (l : List Int) : Prop := ∀ x ∈ l, 0 ≤ x ∧ x ≤ 255

/-! ### words for simp -/
theorem nadd (a b : Nat) : (a : Int) + (b : Int) = ((a + b : Nat) : Int) := rfl
theorem nadd1 (a : Nat) : (a : Int) + 1 = ((a + 1 : Nat) : Int) := rfl
theorem nsub1 (a : Nat) : ((a + 1 : Nat) : Int) - 1 = (a : Int) := by omega
theorem tn_1 : Int.toNat 1 = 1 := rfl
theorem le01 : ((0 : Int) ≤ 1) = True := by simp
theorem le00 : ((0 : Int) ≤ 0) = True := by simp
theorem lt00 : ((0 : Int) < ((0 : Nat) : Int)) = False := by simp
theorem src_n1 {h : Hp} {a : Value} {md : Md} : (h.new ⟨[a], md⟩).src 1 (.slice (some ⟨h.size, 0, none⟩) 1 1) = some [a] := src_new rfl
theorem src_n2 {h : Hp} {a b : Value} {md : Md} : (h.new ⟨[a, b], md⟩).src 2 (.slice (some ⟨h.size, 0, none⟩) 1 1) = some [a, b] := src_new rfl
theorem src_n6 {h : Hp} {a b c d e f : Value} {md : Md} : (h.new ⟨[a, b, c, d, e, f], md⟩).src 6 (.slice (some ⟨h.size, 0, none⟩) 1 1) = some [a, b, c, d, e, f] := src_new rfl
theorem rdN_new {h : Hp} {cs : List Value} {md : Md} {m : Nat} (e : lenIs cs m = true) : (h.new ⟨cs, md⟩).rdN h.size 0 m = some cs := by
  have hl : cs.length = m := by rw [lenIs_p]; exact e
  rw [rdN_mk get_new_self (by simp [hl]), List.drop_zero, List.take_of_length_le (by simp [hl])]
theorem rd_n2 {h : Hp} {a b : Value} {md : Md} : (h.new ⟨[a, b], md⟩).rdN h.size 0 2 = some [a, b] := rdN_new rfl
theorem rd_n4 {h : Hp} {a b c d : Value} {md : Md} : (h.new ⟨[a, b, c, d], md⟩).rdN h.size 0 4 = some [a, b, c, d] := rdN_new rfl
theorem rd_n6 {h : Hp} {a b c d e f : Value} {md : Md} : (h.new ⟨[a, b, c, d, e, f], md⟩).rdN h.size 0 6 = some [a, b, c, d, e, f] := rdN_new rfl
theorem rd_n11 {h : Hp} {a b c d e f g i j k l : Value} {md : Md} : (h.new ⟨[a, b, c, d, e, f, g, i, j, k, l], md⟩).rdN h.size 0 11 = some [a, b, c, d, e, f, g, i, j, k, l] := rdN_new rfl
def CQ := And.intro @rd_n2 <| And.intro @rd_n4 <| And.intro @rd_n6 <| And.intro @rd_n11 <| And.intro @tn_1 (And.intro @le01 (And.intro @le00 (And.intro @lt00 (And.intro @nsub1 (And.intro @nadd1 (And.intro @nadd (And.intro @src_n1 (And.intro @src_n2 (And.intro @src_n6 @new_put)))))))))

/-! ### rows -/
theorem rdN_sub {h : Hp} {b off m k l : Nat} {cs : List Value} (e : h.rdN b off m = some cs) (hk : k + l ≤ m) : h.rdN b (off + k) l = some ((cs.drop k).take l) := by
  obtain ⟨ob, h1, h2, rfl⟩ := rdN_of e
  rw [rdN_mk h1 (by omega)]
  congr 1
  rw [List.drop_take, List.take_take, List.drop_drop, Nat.min_eq_left (by omega)]
theorem row_elem {α : Type} {d : AKd α} {z : Nat} (hz : d.sz = z) {h g : Hp} {oa : Option Addr} {n : Nat} {r : List Value} {xs : List α} (rd : Rd h z oa n r) (row : AKd.Row (d.A g) xs r) (hl : xs.length = n) {i : Nat} (hi : i < n) :
    ∃ b off sp x c, oa = some ⟨b, off, sp⟩ ∧ flagOk sp = true ∧ xs[i]? = some x ∧ d.A g x c ∧ h.rdN b (off + i * z) z = some c ∧ ∀ j v, c[j]? = some v → h.rd b (off + i * z + j) = some v := by
  subst hz
  obtain ⟨b, off, sp, e, h1, h2⟩ := rd.pos (by omega)
  have hx : xs[i]? = some xs[i] := List.getElem?_eq_getElem (by omega)
  have hc := AKd.Row.get (fun x cs h => d.alen h) row hx
  have h3 := rdN_sub (k := i * d.sz) (l := d.sz) h2 (by rw [← Nat.succ_mul]; exact Nat.mul_le_mul_right _ hi)
  exact ⟨b, off, sp, _, _, e, h1, hx, hc, h3, fun j v hv => rdN_get h3 hv⟩
theorem row_flat {α : Type} {A : α → List Value → Prop} {f : α → List Value} (hf : ∀ x cs, A x cs → cs = f x) : ∀ {xs : List α} {cs : List Value}, AKd.Row A xs cs → cs = xs.flatMap f
  | [], _, h => h
  | x :: xs, _, ⟨c, r, e, h1, h2⟩ => by
    rw [e, hf x c h1, row_flat hf h2]; rfl
theorem flat_row {α : Type} {A : α → List Value → Prop} {f : α → List Value} (hf : ∀ x, A x (f x)) : ∀ xs : List α, AKd.Row A xs (xs.flatMap f)
  | [] => rfl
  | x :: xs => ⟨f x, xs.flatMap f, rfl, hf x, flat_row hf xs⟩
theorem row_snoc {α : Type} {A : α → List Value → Prop} : ∀ {xs : List α} {x : α} {cs c : List Value}, AKd.Row A xs cs → A x c → AKd.Row A (xs ++ [x]) (cs ++ c)
  | [], x, cs, c, h, hx => by
    have h : cs = [] := h
    subst h
    exact ⟨c, [], by simp, hx, rfl⟩
  | y :: xs, x, cs, c, ⟨d, r, e, h1, h2⟩, hx => ⟨d, r ++ c, by rw [e]; simp, h1, row_snoc h2 hx⟩
theorem row_len {α : Type} {d : AKd α} {h : Hp} {xs : List α} {r : List Value} (row : AKd.Row (d.A h) xs r) : r.length = xs.length * d.sz := AKd.Row.len (fun x cs => d.alen) row
theorem _root_.Go.Proofs.Ytikbdeobghoglaa.Am.Rd.keepW {h h' : Hp} {z n : Nat} {oa : Option Addr} {cs : List Value} {F : Nat → Prop} (w : Wf h) (r : Rd h z oa n cs) (f : Fm F h h') (hF : ∀ x, x < h.size → ¬ F x) : Rd h' z oa n cs :=
  ⟨r.len, r.nil, fun a ha => (r.at_ a ha).imp (fun ⟨h1, h2⟩ => ⟨h1, (rdN_keep (f.get _ (rdN_wf w h2) (hF _ (rdN_wf w h2)))).trans h2⟩) id⟩
/-- What only new blocks have suffered. -/
theorem _root_.Go.Proofs.Ytikbdeobghoglaa.Am.Fm.exF {h h' : Hp} {F : Nat → Prop} (f : Fm F h h') (w : Wf h) (hF : ∀ x, x < h.size → ¬ F x) : Ex h h' := fun b o e => f.keep w e (hF _ (w.lt e))
theorem _root_.Go.Proofs.Ytikbdeobghoglaa.Am.Ex.rd {h h' : Hp} (x : Ex h h') {b i : Nat} {v : Value} (e : h.rd b i = some v) : h'.rd b i = some v := by
  unfold Hp.rd at e ⊢
  cases hg : h.get b with
  | none => rw [hg] at e; cases e
  | some o => rw [hg] at e; rw [x b o hg]; exact e
theorem ints_open {k : IntKind} {h : Hp} {xs : List Int} {cs : List Value} (a : (AKd.slice (AKd.int k)).A h xs cs) : ∃ oa c, cs = [.slice oa xs.length c] ∧ Rd h 1 oa xs.length (xs.map (Value.int k)) ∧ xs.length ≤ c := by
  obtain ⟨oa, c, r, h1, h2, h3, h4⟩ := a
  have := AKd.Row.int h3
  subst this
  exact ⟨oa, c, h1, h2, h4⟩
theorem flat_int {k : IntKind} : ∀ xs : List Int, xs.flatMap (fun x => [Value.int k x]) = xs.map (Value.int k)
  | [] => rfl
  | x :: xs => by rw [List.flatMap_cons, flat_int xs]; rfl
theorem ints_mk {k : IntKind} {h : Hp} {xs : List Int} {oa : Option Addr} {c : Nat} (r : Rd h 1 oa xs.length (xs.map (Value.int k))) (hc : xs.length ≤ c) : (AKd.slice (AKd.int k)).A h xs [.slice oa xs.length c] := by
  refine ⟨oa, c, _, rfl, r, ?_, hc⟩
  have := flat_row (A := (AKd.int k).A h) (f := fun x => [Value.int k x]) (fun x => rfl) xs
  have e := flat_int (k := k) xs
  rw [e] at this
  exact this

/-! ### samples and tracks -/
abbrev Edit := Int × Int × Int × Int
abbrev Rf := ByteArray × Int
abbrev Smp := Int × Int × Int × Bool × List Int × List Int
abbrev Trk := Int × Int × ByteArray × Int × List Int × ByteArray × ByteArray × Int × List Edit × List Rf × List Smp
abbrev editK : AKd Edit := AKd.pair (AKd.int .i64) (AKd.pair (AKd.int .i64) (AKd.pair (AKd.int .i64) (AKd.int .i64)))
abbrev refK : AKd Rf := AKd.pair AKd.string (AKd.int .i64)
abbrev smpK : AKd Smp := AKd.pair (AKd.int .i64) (AKd.pair (AKd.int .i64) (AKd.pair (AKd.int .i64) (AKd.pair AKd.bool (AKd.pair (AKd.slice (AKd.int .i64)) (AKd.slice (AKd.int .u8))))))
abbrev trkK : AKd Trk := AKd.pair (AKd.int .i64) (AKd.pair (AKd.int .i64) (AKd.pair AKd.string (AKd.pair (AKd.int .i64) (AKd.pair (AKd.slice (AKd.int .u8)) (AKd.pair AKd.string (AKd.pair AKd.string (AKd.pair (AKd.int .i64)
  (AKd.pair (AKd.slice editK) (AKd.pair (AKd.slice refK) (AKd.slice smpK))))))))))
def Smp.dts (s : Smp) : Int := s.1
def Smp.pts (s : Smp) : Int := s.2.1
def Smp.dur (s : Smp) : Int := s.2.2.1
def Smp.sync (s : Smp) : Bool := s.2.2.2.1
def Smp.deps (s : Smp) : List Int := s.2.2.2.2.1
def Smp.data (s : Smp) : List Int := s.2.2.2.2.2
def editC (e : Edit) : List Value := [.int .i64 e.1, .int .i64 e.2.1, .int .i64 e.2.2.1, .int .i64 e.2.2.2]
def refC (r : Rf) : List Value := [.string r.1, .int .i64 r.2]
theorem edit_cells {h : Hp} (x : Edit) (cs : List Value) (a : editK.A h x cs) : cs = editC x := by
  obtain ⟨c1, c2, rfl, h1, c3, c4, rfl, h2, c5, c6, rfl, h3, h4⟩ := a
  have h1 : c1 = [.int .i64 x.1] := h1
  have h2 : c3 = [.int .i64 x.2.1] := h2
  have h3 : c5 = [.int .i64 x.2.2.1] := h3
  have h4 : c6 = [.int .i64 x.2.2.2] := h4
  rw [h1, h2, h3, h4]; rfl
theorem ref_cells {h : Hp} (x : Rf) (cs : List Value) (a : refK.A h x cs) : cs = refC x := by
  obtain ⟨c1, c2, rfl, h1, h2⟩ := a
  have h1 : c1 = [.string x.1] := h1
  have h2 : c2 = [.int .i64 x.2] := h2
  rw [h1, h2]; rfl
theorem smp_open {h : Hp} {s : Smp} {c : List Value} (a : smpK.A h s c) : ∃ pa pc da dc, c = [.int .i64 s.dts, .int .i64 s.pts, .int .i64 s.dur, .bool s.sync, .slice pa s.deps.length pc, .slice da s.data.length dc] ∧
    Rd h 1 pa s.deps.length (s.deps.map (Value.int .i64)) ∧ s.deps.length ≤ pc ∧ Rd h 1 da s.data.length (s.data.map (Value.int .u8)) ∧ s.data.length ≤ dc := by
  obtain ⟨c1, c2, rfl, h1, c3, c4, rfl, h2, c5, c6, rfl, h3, c7, c8, rfl, h4, c9, c10, rfl, h5, h6⟩ := a
  have h1 : c1 = [.int .i64 s.1] := h1
  have h2 : c3 = [.int .i64 s.2.1] := h2
  have h3 : c5 = [.int .i64 s.2.2.1] := h3
  have h4 : c7 = [.bool s.2.2.2.1] := h4
  obtain ⟨pa, pc, rfl, r1, l1⟩ := ints_open h5
  obtain ⟨da, dc, rfl, r2, l2⟩ := ints_open h6
  exact ⟨pa, pc, da, dc, by rw [h1, h2, h3, h4]; rfl, r1, l1, r2, l2⟩
theorem smp_mk {h : Hp} {s : Smp} {pa da : Option Addr} {pc dc : Nat} (r1 : Rd h 1 pa s.deps.length (s.deps.map (Value.int .i64))) (l1 : s.deps.length ≤ pc) (r2 : Rd h 1 da s.data.length (s.data.map (Value.int .u8))) (l2 : s.data.length ≤ dc) :
    smpK.A h s [.int .i64 s.dts, .int .i64 s.pts, .int .i64 s.dur, .bool s.sync, .slice pa s.deps.length pc, .slice da s.data.length dc] :=
  ⟨[.int .i64 s.1], _, rfl, rfl, [.int .i64 s.2.1], _, rfl, rfl, [.int .i64 s.2.2.1], _, rfl, rfl, [.bool s.2.2.2.1], _, rfl, rfl, [_], [_], rfl, ints_mk r1 l1, ints_mk r2 l2⟩
def Trk.id (t : Trk) : Int := t.1
def Trk.kind (t : Trk) : Int := t.2.1
def Trk.codec (t : Trk) : ByteArray := t.2.2.1
def Trk.scale (t : Trk) : Int := t.2.2.2.1
def Trk.setup (t : Trk) : List Int := t.2.2.2.2.1
def Trk.lang (t : Trk) : ByteArray := t.2.2.2.2.2.1
def Trk.name (t : Trk) : ByteArray := t.2.2.2.2.2.2.1
def Trk.preroll (t : Trk) : Int := t.2.2.2.2.2.2.2.1
def Trk.edits (t : Trk) : List Edit := t.2.2.2.2.2.2.2.2.1
def Trk.refs (t : Trk) : List Rf := t.2.2.2.2.2.2.2.2.2.1
def Trk.samples (t : Trk) : List Smp := t.2.2.2.2.2.2.2.2.2.2
/-- The cells of a track, and what they lead to. -/
structure TrkC (h : Hp) (t : Trk) (cs : List Value) (sa ea ra qa : Option Addr) (sc ec rc qc : Nat) (qr : List Value) : Prop where
  cells : cs = [.int .i64 t.id, .int .i64 t.kind, .string t.codec, .int .i64 t.scale, .slice sa t.setup.length sc, .string t.lang, .string t.name, .int .i64 t.preroll, .slice ea t.edits.length ec, .slice ra t.refs.length rc, .slice qa t.samples.length qc]
  setup : Rd h 1 sa t.setup.length (t.setup.map (Value.int .u8))
  edits : Rd h 4 ea t.edits.length (t.edits.flatMap editC)
  refs : Rd h 2 ra t.refs.length (t.refs.flatMap refC)
  samples : Rd h 6 qa t.samples.length qr
  row : AKd.Row (smpK.A h) t.samples qr
  c1 : t.setup.length ≤ sc
  c2 : t.edits.length ≤ ec
  c3 : t.refs.length ≤ rc
  c4 : t.samples.length ≤ qc
theorem trk_open {h : Hp} {t : Trk} {cs : List Value} (a : trkK.A h t cs) : ∃ sa ea ra qa sc ec rc qc qr, TrkC h t cs sa ea ra qa sc ec rc qc qr := by
  obtain ⟨c1, c2, rfl, h1, c3, c4, rfl, h2, c5, c6, rfl, h3, c7, c8, rfl, h4, c9, c10, rfl, h5, c11, c12, rfl, h6, c13, c14, rfl, h7, c15, c16, rfl, h8, c17, c18, rfl, h9, c19, c20, rfl, h10, h11⟩ := a
  have h1 : c1 = [.int .i64 t.1] := h1
  have h2 : c3 = [.int .i64 t.2.1] := h2
  have h3 : c5 = [.string t.2.2.1] := h3
  have h4 : c7 = [.int .i64 t.2.2.2.1] := h4
  have h6 : c11 = [.string t.2.2.2.2.2.1] := h6
  have h7 : c13 = [.string t.2.2.2.2.2.2.1] := h7
  have h8 : c15 = [.int .i64 t.2.2.2.2.2.2.2.1] := h8
  obtain ⟨sa, sc, rfl, r1, l1⟩ := ints_open h5
  obtain ⟨ea, ec, er, rfl, r2, w2, l2⟩ := h9
  obtain ⟨ra, rc, rr, rfl, r3, w3, l3⟩ := h10
  obtain ⟨qa, qc, qr, rfl, r4, w4, l4⟩ := h11
  rw [row_flat edit_cells w2] at r2
  rw [row_flat ref_cells w3] at r3
  exact ⟨sa, ea, ra, qa, sc, ec, rc, qc, qr, ⟨by rw [h1, h2, h3, h4, h6, h7, h8]; rfl, r1, r2, r3, r4, w4, l1, l2, l3, l4⟩⟩
theorem editA (h : Hp) (x : Edit) : editK.A h x (editC x) := ⟨[.int .i64 x.1], _, rfl, rfl, [.int .i64 x.2.1], _, rfl, rfl, [.int .i64 x.2.2.1], [.int .i64 x.2.2.2], rfl, rfl, rfl⟩
theorem refA (h : Hp) (x : Rf) : refK.A h x (refC x) := ⟨[.string x.1], [.int .i64 x.2], rfl, rfl, rfl⟩
theorem TrkC.mk' {h : Hp} {t : Trk} {cs : List Value} {sa ea ra qa : Option Addr} {sc ec rc qc : Nat} {qr : List Value} (c : TrkC h t cs sa ea ra qa sc ec rc qc qr) : trkK.A h t cs := by
  rw [c.cells]
  exact ⟨[.int .i64 t.1], _, rfl, rfl, [.int .i64 t.2.1], _, rfl, rfl, [.string t.2.2.1], _, rfl, rfl, [.int .i64 t.2.2.2.1], _, rfl, rfl, [_], _, rfl, ints_mk c.setup c.c1, [.string t.2.2.2.2.2.1], _, rfl, rfl, [.string t.2.2.2.2.2.2.1], _, rfl, rfl, [.int .i64 t.2.2.2.2.2.2.2.1], _, rfl, rfl,
    [_], _, rfl, ⟨ea, ec, _, rfl, c.edits, flat_row (editA h) _, c.c2⟩, [_], [_], rfl, ⟨ra, rc, _, rfl, c.refs, flat_row (refA h) _, c.c3⟩, ⟨qa, qc, qr, rfl, c.samples, c.row, c.c4⟩⟩
theorem TrkC.ex {h h' : Hp} {t : Trk} {cs : List Value} {sa ea ra qa : Option Addr} {sc ec rc qc : Nat} {qr : List Value} (c : TrkC h t cs sa ea ra qa sc ec rc qc qr) (x : Ex h h') : TrkC h' t cs sa ea ra qa sc ec rc qc qr :=
  ⟨c.cells, c.setup.ex x, c.edits.ex x, c.refs.ex x, c.samples.ex x, c.row.mono fun y cs hy => smpK.mono x hy, c.c1, c.c2, c.c3, c.c4⟩
end Go.Proofs.Ytikbdeobghoglaa.Md

/- Limbs in memory. Plain theorems over the abstract machine.
   Conditions: none. -/
namespace Go.Proofs.Ytikbdeobghoglaa.Nu
open Go Go.RowKit Go.Proofs.Ytikbdeobghoglaa.Am Go.Proofs.Ytikbdeobghoglaa.Af Go.Proofs.Ytikbdeobghoglaa.Md
set_option linter.unusedVariables false
set_option linter.unusedSimpArgs false
set_option linter.defProp false
set_option maxRecDepth 20000
set_option maxHeartbeats 1000000

theorem nNo {h : Hp} : ∀ x, x < h.size → ¬ No x := fun x _ f => f
abbrev B32 : Nat := 4294967296
theorem b32 : 1 < B32 := by decide
/-- The limbs of a number. -/
def dg (v : Nat) : List Nat := dig B32 b32 v
def u3 (M : List Nat) : List Value := (M.map Int.ofNat).map (Value.int .u32)
theorem u3_len (M : List Nat) : (u3 M).length = M.length := by simp [u3]
theorem u3_take (M : List Nat) (k : Nat) : (u3 M).take k = u3 (M.take k) := by simp [u3, List.map_take]
theorem u3_app (a b : List Nat) : u3 (a ++ b) = u3 a ++ u3 b := by simp [u3]
theorem _root_.Go.Proofs.Ytikbdeobghoglaa.Am.Rd.take {h : Hp} {oa : Option Addr} {n k : Nat} {cs : List Value} (r : Rd h 1 oa n cs) (hk : k ≤ n) : Rd h 1 oa k (cs.take k) := by
  refine ⟨by have := r.len; simp; omega, fun e => by have := r.nil e; omega, fun a ha => ?_⟩
  rcases r.at_ a ha with ⟨h1, h2⟩ | ⟨h1, h2⟩
  · refine .inl ⟨h1, ?_⟩
    have := rdN_sub (k := 0) (l := k * 1) h2 (by omega)
    simpa using this
  · exact .inr ⟨h1, by omega⟩
theorem _root_.Go.Proofs.Ytikbdeobghoglaa.Am.Rd.nat {h : Hp} {oa : Option Addr} {n : Nat} {M : List Nat} (r : Rd h 1 oa n (u3 M)) {i : Nat} (hi : i < n) :
    ∃ b off sp d, oa = some ⟨b, off, sp⟩ ∧ flagOk sp = true ∧ M[i]? = some d ∧ h.rd b (off + i) = some (.int .u32 (d : Int)) := by
  obtain ⟨b, off, sp, h1, h2, v, h3, h4⟩ := r.int hi
  rw [List.getElem?_map] at h3
  cases hm : M[i]? with
  | none => rw [hm] at h3; cases h3
  | some d => rw [hm] at h3; cases h3; exact ⟨b, off, sp, d, h1, h2, rfl, h4⟩
theorem _root_.Go.Proofs.Ytikbdeobghoglaa.Am.Rd.mlen {h : Hp} {oa : Option Addr} {n : Nat} {M : List Nat} (r : Rd h 1 oa n (u3 M)) : M.length = n := by
  have := r.len; rw [u3_len] at this; omega
theorem Dl.take {B : Nat} {M : List Nat} (h : Dl B M) (k : Nat) : Dl B (M.take k) := fun d hd => h d (List.mem_of_mem_take hd)
theorem Dl.at {B : Nat} {M : List Nat} (h : Dl B M) {i d : Nat} (e : M[i]? = some d) : d < B := h d (List.mem_of_getElem? e)
/-- A slice of limbs. -/
structure Lm (h : Hp) (oa : Option Addr) (n c : Nat) (M : List Nat) : Prop where
  rd : Rd h 1 oa n (u3 M)
  le : n ≤ c
  dl : Dl B32 M
theorem Lm.len {h : Hp} {oa : Option Addr} {n c : Nat} {M : List Nat} (l : Lm h oa n c M) : M.length = n := l.rd.mlen
/-- A slice that is the limbs of a number. -/
def LmV (h : Hp) (v : Value) (x : Nat) : Prop := ∃ oa c, v = .slice oa (dg x).length c ∧ Lm h oa (dg x).length c (dg x)
theorem dg_dl (x : Nat) : Dl B32 (dg x) := dig_dl x
theorem dg_val (x : Nat) : vL B32 (dg x) = x := dig_val x
theorem nz_take {M : List Nat} {k d : Nat} (h : M[k]? = some d) (hd : d ≠ 0) : Nz (M.take (k + 1)) := by
  unfold Nz
  rw [List.take_add_one, h]
  simp [hd]
theorem c_trim {h : Hp} {oa : Option Addr} {n c : Nat} {M : List Nat} (l : Lm h oa n c M) (hn : n ≤ 1000000) :
    ACalls Try.prog 130 [.slice oa n c] h fun v h' => LmV h v (vL B32 M) ∧ h' = h := by
  refine num_trim_ok.snd hm rfl fun w => ?_
  rw [WF_eq, num_trim]
  simp +contextual (disch := omega) only [↓AM, ↓AV, AP, CQ]
  have hml := l.len
  refine WL.mk (fun k t h' => h' = h ∧ k ≤ n ∧ vL B32 (M.take k) = vL B32 M ∧ t = [(0, some (.slice oa k c))]) ⟨n, rfl, Nat.le_refl _, by rw [List.take_of_length_le (by omega)], rfl⟩ ?_
  rintro k t hh ⟨rfl, hk, hv, rfl⟩
  have fin : M.take k = dg (vL B32 M) → LmV hh (.slice oa k c) (vL B32 M) := fun e => by
    have hl : (dg (vL B32 M)).length = k := by rw [← e]; simp; omega
    refine ⟨oa, c, by rw [hl], ?_, by have := l.le; omega, dg_dl _⟩
    rw [hl, ← e, ← u3_take]
    exact l.rd.take hk
  have uq : Nz (M.take k) → M.take k = dg (vL B32 M) := fun hz => by
    rw [← hv]; exact dig_uniq b32 (l.dl.take k) hz
  cases k with
  | zero =>
    have e0 : ((0 : Int) < ((0 : Nat) : Int)) = False := by simp
    simp +contextual (disch := omega) only [↓AM, ↓AV, AP, CQ, e0]
    exact fin (uq (by simp [Nz]))
  | succ k =>
    obtain ⟨b1, o1, s1, d, rfl, f1, hd, r1⟩ := l.rd.nat (i := k) (by omega)
    have e0 : ((0 : Int) < (((k + 1 : Nat)) : Int)) = True := by simp
    have lt := l.dl.at hd
    have hc := l.le
    have kk : (k < k + 1) = True := by simp
    by_cases hz : d = 0
    · subst hz
      have hcap : capOk s1 (k + 1) c := by cases s1 <;> simp [capOk]; omega
      have hadr : slAddr b1 o1 s1 1 0 c true = ⟨b1, o1, s1⟩ := by
        have hc0 : ¬ c = 0 := by omega
        cases s1 <;> simp [slAddr, hc0]
      have e1 : EqI ((0 : Nat) : Int) 0 = True := eqI_self
      have e2 : k ≤ c := by omega
      simp +contextual (disch := omega) only [↓AM, ↓AV, AP, CQ, e0, i64, f1, r1, bnds, Option.isNone, hcap, hadr, e1, kk, e2]
      refine ⟨k, by omega, by omega, ?_, rfl⟩
      rw [← hv, List.take_add_one, hd]
      exact vL_init.symm
    · have e1 : EqI (d : Int) 0 = False := eq_false (by unfold EqI; omega)
      simp +contextual (disch := omega) only [↓AM, ↓AV, AP, CQ, e0, i64, f1, r1, e1]
      exact ⟨by omega, fin (uq (nz_take hd hz))⟩
end Go.Proofs.Ytikbdeobghoglaa.Nu

/- Limbs compared, multiplied and divided by one limb. Plain theorems over the abstract machine.
   Conditions: none. -/
namespace Go.Proofs.Ytikbdeobghoglaa.Nu
open Go Go.RowKit Go.Proofs.Ytikbdeobghoglaa.Am Go.Proofs.Ytikbdeobghoglaa.Af Go.Proofs.Ytikbdeobghoglaa.Md
set_option linter.unusedVariables false
set_option linter.unusedSimpArgs false
set_option linter.defProp false
set_option maxRecDepth 20000
set_option maxHeartbeats 1000000

theorem nmul (a b : Nat) : (a : Int) * (b : Int) = ((a * b : Nat) : Int) := rfl
theorem nmod32 (a : Nat) : (a : Int) % 4294967296 = ((a % 4294967296 : Nat) : Int) := rfl
theorem ndiv32 (a : Nat) : (a : Int) / 4294967296 = ((a / 4294967296 : Nat) : Int) := rfl
theorem shr_32 {n : Nat} : (n : Int).fdiv (2 ^ min 32 IntKind.u64.bits) = ((n / 4294967296 : Nat) : Int) := by
  show (n : Int).fdiv 4294967296 = _
  rw [Int.fdiv_eq_ediv_of_nonneg _ (by omega)]; rfl
theorem u32_mod {n : Nat} : IntKind.u32.wrap (n : Int) = ((n % 4294967296 : Nat) : Int) := by rw [IntKind.wrap_u32]; rfl
theorem shl_32 {n : Nat} : (n : Int) * 2 ^ min 32 IntKind.u64.bits = ((n * 4294967296 : Nat) : Int) := rfl
theorem or_32 {r d : Nat} (hr : r < 4294967296) (hd : d < 4294967296) : (BitVec.ofInt IntKind.u64.bits ((r * 4294967296 : Nat) : Int) ||| BitVec.ofInt IntKind.u64.bits (d : Int)).toNat = r * 4294967296 + d := by
  show (BitVec.ofInt 64 ((r * 4294967296 : Nat) : Int) ||| BitVec.ofInt 64 (d : Int)).toNat = r * 4294967296 + d
  rw [BitVec.toNat_or, BitVec.toNat_ofInt, BitVec.toNat_ofInt]
  have e1 : ((((r * 4294967296 : Nat) : Int)) % ((2 ^ 64 : Nat) : Int)).toNat = r <<< 32 := by
    rw [Nat.shiftLeft_eq]; omega
  have e2 : (((d : Nat) : Int) % ((2 ^ 64 : Nat) : Int)).toNat = d := by omega
  rw [e1, e2, ← Nat.shiftLeft_add_eq_or_of_lt (by omega), Nat.shiftLeft_eq]
def CN := And.intro @nmul <| And.intro @shr_32 <| And.intro @u32_mod @shl_32
theorem rep_u3 (n : Nat) : rep n [.int .u32 0] = u3 (List.replicate n 0) := by
  unfold rep u3
  induction n with
  | zero => rfl
  | succ n ih => rw [List.replicate_succ, List.flatten_cons, ih]; rfl
theorem spl_u3 {O : List Nat} {j d : Nat} (hj : j < O.length) : spl (u3 O) j [.int .u32 (d : Int)] = u3 (O.set j d) := by
  rw [spl_one _ _ _ (by rw [u3_len]; omega)]
  simp [u3, List.map_set]
theorem u3_at {O : List Nat} {j d : Nat} (h : O[j]? = some d) : (u3 O)[j]? = some (.int .u32 (d : Int)) := by simp [u3, h]
theorem vL_set {B : Nat} : ∀ {O : List Nat} {j d e : Nat}, O[j]? = some e → vL B (O.set j d) + B ^ j * e = vL B O + B ^ j * d
  | [], j, d, e, h => by simp at h
  | x :: O, 0, d, e, h => by
    have : x = e := by simpa using h
    subst this
    simp [vL]; omega
  | x :: O, j + 1, d, e, h => by
    have := vL_set (B := B) (O := O) (j := j) (d := d) (e := e) (by simpa using h)
    simp only [List.set_cons_succ, vL, Nat.pow_succ]
    have h2 : B * (vL B (O.set j d) + B ^ j * e) = B * (vL B O + B ^ j * d) := by rw [this]
    rw [Nat.mul_add, Nat.mul_add, ← Nat.mul_assoc, ← Nat.mul_assoc, Nat.mul_comm B (B ^ j)] at h2
    omega
theorem Dl.set {B : Nat} {O : List Nat} {j d : Nat} (h : Dl B O) (hd : d < B) : Dl B (O.set j d) := fun x hx => by
  rcases List.mem_or_eq_of_mem_set hx with h1 | rfl
  · exact h x h1
  · exact hd
theorem Dl.zeros (n : Nat) : Dl B32 (List.replicate n 0) := fun d hd => by
  rw [(List.mem_replicate.1 hd).2]; decide
theorem lm_new {h : Hp} {O : List Nat} (hd : Dl B32 O) : Lm (h.new ⟨u3 O, .own⟩) (some ⟨h.size, 0, none⟩) O.length O.length O :=
  ⟨Rd.of rfl (by rw [Nat.mul_one]; have := rdN_mk (gnew (h := h) (o := ⟨u3 O, .own⟩)) (off := 0) (m := O.length) (by simp [u3_len]); rw [this]; simp [List.take_of_length_le (Nat.le_of_eq (u3_len O))]), Nat.le_refl _, hd⟩
theorem c_magOf {h : Hp} {v : Nat} (hv : v < 18446744073709551616) : ACalls Try.prog 131 [.int .u64 (v : Int)] h fun r h' => LmV h' r v ∧ Fm No h h' := by
  refine num_magOf_ok.snd hm rfl fun w => ?_
  rw [WF_eq, num_magOf]
  simp +contextual (disch := omega) only [↓AM, ↓AV, AP, CQ, CN]
  have lm := lm_new (h := h) (O := [v % 4294967296, v / 4294967296 % 4294967296]) (fun d hd => by
    simp only [List.mem_cons, List.not_mem_nil, or_false] at hd
    show d < 4294967296
    rcases hd with rfl | rfl <;> omega)
  refine (c_trim lm (by simp)).use ?_
  rintro _ _ w1 ⟨l, rfl⟩
  have e : vL B32 [v % 4294967296, v / 4294967296 % 4294967296] = v := by simp only [vL, B32]; omega
  rw [e] at l
  obtain ⟨oa, c, rfl, l⟩ := l
  simp +contextual (disch := omega) only [↓AM, ↓AV, AP, CQ]
  exact ⟨⟨_, _, rfl, l⟩, Fm.new Fm.refl⟩
theorem c_cmp {h : Hp} {a b : Option Addr} {c d x y : Nat} (la : Lm h a (dg x).length c (dg x)) (lb : Lm h b (dg y).length d (dg y)) (hx : (dg x).length ≤ 1000000) (hy : (dg y).length ≤ 1000000) :
    ACalls Try.prog 111 [.slice a (dg x).length c, .slice b (dg y).length d] h fun v h' => (∃ r : Int, v = .int .i64 r ∧ (r < 0 ↔ x < y) ∧ (r = 0 ↔ x = y) ∧ -1000000 ≤ r ∧ r ≤ 1000000) ∧ h' = h := by
  refine num_cmpMag_ok.snd hm rfl fun w => ?_
  rw [WF_eq, num_cmpMag]
  have ll : (dg x).length < (dg y).length → x < y := fun hlt => by
    have := len_lt b32 (dg_dl x) (dig_nz (hB := b32) y) hlt
    rwa [dg_val, show vL B32 (dig B32 b32 y) = y from dg_val y] at this
  have lr : (dg y).length < (dg x).length → y < x := fun hlt => by
    have := len_lt b32 (dg_dl y) (dig_nz (hB := b32) x) hlt
    rwa [dg_val, show vL B32 (dig B32 b32 x) = x from dg_val x] at this
  by_cases hne : ((dg x).length : Int) = ((dg y).length : Int)
  case neg =>
    have e0 : EqI ((dg x).length : Int) ((dg y).length : Int) = False := eq_false hne
    simp +contextual (disch := omega) only [↓AM, ↓AV, AP, CQ, i64, e0]
    refine ⟨_, rfl, ?_, ?_, by omega, by omega⟩
    · constructor
      · intro hlt; exact ll (by omega)
      · intro hlt
        rcases Nat.lt_or_ge (dg y).length (dg x).length with h | h
        · have := lr h; omega
        · omega
    · constructor
      · intro h; omega
      · intro h; subst h; omega
  have hl : (dg x).length = (dg y).length := by omega
  have e0 : EqI ((dg x).length : Int) ((dg y).length : Int) = True := eq_true hne
  simp +contextual (disch := omega) only [↓AM, ↓AV, AP, CQ, i64, e0]
  refine WL.mk (fun k t h' => h' = h ∧ k ≤ (dg x).length ∧ (dg x).drop k = (dg y).drop k ∧ t = [(0, some (.slice a (dg x).length c)), (1, some (.slice b (dg y).length d)), (5, some (.int .i64 ((k : Int) - 1)))]) ⟨(dg x).length, rfl, Nat.le_refl _, by rw [List.drop_eq_nil_of_le (Nat.le_refl _), List.drop_eq_nil_of_le (by omega)], rfl⟩ ?_
  rintro k t _ ⟨rfl, hk, heq, rfl⟩
  cases k with
  | zero =>
    have e1 : ((0 : Int) ≤ ((0 : Nat) : Int) - 1) = False := by simp
    simp +contextual (disch := omega) only [↓AM, ↓AV, AP, CQ, e1]
    have : x = y := by
      have : dg x = dg y := heq
      rw [← dg_val x, this, dg_val]
    simp [this]
  | succ k =>
    obtain ⟨b1, o1, s1, p, rfl, f1, hp, r1⟩ := la.rd.nat (i := k) (by omega)
    obtain ⟨b2, o2, s2, q, rfl, f2, hq, r2⟩ := lb.rd.nat (i := k) (by omega)
    have hk1 : k < (dg x).length := by omega
    have hk2 : k < (dg y).length := by omega
    have gp : (dg x).getD k 0 = p := by rw [List.getD_eq_getElem?_getD, hp]; rfl
    have gq : (dg y).getD k 0 = q := by rw [List.getD_eq_getElem?_getD, hq]; rfl
    by_cases h1 : p = q
    · subst h1
      simp +contextual (disch := omega) only [↓AM, ↓AV, AP, CQ, i64, f1, f2, r1, r2, hk1, hk2, eqI_self]
      refine ⟨k, by omega, by omega, ?_, rfl⟩
      rw [List.getElem?_eq_getElem hk1] at hp
      rw [List.getElem?_eq_getElem hk2] at hq
      rw [List.drop_eq_getElem_cons hk1, List.drop_eq_getElem_cons hk2, heq, Option.some.inj hp, Option.some.inj hq]
    · have e1 : EqI (p : Int) (q : Int) = False := eq_false (by unfold EqI; omega)
      by_cases h2 : p < q
      · have := cmp_top b32 (dg_dl x) (dg_dl y) hk1 hl heq (by omega)
        rw [dg_val, dg_val] at this
        simp +contextual (disch := omega) only [↓AM, ↓AV, AP, CQ, i64, f1, f2, r1, r2, hk1, hk2, e1, h2]
        exact ⟨_, rfl, by omega, by omega, by omega, by omega⟩
      · have := cmp_top b32 (dg_dl y) (dg_dl x) hk2 hl.symm heq.symm (by omega)
        rw [dg_val, dg_val] at this
        simp +contextual (disch := omega) only [↓AM, ↓AV, AP, CQ, i64, f1, f2, r1, r2, hk1, hk2, e1, h2]
        exact ⟨_, rfl, by omega, by omega, by omega, by omega⟩
end Go.Proofs.Ytikbdeobghoglaa.Nu

/- Limbs copied, multiplied and divided by one limb. Plain theorems over the abstract machine.
   Conditions: none. -/
namespace Go.Proofs.Ytikbdeobghoglaa.Nu
open Go Go.RowKit Go.Proofs.Ytikbdeobghoglaa.Am Go.Proofs.Ytikbdeobghoglaa.Af Go.Proofs.Ytikbdeobghoglaa.Md
set_option linter.unusedVariables false
set_option linter.unusedSimpArgs false
set_option linter.defProp false
set_option maxRecDepth 20000
set_option maxHeartbeats 1000000

theorem c_clone {h : Hp} {a : Option Addr} {c x : Nat} (l : Lm h a (dg x).length c (dg x)) (hn : (dg x).length ≤ 1000000) :
    ACalls Try.prog 114 [.slice a (dg x).length c] h fun v h' => LmV h' v x ∧ Fm No h h' := by
  refine slices_Clone___uint32_uint32__ok.snd hm rfl fun w => ?_
  rw [WF_eq, slices_Clone___uint32_uint32_]
  have app : ∀ (y : Value) (K : Value → Hp → Prop) (tg : Tag K), y = .slice a (dg x).length c → (∀ oa' cap' h', Ow h' 1 oa' (dg x).length cap' (u3 (dg x)) → Wf h' → Fm No h h' → K (.slice oa' (dg x).length cap') h') →
      appV 1 4 (.slice (some ⟨h.size, 0, none⟩) 0 0) (dg x).length (u3 (dg x)) (h.new ⟨[], .own⟩) K tg := by
    intro x' K tg hx k
    have ow := Ow.new (h := h) (z := 1) (n := 0) (m := 0) (cs := []) rfl (Nat.le_refl _)
    have fm0 : Fm No h (h.new ⟨[], .own⟩) := Fm.new Fm.refl
    refine Ow.add (m := (dg x).length) w.new ow (by rw [u3_len]; omega) (by omega) fun oa' cap' h' o' w' f' n' => ?_
    obtain ⟨g1, g2⟩ := grown fm0 (Nw.new Fm.refl) f' n'
    rw [Nat.zero_add] at o' ⊢
    exact k oa' cap' h' (by simpa using o') w' g1
  have fm0 : Fm No h (h.new ⟨[], .own⟩) := Fm.new Fm.refl
  have hs := (l.rd.keep w fm0 (fun _ _ f => f)).src (c := c)
  rcases a with _ | ⟨b, off, sp⟩
  · have h0 := l.rd.nil rfl
    have hd : dg x = [] := List.length_eq_zero_iff.1 h0
    cases c with
    | zero =>
      rw [hd]
      simp +contextual only [↓AM, ↓AV, AP, isNilV, List.length_nil]
      refine ⟨⟨none, 0, by rw [hd]; rfl, ?_⟩, Fm.refl⟩
      rw [hd]
      exact ⟨Rd.mk0, Nat.le_refl _, fun d hd => by cases hd⟩
    | succ c =>
      rw [hd] at hs app ⊢
      simp +contextual only [↓AM, ↓AV, AP, isNilV, hs, List.length_nil] at hs ⊢
      refine app _ _ _ rfl fun oa' cap' h' o' w' f' => ?_
      simp +contextual only [↓AM, ↓AV, AP]
      rw [← hd] at o' ⊢
      exact ⟨⟨_, _, rfl, o'.rd, o'.le, dg_dl _⟩, f'⟩
  · simp +contextual only [↓AM, ↓AV, AP, isNilV, hs]
    refine app _ _ _ rfl fun oa' cap' h' o' w' f' => ?_
    simp +contextual only [↓AM, ↓AV, AP]
    exact ⟨⟨_, _, rfl, o'.rd, o'.le, dg_dl _⟩, f'⟩
theorem mul_step {x y c o : Nat} (hx : x < 4294967296) (hy : y < 4294967296) (hc : c < 4294967296) (ho : o < 4294967296) : c + (x * y + o) < 18446744073709551616 ∧ x * y + o < 18446744073709551616 ∧ x * y < 18446744073709551616 := by
  have : x * y ≤ 4294967295 * 4294967295 := Nat.mul_le_mul (by omega) (by omega)
  omega
theorem c_mul {h : Hp} {a b : Option Addr} {c d x y : Nat} (la : Lm h a (dg x).length c (dg x)) (lb : Lm h b (dg y).length d (dg y)) (hx : (dg x).length ≤ 400000) (hy : (dg y).length ≤ 400000) :
    ACalls Try.prog 107 [.slice a (dg x).length c, .slice b (dg y).length d] h fun v h' => LmV h' v (x * y) ∧ Fm No h h' := by
  refine num_mulMag_ok.snd hm rfl fun w => ?_
  rw [WF_eq, num_mulMag]
  simp +contextual (disch := omega) only [↓AM, ↓AV, AP, CQ, i64, rep_u3]
  refine ⟨by omega, ?_⟩
  have hval : vL B32 (dg x) * y = x * y := by rw [dg_val]
  generalize hX : dg x = X at *
  have yval : vL B32 (dg y) = y := dg_val y
  generalize hY : dg y = Y at *
  have zl : vL B32 (List.replicate (X.length + Y.length) 0) = 0 := vL_zeros _ _
  refine WL.mk (fun k t h' => ∃ O : List Nat, h' = h.new ⟨u3 O, .own⟩ ∧ O.length = X.length + Y.length ∧ Dl B32 O ∧ ∃ i : Nat, i ≤ X.length ∧ k = X.length - i ∧ vL B32 O = vL B32 (X.take i) * y ∧ (∀ j, i + Y.length ≤ j → j < O.length → O[j]? = some 0) ∧
      t = [(1, some (.slice b Y.length d)), (5, some (.slice (some ⟨h.size, 0, none⟩) (X.length + Y.length) (X.length + Y.length))), (17, some (.slice a X.length c)), (18, some (.int .i64 (X.length : Int))), (19, some (.int .i64 i))])
    ⟨X.length, _, rfl, by simp, Dl.zeros _, 0, by omega, rfl, by rw [zl]; simp [vL], fun j h1 h2 => by rw [List.getElem?_replicate, if_pos (by simpa using h2)], rfl⟩ ?_
  rintro k t _ ⟨O, rfl, hOl, hOd, i, hi, rfl, hv, hz, rfl⟩
  by_cases hin : i < X.length
  · obtain ⟨b1, o1, s1, p, rfl, f1, hp, r1⟩ := (la.rd.keepW w (Fm.new (o := ⟨u3 O, .own⟩) (Fm.refl (F := No))) nNo).nat hin
    have hpl : p < 4294967296 := la.dl.at hp
    simp +contextual (disch := omega) only [↓AM, ↓AV, AP, CQ, i64, hin, f1, r1]
    refine WL.mk (fun k t h' => ∃ O' : List Nat, h' = h.new ⟨u3 O', .own⟩ ∧ O'.length = X.length + Y.length ∧ Dl B32 O' ∧ ∃ j cy : Nat, j ≤ Y.length ∧ k = Y.length - j ∧ cy < 4294967296 ∧ vL B32 O' + B32 ^ (i + j) * cy = vL B32 (X.take i) * y + B32 ^ i * (p * vL B32 (Y.take j)) ∧ (∀ q, i + Y.length ≤ q → q < O'.length → O'[q]? = some 0) ∧
        t = [(1, some (.slice b Y.length d)), (5, some (.slice (some ⟨h.size, 0, none⟩) (X.length + Y.length) (X.length + Y.length))), (6, some (.int .i64 (i : Int))), (7, some (.int .u32 (p : Int))), (8, some (.int .u64 (cy : Int))), (17, some (.slice (some ⟨b1, o1, s1⟩) X.length c)), (18, some (.int .i64 (X.length : Int))), (19, some (.int .i64 i)), (24, some (.slice b Y.length d)), (25, some (.int .i64 (Y.length : Int))), (26, some (.int .i64 j))])
      ⟨Y.length, O, rfl, hOl, hOd, 0, 0, by omega, rfl, by decide, by rw [hv]; simp [vL], hz, rfl⟩ ?_
    clear r1 hv hz hOd hOl O
    rintro k t _ ⟨O, rfl, hOl, hOd, j, cy, hj, rfl, hcy, hv, hz, rfl⟩
    by_cases hjn : j < Y.length
    · obtain ⟨b2, o2, s2, q, rfl, f2, hq, r2⟩ := (lb.rd.keepW w (Fm.new (o := ⟨u3 O, .own⟩) (Fm.refl (F := No))) nNo).nat hjn
      have hql : q < 4294967296 := lb.dl.at hq
      have hij : i + j < O.length := by omega
      obtain ⟨e, he⟩ : ∃ e, O[i + j]? = some e := ⟨_, List.getElem?_eq_getElem hij⟩
      have hel : e < 4294967296 := hOd.at he
      obtain ⟨m1, m2, m3⟩ := mul_step hpl hql hcy hel
      have ue := u3_at he
      have hij2 : i + j < X.length + Y.length := by omega
      have ul : leIs (i + j + 1) (u3 O) = true := by rw [← leIs_p, u3_len]; omega
      have us : spl (u3 O) (i + j) [.int .u32 (((cy + (p * q + e)) % 4294967296 : Nat) : Int)] = u3 (O.set (i + j) ((cy + (p * q + e)) % 4294967296)) := spl_u3 hij
      simp +contextual (disch := omega) only [↓AM, ↓AV, AP, CQ, CN, i64, u64, hjn, f2, r2, ue, hij2, ul, us]
      generalize hs : cy + (p * q + e) = s at *
      refine ⟨_, ?_, _, rfl, ?_, ?_, j + 1, s / 4294967296, by omega, rfl, by omega, ?_, ?_, rfl⟩
      · omega
      · simp [hOl]
      · exact hOd.set (Nat.mod_lt _ (by decide))
      · have h0 := vL_set (B := B32) (d := s % 4294967296) he
        have h1 : B32 ^ (i + j) * (s % 4294967296) + B32 ^ (i + j) * (B32 * (s / 4294967296)) = B32 ^ (i + j) * s := by rw [← Nat.mul_add]; congr 1; exact Nat.mod_add_div s 4294967296
        have h2 : B32 ^ (i + j) * s = B32 ^ (i + j) * cy + (B32 ^ (i + j) * (p * q) + B32 ^ (i + j) * e) := by rw [← hs, Nat.mul_add, Nat.mul_add]
        have h3 : B32 ^ i * (p * (B32 ^ j * q)) = B32 ^ (i + j) * (p * q) := by rw [Nat.pow_add]; ac_rfl
        have h4 : vL B32 (Y.take (j + 1)) = vL B32 (Y.take j) + B32 ^ j * q := by
          rw [List.take_add_one, hq]
          show vL B32 (Y.take j ++ [q]) = _
          rw [vL_snoc, List.length_take, Nat.min_eq_left (by omega)]
        rw [h4, Nat.mul_add p, Nat.mul_add (B32 ^ i), h3, show i + (j + 1) = (i + j) + 1 by omega, Nat.pow_succ, Nat.mul_assoc]
        omega
      · intro k h1 h2
        rw [List.getElem?_set_ne (by omega)]
        exact hz k h1 (by simpa using h2)
    · have hjY : j = Y.length := by omega
      subst hjY
      have hiY : i + Y.length < O.length := by omega
      have hiY2 : i + Y.length < X.length + Y.length := by omega
      have ul : leIs (i + Y.length + 1) (u3 O) = true := by rw [← leIs_p, u3_len]; omega
      have us : spl (u3 O) (i + Y.length) [.int .u32 ((cy % 4294967296 : Nat) : Int)] = u3 (O.set (i + Y.length) (cy % 4294967296)) := spl_u3 hiY
      simp +contextual (disch := omega) only [↓AM, ↓AV, AP, CQ, CN, i64, u64, hjn, hiY2, ul, us]
      refine ⟨_, ?_, _, rfl, ?_, ?_, i + 1, by omega, rfl, ?_, ?_, rfl⟩
      · omega
      · simp [hOl]
      · exact hOd.set (Nat.mod_lt _ (by decide))
      · have h0 := vL_set (B := B32) (d := cy % 4294967296) (hz _ (Nat.le_refl _) hiY)
        rw [Nat.mod_eq_of_lt hcy] at h0 ⊢
        rw [List.take_of_length_le (Nat.le_refl Y.length), yval] at hv
        have h4 : vL B32 (X.take (i + 1)) = vL B32 (X.take i) + B32 ^ i * p := by
          rw [List.take_add_one, hp]
          show vL B32 (X.take i ++ [p]) = _
          rw [vL_snoc, List.length_take, Nat.min_eq_left (by omega)]
        rw [h4, Nat.add_mul, Nat.mul_assoc]
        omega
      · intro k h1 h2
        rw [List.getElem?_set_ne (by omega)]
        exact hz k (by omega) (by simpa using h2)
  · have hiX : i = X.length := by omega
    subst hiX
    simp +contextual (disch := omega) only [↓AM, ↓AV, AP, CQ, i64, hin]
    have lm := lm_new (h := h) hOd
    rw [hOl] at lm
    refine (c_trim lm (by omega)).use ?_
    rintro _ _ w1 ⟨l, rfl⟩
    rw [hv, List.take_of_length_le (Nat.le_refl _), hval] at l
    obtain ⟨oa, cc, rfl, l⟩ := l
    simp +contextual (disch := omega) only [↓AM, ↓AV, AP, CQ]
    exact ⟨⟨_, _, rfl, l⟩, Fm.new Fm.refl⟩
end Go.Proofs.Ytikbdeobghoglaa.Nu

/- Limbs divided by one limb. Plain theorems over the abstract machine.
   Conditions: none. -/
namespace Go.Proofs.Ytikbdeobghoglaa.Nu
open Go Go.RowKit Go.Proofs.Ytikbdeobghoglaa.Am Go.Proofs.Ytikbdeobghoglaa.Af Go.Proofs.Ytikbdeobghoglaa.Md
set_option linter.unusedVariables false
set_option linter.unusedSimpArgs false
set_option linter.defProp false
set_option maxRecDepth 20000
set_option maxHeartbeats 1000000

theorem dg_0 : dg 0 = [] := dig_0
theorem dg_1 {y : Nat} (h0 : 0 < y) (h1 : y < 4294967296) : dg y = [y] := by
  show dig B32 b32 y = [y]
  rw [dig_pos (by omega), show y / B32 = 0 from Nat.div_eq_of_lt h1, show dig B32 b32 0 = [] from dig_0, show y % B32 = y from Nat.mod_eq_of_lt h1]
theorem lmv0 {h : Hp} : LmV h (.slice none 0 0) 0 := ⟨none, 0, by rw [dg_0]; rfl, by rw [dg_0]; exact ⟨Rd.mk0, Nat.le_refl _, fun d hd => by cases hd⟩⟩
theorem LmV.keep {h h' : Hp} {v : Value} {x : Nat} (w : Wf h) (l : LmV h v x) (fm : Fm No h h') : LmV h' v x := by
  obtain ⟨oa, c, e, l⟩ := l
  exact ⟨oa, c, e, l.rd.keepW w fm nNo, l.le, l.dl⟩
theorem ntdiv (a b : Nat) : (a : Int).tdiv (b : Int) = ((a / b : Nat) : Int) := by rw [Int.tdiv_eq_ediv_of_nonneg (by omega)]; rfl
theorem ntmod (a b : Nat) : (a : Int).tmod (b : Int) = ((a % b : Nat) : Int) := by rw [Int.tmod_eq_emod_of_nonneg (by omega)]; rfl
theorem div_step {r a y : Nat} (hr : r < y) (ha : a < 4294967296) (hy : y < 4294967296) : (r * 4294967296 + a) / y < 4294967296 ∧ r * 4294967296 + a < 18446744073709551616 := by
  refine ⟨Nat.div_lt_of_lt_mul ?_, by omega⟩
  have : y * 4294967296 = 4294967296 * y := Nat.mul_comm _ _
  omega
theorem c_div {h : Hp} {a b : Option Addr} {c d x y : Nat} (la : Lm h a (dg x).length c (dg x)) (lb : Lm h b (dg y).length d (dg y)) (hx : (dg x).length ≤ 400000) (hy0 : 0 < y) (hy : y < 4294967296) :
    ACalls Try.prog 109 [.slice a (dg x).length c, .slice b (dg y).length d] h fun r h' => ∃ u v, r = .tuple #[u, v] ∧ LmV h' u (x / y) ∧ LmV h' v (x % y) ∧ Fm No h h' := by
  refine num_divMag_ok.snd hm rfl fun w => ?_
  rw [WF_eq, num_divMag]
  have hy1 := dg_1 hy0 hy
  have hyl : (dg y).length = 1 := by rw [hy1]; rfl
  simp +contextual (disch := omega) only [↓AM, ↓AV, AP, CQ, i64]
  refine (c_cmp la lb (by omega) (by omega)).use ?_
  rintro _ hA w1 ⟨⟨q, rfl, q1, q2, q3, q4⟩, rfl⟩
  by_cases hlt : x < y
  · have hq : q < 0 := q1.2 hlt
    simp +contextual (disch := omega) only [↓AM, ↓AV, AP, CQ, i64, hq]
    refine (c_clone la (by omega)).use ?_
    rintro _ h2 w2 ⟨l, fm⟩
    simp +contextual (disch := omega) only [↓AM, ↓AV, AP, CQ, i64]
    rw [Nat.div_eq_of_lt hlt, Nat.mod_eq_of_lt hlt]
    exact ⟨_, _, rfl, lmv0, l, fm⟩
  have hq : ¬ q < 0 := fun h => hlt (q1.1 h)
  obtain ⟨b2, o2, s2, y', rfl, f2, hy', r2⟩ := lb.rd.nat (i := 0) (by omega)
  have : y' = y := by rw [hy1] at hy'; simpa using hy'.symm
  subst this
  have e1 : EqI ((1 : Nat) : Int) 1 = True := eqI_self
  rw [hyl]
  have hval : vL B32 (dg x) = x := dg_val x
  generalize hX : dg x = X at *
  simp +contextual (disch := omega) only [↓AM, ↓AV, AP, CQ, i64, hq, e1, rep_u3]
  refine ⟨by omega, ?_⟩
  refine WL.mk (fun k t h' => ∃ O : List Nat, h' = hA.new ⟨u3 O, .own⟩ ∧ O.length = X.length ∧ Dl B32 O ∧ k ≤ X.length ∧ ∃ r : Nat, r < y' ∧ vL B32 (X.drop k) = vL B32 (O.drop k) * y' + r ∧
      t = [(0, some (.slice a X.length c)), (1, some (.slice (some ⟨b2, o2, s2⟩) 1 d)), (4, some (.slice (some ⟨hA.size, 0, none⟩) X.length X.length)), (6, some (.int .u64 (r : Int))), (7, some (.int .i64 ((k : Int) - 1)))])
    ⟨X.length, _, rfl, by simp, Dl.zeros _, Nat.le_refl _, 0, hy0, by rw [List.drop_eq_nil_of_le (Nat.le_refl _), List.drop_eq_nil_of_le (by simp)]; simp [vL], rfl⟩ ?_
  rintro k t _ ⟨O, rfl, hOl, hOd, hk, r, hr, hv, rfl⟩
  cases k with
  | zero =>
    have e2 : ((0 : Int) ≤ ((0 : Nat) : Int) - 1) = False := by simp
    simp +contextual (disch := omega) only [↓AM, ↓AV, AP, CQ, i64, e2]
    have hv : x = vL B32 O * y' + r := by rw [← hval]; exact hv
    have v1 : vL B32 O = x / y' := by rw [hv, Nat.mul_comm, Nat.mul_add_div hy0, Nat.div_eq_of_lt hr]; rfl
    have v2 : r = x % y' := by rw [hv, Nat.mul_comm, Nat.mul_add_mod, Nat.mod_eq_of_lt hr]
    have lm := lm_new (h := hA) hOd
    rw [hOl] at lm
    refine (c_trim lm (by omega)).use ?_
    rintro _ hB w2 ⟨l, rfl⟩
    rw [v1] at l
    simp +contextual (disch := omega) only [↓AM, ↓AV, AP, CQ, i64]
    refine (c_magOf (v := r) (by omega)).use ?_
    rintro _ h3 w3 ⟨l3, fm3⟩
    rw [v2] at l3
    simp +contextual (disch := omega) only [↓AM, ↓AV, AP, CQ, i64]
    exact ⟨_, _, rfl, l.keep w2 fm3, l3, (Fm.new Fm.refl).trans fm3 fun _ _ f => f⟩
  | succ k =>
    have fmO : Fm No hA (hA.new ⟨u3 O, .own⟩) := Fm.new Fm.refl
    obtain ⟨b1, o1, s1, p, rfl, f1, hp, r1⟩ := (la.rd.keepW w1 fmO nNo).nat (i := k) (by omega)
    have hpl : p < 4294967296 := la.dl.at hp
    obtain ⟨d1, d2⟩ := div_step hr hpl hy
    have r2n : ∀ o, (hA.new o).rd b2 o2 = some (.int .u32 (y' : Int)) := fun o => by
      obtain ⟨b2', o2', s2', z, e, f2', hz, rz⟩ := (lb.rd.keepW w1 (Fm.new (o := o) (Fm.refl (F := No))) nNo).nat (i := 0) (by omega)
      cases e
      rw [hy1] at hz
      cases hz
      exact rz
    have hk1 : k < X.length := by omega
    have hkO : k < O.length := by omega
    have rlt : r < 4294967296 := by omega
    have eor := or_32 rlt hpl
    have y0 : EqI (y' : Int) 0 = False := eq_false (by unfold EqI; omega)
    have y1 : ((y' : Int) = 0) = False := eq_false (by omega)
    have eq1 : IntKind.u64.wrap (((r * 4294967296 + p) / y' : Nat) : Int) = (((r * 4294967296 + p) / y' : Nat) : Int) := by
      generalize (r * 4294967296 + p) / y' = Q at *
      exact u64 (by omega)
    have p01 : ((0 : Int) < ((1 : Nat) : Int)) = True := by simp
    have ul : leIs (k + 1) (u3 O) = true := by rw [← leIs_p, u3_len]; omega
    have us : spl (u3 O) k [.int .u32 (((r * 4294967296 + p) / y' % 4294967296 : Nat) : Int)] = u3 (O.set k ((r * 4294967296 + p) / y' % 4294967296)) := spl_u3 hkO
    simp +contextual (disch := omega) only [↓AM, ↓AV, AP, CQ, CN, i64, u64, f1, f2, r1, r2n, hk1, eor, ntdiv, ntmod, y0, y1, ul, us, eq1, p01]
    refine ⟨k, by omega, _, rfl, by simp [hOl], hOd.set (Nat.mod_lt _ (by decide)), by omega, (r * 4294967296 + p) % y', Nat.mod_lt _ hy0, ?_, rfl⟩
    have e1 : vL B32 (X.drop k) = p + B32 * vL B32 (X.drop (k + 1)) := by
      rw [List.drop_eq_getElem_cons hk1]
      rw [List.getElem?_eq_getElem hk1] at hp
      rw [Option.some.inj hp]; rfl
    have e2 : vL B32 ((O.set k ((r * 4294967296 + p) / y' % 4294967296)).drop k) = (r * 4294967296 + p) / y' + B32 * vL B32 (O.drop (k + 1)) := by
      rw [List.drop_eq_getElem_cons (by simpa using hkO), List.getElem_set_self, Nat.mod_eq_of_lt d1]
      show _ + B32 * vL B32 ((O.set k _).drop (k + 1)) = _
      rw [List.drop_set_of_lt (by omega)]
    rw [e1, e2, hv, Nat.mul_add, Nat.add_mul]
    have e3 := Nat.mod_add_div (r * 4294967296 + p) y'
    rw [Nat.mul_comm y'] at e3
    have e4 : B32 * (vL B32 (O.drop (k + 1)) * y') = B32 * vL B32 (O.drop (k + 1)) * y' := (Nat.mul_assoc _ _ _).symm
    rw [e4]
    show p + (_ + 4294967296 * r) = _
    omega
end Go.Proofs.Ytikbdeobghoglaa.Nu

/- Whole numbers in memory. Plain theorems over the abstract machine.
   Conditions: none. -/
namespace Go.Proofs.Ytikbdeobghoglaa.Nu
open Go Go.RowKit Go.Proofs.Ytikbdeobghoglaa.Am Go.Proofs.Ytikbdeobghoglaa.Af Go.Proofs.Ytikbdeobghoglaa.Md
set_option linter.unusedVariables false
set_option linter.unusedSimpArgs false
set_option linter.defProp false
set_option maxRecDepth 20000
set_option maxHeartbeats 1000000

/-- Cells without whole numbers. -/
def St (cs : List Value) : Prop := ∀ (i : Nat) (k : IntKind) (a : Int), cs[i]? ≠ some (Value.int k a)
structure Wr (F : Nat → Prop) (h h' : Hp) : Prop where
  fm : Fm F h h'
  ln : ∀ b cs, F b → h.get b = some ⟨cs, .own⟩ → ∃ cs', h'.get b = some ⟨cs', .own⟩ ∧ cs'.length = cs.length ∧ (St cs → St cs')
def SF (h : Hp) (F : Nat → Prop) : Prop := ∀ b, F b → b < h.size → ∃ cs, h.get b = some ⟨cs, .own⟩ ∧ St cs
theorem Wr.of {F : Nat → Prop} {h h' : Hp} (w : Wf h) (fm : Fm No h h') : Wr F h h' :=
  ⟨fm.mono fun x _ f => f.elim, fun b cs _ hg => ⟨cs, fm.keep w hg (fun f => f), rfl, id⟩⟩
theorem Wr.trans {F G : Nat → Prop} {h h1 h2 : Hp} (w : Wf h) (w1 : Wf h1) (a : Wr F h h1) (b : Wr G h1 h2) (hg : ∀ x, x < h.size → G x → F x) : Wr F h h2 := by
  refine ⟨a.fm.trans b.fm hg, fun x cs hf hx => ?_⟩
  obtain ⟨cs1, h1, h2, h3⟩ := a.ln x cs hf hx
  rcases Classical.em (G x) with g | g
  · obtain ⟨cs2, h4, h5, h6⟩ := b.ln x cs1 g h1
    exact ⟨cs2, h4, by omega, fun s => h6 (h3 s)⟩
  · exact ⟨cs1, b.fm.keep w1 h1 g, h2, h3⟩
theorem SF.wr {F G : Nat → Prop} {h h' : Hp} (s : SF h F) (w : Wf h) (r : Wr G h h') (hlt : ∀ x, F x → x < h.size) : SF h' F := fun b hb _ => by
  obtain ⟨cs, h1, h2⟩ := s b hb (hlt b hb)
  rcases Classical.em (G b) with g | g
  · obtain ⟨cs', h3, _, h4⟩ := r.ln b cs g h1
    exact ⟨cs', h3, h4 h2⟩
  · exact ⟨cs, r.fm.keep w h1 g, h2⟩
theorem Lm.wr {F : Nat → Prop} {h h' : Hp} {oa : Option Addr} {n c : Nat} {M : List Nat} (l : Lm h oa n c M) (w : Wf h) (r : Wr F h h') (s : SF h F) : Lm h' oa n c M := by
  refine ⟨⟨l.rd.len, l.rd.nil, fun a ha => ?_⟩, l.le, l.dl⟩
  rcases l.rd.at_ a ha with ⟨h1, h2⟩ | h3
  · refine .inl ⟨h1, ?_⟩
    rcases Classical.em (F a.block) with f | f
    · obtain ⟨cs, hg, hs⟩ := s _ f (rdN_wf w h2)
      obtain ⟨ob, g1, g2, g3⟩ := rdN_of h2
      rw [hg] at g1
      cases g1
      obtain ⟨cs', hg', hl, _⟩ := r.ln _ cs f hg
      have hM : M = [] := by
        cases M with
        | nil => rfl
        | cons d M =>
          exfalso
          have hn : (d :: M).length = n := l.len
          have g2 : a.off + n * 1 ≤ cs.length := g2
          have hlen : 0 < n := by rw [← hn]; simp
          have := congrArg (·[0]?) g3
          have e : (u3 (d :: M))[0]? = some (.int .u32 (d : Int)) := rfl
          simp only [e, List.getElem?_take, List.getElem?_drop, Nat.mul_one, hlen, if_true, Nat.add_zero] at this
          exact hs _ _ _ this.symm
      have hn : n = 0 := by have := l.len; rw [hM] at this; simpa using this.symm
      subst hM hn
      have g2 : a.off + 0 * 1 ≤ cs.length := g2
      rw [rdN_mk hg' (by show a.off + 0 * 1 ≤ cs'.length; omega)]
      simp [u3]
    · rw [rdN_keep (r.fm.get _ (rdN_wf w h2) f)]; exact h2
  · exact .inr h3
/-- A place for a whole number. -/
def XAt (h : Hp) (b o : Nat) : Prop := ∃ cs, h.get b = some ⟨cs, .own⟩ ∧ St cs ∧ o + 1 < cs.length
/-- A natural number at a place. -/
def NatAt (h : Hp) (b o x : Nat) : Prop := ∃ cs oa c, h.get b = some ⟨cs, .own⟩ ∧ St cs ∧ cs[o]? = some (.bool false) ∧ cs[o + 1]? = some (.slice oa (dg x).length c) ∧ Lm h oa (dg x).length c (dg x)
theorem NatAt.x {h : Hp} {b o x : Nat} (n : NatAt h b o x) : XAt h b o := by
  obtain ⟨cs, oa, c, h1, h2, h3, h4, h5⟩ := n
  exact ⟨cs, h1, h2, (List.getElem?_eq_some_iff.1 h4).1⟩
theorem XAt.lt {h : Hp} {b o : Nat} (w : Wf h) (x : XAt h b o) : b < h.size := by obtain ⟨cs, h1, _⟩ := x; exact w.lt h1
theorem XAt.sf {h : Hp} {b o : Nat} (x : XAt h b o) : SF h (fun y => y = b) := by
  rintro y rfl _
  obtain ⟨cs, h1, h2, _⟩ := x
  exact ⟨cs, h1, h2⟩
theorem XAt.wr {F : Nat → Prop} {h h' : Hp} {b o : Nat} (w : Wf h) (x : XAt h b o) (r : Wr F h h') : XAt h' b o := by
  obtain ⟨cs, h1, h2, h3⟩ := x
  rcases Classical.em (F b) with f | f
  · obtain ⟨cs', g1, g2, g3⟩ := r.ln b cs f h1
    exact ⟨cs', g1, g3 h2, by omega⟩
  · exact ⟨cs, r.fm.keep w h1 f, h2, h3⟩
theorem NatAt.wr {F : Nat → Prop} {h h' : Hp} {b o x : Nat} (n : NatAt h b o x) (w : Wf h) (r : Wr F h h') (s : SF h F) (hb : ¬ F b) : NatAt h' b o x := by
  obtain ⟨cs, oa, c, h1, h2, h3, h4, h5⟩ := n
  exact ⟨cs, oa, c, r.fm.keep w h1 hb, h2, h3, h4, h5.wr w r s⟩
theorem NatAt.keep {h h' : Hp} {b o x : Nat} (n : NatAt h b o x) (w : Wf h) (fm : Fm No h h') : NatAt h' b o x :=
  n.wr w (Wr.of (F := No) w fm) (fun _ f => f.elim) (fun f => f)
theorem XAt.keep {h h' : Hp} {b o : Nat} (x : XAt h b o) (w : Wf h) (fm : Fm No h h') : XAt h' b o := x.wr w (Wr.of (F := No) w fm)
theorem LmV.wr {F : Nat → Prop} {h h' : Hp} {v : Value} {x : Nat} (l : LmV h v x) (w : Wf h) (r : Wr F h h') (s : SF h F) : LmV h' v x := by
  obtain ⟨oa, c, e, l⟩ := l
  exact ⟨oa, c, e, l.wr w r s⟩
theorem st_set {cs : List Value} {o : Nat} {v : Value} (s : St cs) (hv : ∀ k a, v ≠ .int k a) : St (cs.set o v) := by
  intro i k a
  rw [List.getElem?_set]
  split
  · split
    · intro h; cases h; exact hv k a rfl
    · simp
  · exact s i k a
theorem st2 {b : Bool} {oa : Option Addr} {n c : Nat} : St [.bool b, .slice oa n c] := by
  intro i k a
  rcases i with _ | _ | i <;> simp
theorem st4 {b b' : Bool} {oa oa' : Option Addr} {n c n' c' : Nat} : St [.bool b, .slice oa n c, .bool b', .slice oa' n' c'] := by
  intro i k a
  rcases i with _ | _ | _ | _ | i <;> simp
theorem c_set {h : Hp} {b o x : Nat} {v : Value} (xa : XAt h b o) (l : LmV h v x) :
    ACalls Try.prog 106 [.pointer (some ⟨b, o, none⟩), .bool false, v] h fun r h' => r = .pointer (some ⟨b, o, none⟩) ∧ Wr (fun y => y = b) h h' ∧ NatAt h' b o x ∧ (∀ i, i ≠ o → i ≠ o + 1 → h'.rd b i = h.rd b i) := by
  refine num_Int__set_ok.snd hm rfl fun w => ?_
  rw [WF_eq, num_Int__set]
  have hs := xa.sf
  obtain ⟨cs, hg, hst, hlen⟩ := xa
  obtain ⟨oa, c, rfl, l⟩ := l
  have l1 : leIs (o + 1) cs = true := by rw [← leIs_p]; omega
  have l2 : leIs (o + 1 + 1) (cs.set o (.bool false)) = true := by rw [← leIs_p, List.length_set]; omega
  have s1 : spl cs o [.bool false] = cs.set o (.bool false) := spl_one _ _ _ (by omega)
  have s2 : ∀ u, spl (cs.set o (.bool false)) (o + 1) [u] = (cs.set o (.bool false)).set (o + 1) u := fun u => spl_one _ _ _ (by rw [List.length_set]; omega)
  simp +contextual (disch := omega) only [↓AM, ↓AV, AP, CQ, hg, l1, l2, s1, s2, put_put]
  have wr : Wr (fun y => y = b) h (h.put b ⟨(cs.set o (.bool false)).set (o + 1) (.slice oa (dg x).length c), .own⟩) := by
    refine ⟨Fm.put Fm.refl fun _ => rfl, ?_⟩
    rintro _ cs' rfl hg'
    rw [hg] at hg'
    cases hg'
    exact ⟨_, gput, by simp, fun s => st_set (st_set s (by simp)) (by simp)⟩
  refine ⟨wr, ⟨_, oa, c, gput, st_set (st_set hst (by simp)) (by simp), ?_, ?_, l.wr w wr hs⟩, ?_⟩
  · rw [List.getElem?_set_ne (by omega), List.getElem?_set_self (by omega)]
  · rw [List.getElem?_set_self (by simp; omega)]
  · intro i h1 h2
    rw [rd_mk hg, List.getElem?_set_ne (by omega), List.getElem?_set_ne (by omega)]
theorem c_setI {h : Hp} {b o v : Nat} (xa : XAt h b o) (hv : (v : Int) ≤ 9223372036854775807) :
    ACalls Try.prog 108 [.pointer (some ⟨b, o, none⟩), .int .i64 (v : Int)] h fun r h' => r = .pointer (some ⟨b, o, none⟩) ∧ Wr (fun y => y = b) h h' ∧ NatAt h' b o v := by
  refine num_Int__SetInt64_ok.snd hm rfl fun w => ?_
  rw [WF_eq, num_Int__SetInt64]
  have e0 : ((v : Int) < 0) = False := by simp
  simp +contextual (disch := omega) only [↓AM, ↓AV, AP, CQ, u64, e0]
  refine (c_magOf (v := v) (by omega)).use ?_
  rintro _ h1 w1 ⟨l, fm⟩
  simp +contextual (disch := omega) only [↓AM, ↓AV, AP, CQ]
  refine (c_set (xa.keep w fm) l).use ?_
  rintro _ h2 w2 ⟨rfl, wr, n, -⟩
  simp +contextual (disch := omega) only [↓AM, ↓AV, AP, CQ]
  exact ⟨(Wr.of (F := fun y => y = b) w fm).trans w w1 wr fun _ _ f => f, n⟩
theorem wr_new {h h' : Hp} {o : Ob} (w : Wf h) (wr : Wr (fun y => y = h.size) (h.new o) h') : Fm No h h' :=
  (Fm.new Fm.refl).trans wr.fm fun x hx f => by subst f; omega
theorem x_new {h : Hp} {o : Nat} (ho : o + 1 < 2) : XAt (h.new ⟨[.bool false, .slice none 0 0], .own⟩) h.size o := ⟨_, gnew, st2, ho⟩
theorem c_newI {h : Hp} {v : Nat} (hv : (v : Int) ≤ 9223372036854775807) :
    ACalls Try.prog 68 [.int .i64 (v : Int)] h fun r h' => ∃ b, r = .pointer (some ⟨b, 0, none⟩) ∧ h.size ≤ b ∧ NatAt h' b 0 v ∧ Fm No h h' := by
  refine num_NewInt_ok.snd hm rfl fun w => ?_
  rw [WF_eq, num_NewInt]
  simp +contextual (disch := omega) only [↓AM, ↓AV, AP, CQ]
  refine (c_setI (x_new (by decide)) hv).use ?_
  rintro _ h2 w2 ⟨rfl, wr, n⟩
  simp +contextual (disch := omega) only [↓AM, ↓AV, AP, CQ]
  exact ⟨_, rfl, Nat.le_refl _, n, wr_new w wr⟩
theorem c_MulI {h : Hp} {bx ox ba oa bb ob x y : Nat} (xa : XAt h bx ox) (na : NatAt h ba oa x) (nb : NatAt h bb ob y) (hx : (dg x).length ≤ 400000) (hy : (dg y).length ≤ 400000) :
    ACalls Try.prog 67 [.pointer (some ⟨bx, ox, none⟩), .pointer (some ⟨ba, oa, none⟩), .pointer (some ⟨bb, ob, none⟩)] h fun r h' => r = .pointer (some ⟨bx, ox, none⟩) ∧ Wr (fun y => y = bx) h h' ∧ NatAt h' bx ox (x * y) := by
  refine num_Int__Mul_ok.snd hm rfl fun w => ?_
  rw [WF_eq, num_Int__Mul]
  obtain ⟨ca, a, c, ga, sa, a0, a1, la⟩ := na
  obtain ⟨cb, b, d, gb, sb, b0, b1, lb⟩ := nb
  have r0 := (rd_mk ga (i := oa)).trans a0
  have r1 := (rd_mk ga (i := oa + 1)).trans a1
  have q0 := (rd_mk gb (i := ob)).trans b0
  have q1 := (rd_mk gb (i := ob + 1)).trans b1
  simp +contextual (disch := omega) only [↓AM, ↓AV, AP, CQ, r0, r1, q0, q1]
  refine (c_mul la lb hx hy).use ?_
  rintro _ h1 w1 ⟨l, fm⟩
  have r0 := (rd_mk (fm.keep w ga (fun f => f)) (i := oa)).trans a0
  have r1 := (rd_mk (fm.keep w ga (fun f => f)) (i := oa + 1)).trans a1
  have q0 := (rd_mk (fm.keep w gb (fun f => f)) (i := ob)).trans b0
  have q1 := (rd_mk (fm.keep w gb (fun f => f)) (i := ob + 1)).trans b1
  have bne : (false != false) = false := rfl
  simp +contextual (disch := omega) only [↓AM, ↓AV, AP, CQ, r0, r1, q0, q1, bne]
  refine (c_set (xa.keep w fm) l).use ?_
  rintro _ h2 w2 ⟨rfl, wr, n, -⟩
  simp +contextual (disch := omega) only [↓AM, ↓AV, AP, CQ]
  exact ⟨(Wr.of (F := fun y => y = bx) w fm).trans w w1 wr fun _ _ f => f, n⟩
theorem c_prod {h : Hp} {ba oa bb ob x y : Nat} (na : NatAt h ba oa x) (nb : NatAt h bb ob y) (hx : (dg x).length ≤ 400000) (hy : (dg y).length ≤ 400000) :
    ACalls Try.prog 171 [.pointer (some ⟨ba, oa, none⟩), .pointer (some ⟨bb, ob, none⟩)] h fun r h' => ∃ b, r = .pointer (some ⟨b, 0, none⟩) ∧ h.size ≤ b ∧ NatAt h' b 0 (x * y) ∧ Fm No h h' := by
  refine num_product_ok.snd hm rfl fun w => ?_
  rw [WF_eq, num_product]
  simp +contextual (disch := omega) only [↓AM, ↓AV, AP, CQ]
  have fm : Fm No h (h.new ⟨[.bool false, .slice none 0 0], .own⟩) := Fm.new Fm.refl
  refine (c_MulI (x_new (by decide)) (na.keep w fm) (nb.keep w fm) hx hy).use ?_
  rintro _ h2 w2 ⟨rfl, wr, n⟩
  simp +contextual (disch := omega) only [↓AM, ↓AV, AP, CQ]
  exact ⟨_, rfl, Nat.le_refl _, n, wr_new w wr⟩
theorem c_QuoRem {h : Hp} {bx ox ba oa bb ob br or' x y : Nat} (xa : XAt h bx ox) (ra : XAt h br or') (hne : bx ≠ br) (na : NatAt h ba oa x) (nb : NatAt h bb ob y) (hx : (dg x).length ≤ 400000) (hy0 : 0 < y) (hy : y < 4294967296) :
    ACalls Try.prog 69 [.pointer (some ⟨bx, ox, none⟩), .pointer (some ⟨ba, oa, none⟩), .pointer (some ⟨bb, ob, none⟩), .pointer (some ⟨br, or', none⟩)] h fun r h' =>
      r = .tuple #[.pointer (some ⟨bx, ox, none⟩), .pointer (some ⟨br, or', none⟩)] ∧ Wr (fun y => y = bx ∨ y = br) h h' ∧ NatAt h' bx ox (x / y) ∧ NatAt h' br or' (x % y) := by
  refine num_Int__QuoRem_ok.snd hm rfl fun w => ?_
  rw [WF_eq, num_Int__QuoRem]
  obtain ⟨ca, a, c, ga, sa, a0, a1, la⟩ := na
  obtain ⟨cb, b, d, gb, sb, b0, b1, lb⟩ := nb
  have r0 := (rd_mk ga (i := oa)).trans a0
  have r1 := (rd_mk ga (i := oa + 1)).trans a1
  have q0 := (rd_mk gb (i := ob)).trans b0
  have q1 := (rd_mk gb (i := ob + 1)).trans b1
  have bne : (false != false) = false := rfl
  simp +contextual (disch := omega) only [↓AM, ↓AV, AP, CQ, r0, r1, q0, q1, bne]
  refine (c_div la lb hx hy0 hy).use ?_
  rintro _ h1 w1 ⟨u, v, rfl, lu, lv, fm⟩
  have r1 := (rd_mk (fm.keep w ga (fun f => f)) (i := oa + 1)).trans a1
  have q1 := (rd_mk (fm.keep w gb (fun f => f)) (i := ob + 1)).trans b1
  simp +contextual (disch := omega) only [↓AM, ↓AV, AP, CQ, r1, q1]
  have ra1 := ra.keep w fm
  have xa1 := xa.keep w fm
  refine (c_set ra1 lv).use ?_
  rintro _ h2 w2 ⟨rfl, wr, n, -⟩
  simp +contextual (disch := omega) only [↓AM, ↓AV, AP, CQ]
  have xa2 := xa1.wr w1 wr
  refine (c_set xa2 (lu.wr w1 wr ra1.sf)).use ?_
  rintro _ h3 w3 ⟨rfl, wr3, n3, -⟩
  simp +contextual (disch := omega) only [↓AM, ↓AV, AP, CQ]
  refine ⟨((Wr.of (F := fun y => y = bx ∨ y = br) w fm).trans w w1 wr fun _ _ f => .inr f).trans w w2 wr3 fun _ _ f => .inl f, n3, n.wr w2 wr3 xa2.sf (fun e => hne e.symm)⟩
theorem c_low {h : Hp} {b o x : Nat} (n : NatAt h b o x) (hx : x < 18446744073709551616) :
    ACalls Try.prog 115 [.pointer (some ⟨b, o, none⟩)] h fun r h' => r = .int .u64 (x : Int) ∧ h' = h := by
  refine num_Int__low_ok.snd hm rfl fun w => ?_
  rw [WF_eq, num_Int__low]
  obtain ⟨ca, a, c, ga, sa, a0, a1, la⟩ := n
  have r1 := (rd_mk ga (i := o + 1)).trans a1
  have hlen : (dg x).length ≤ 2 := by
    rcases Nat.lt_or_ge 2 (dg x).length with h | h
    · exfalso
      have h1 := vL_ge b32 (dig_nz (hB := b32) x) (by intro e; rw [show dg x = [] from e] at h; simp at h)
      rw [show vL B32 (dig B32 b32 x) = x from dg_val x] at h1
      have h2 : B32 ^ 2 ≤ B32 ^ ((dig B32 b32 x).length - 1) := Nat.pow_le_pow_right (by decide) (by show 2 ≤ (dg x).length - 1; omega)
      have : B32 ^ 2 = 18446744073709551616 := by decide
      omega
    · exact h
  have emn : intMin [.int .i64 2, .int .i64 ((dg x).length : Int)] = some (.int .i64 ((dg x).length : Int)) := by
    have : (dg x).length = 0 ∨ (dg x).length = 1 ∨ (dg x).length = 2 := by omega
    rcases this with e | e | e <;> rw [e] <;> rfl
  simp +contextual (disch := omega) only [↓AM, ↓AV, AP, CQ, i64, r1, emn]
  refine WL.mk (fun k t h' => h' = h ∧ k ≤ (dg x).length ∧ t = [(0, some (.pointer (some ⟨b, o, none⟩))), (3, some (.int .u64 ((vL B32 ((dg x).drop k) : Nat) : Int))), (4, some (.int .i64 ((k : Int) - 1)))]) ⟨(dg x).length, rfl, Nat.le_refl _, by rw [List.drop_eq_nil_of_le (Nat.le_refl _)]; rfl⟩ ?_
  rintro k t hh ⟨rfl, hk, rfl⟩
  cases k with
  | zero =>
    have e2 : ((0 : Int) ≤ ((0 : Nat) : Int) - 1) = False := by simp
    simp +contextual (disch := omega) only [↓AM, ↓AV, AP, CQ, i64, e2, List.drop_zero]
    rw [dg_val]
  | succ k =>
    have hk1 : k < (dg x).length := by omega
    obtain ⟨b1, o1, s1, p, rfl, f1, hp, r2⟩ := la.rd.nat hk1
    have hpl : p < 4294967296 := la.dl.at hp
    have hvl : vL B32 ((dg x).drop (k + 1)) < 4294967296 := by
      have h1 := vL_lt (B := B32) (l := (dg x).drop (k + 1)) fun d hd => dg_dl x d (List.mem_of_mem_drop hd)
      rw [List.length_drop] at h1
      have h2 : B32 ^ ((dg x).length - (k + 1)) ≤ B32 ^ 1 := Nat.pow_le_pow_right (by decide) (by omega)
      have : B32 ^ 1 = 4294967296 := by decide
      omega
    have ed : vL B32 ((dg x).drop k) = vL B32 ((dg x).drop (k + 1)) * 4294967296 + p := by
      rw [List.drop_eq_getElem_cons hk1]
      rw [List.getElem?_eq_getElem hk1] at hp
      rw [Option.some.inj hp, vL]
      show p + 4294967296 * _ = _
      omega
    generalize vL B32 ((dg x).drop (k + 1)) = v at *
    have eor := or_32 hvl hpl
    simp +contextual (disch := omega) only [↓AM, ↓AV, AP, CQ, CN, i64, u64, f1, r1, r2, hk1, eor]
    exact ⟨k, by omega, by omega, by rw [ed]⟩
theorem c_Int64 {h : Hp} {b o x : Nat} (n : NatAt h b o x) (hx : x ≤ 9223372036854775807) :
    ACalls Try.prog 79 [.pointer (some ⟨b, o, none⟩)] h fun r h' => r = .int .i64 (x : Int) ∧ h' = h := by
  refine num_Int__Int64_ok.snd hm rfl fun w => ?_
  rw [WF_eq, num_Int__Int64]
  have n0 := n
  obtain ⟨ca, a, c, ga, sa, a0, a1, la⟩ := n
  have r0 := (rd_mk ga (i := o)).trans a0
  simp +contextual (disch := omega) only [↓AM, ↓AV, AP, CQ, r0]
  refine (c_low n0 (by omega)).use ?_
  rintro _ _ w2 ⟨rfl, rfl⟩
  simp +contextual (disch := omega) only [↓AM, ↓AV, AP, CQ, i64]
end Go.Proofs.Ytikbdeobghoglaa.Nu

/- Fractions in memory. Plain theorems over the abstract machine.
   Conditions: none. -/
namespace Go.Proofs.Ytikbdeobghoglaa.Nu
open Go Go.RowKit Go.Proofs.Ytikbdeobghoglaa.Am Go.Proofs.Ytikbdeobghoglaa.Af Go.Proofs.Ytikbdeobghoglaa.Md
set_option linter.unusedVariables false
set_option linter.unusedSimpArgs false
set_option linter.defProp false
set_option maxRecDepth 20000
set_option maxHeartbeats 1000000

theorem dg_len {x k : Nat} (h : x < B32 ^ k) : (dg x).length ≤ k := by
  rcases Nat.lt_or_ge k (dg x).length with hk | hk
  · exfalso
    have h1 := vL_ge b32 (dig_nz (hB := b32) x) (by intro e; rw [show dg x = [] from e] at hk; simp at hk)
    rw [show vL B32 (dig B32 b32 x) = x from dg_val x] at h1
    have h2 : B32 ^ k ≤ B32 ^ ((dig B32 b32 x).length - 1) := Nat.pow_le_pow_right (by decide) (by show k ≤ (dg x).length - 1; omega)
    omega
  · exact hk
theorem dg_len4 {x : Nat} (h : x < B32 ^ 4) : (dg x).length ≤ 400000 := Nat.le_trans (dg_len h) (by decide)
theorem dg_pos {x : Nat} : 0 < (dg x).length ↔ 0 < x := by
  constructor
  · intro h
    rcases Nat.eq_zero_or_pos x with rfl | h0
    · rw [dg_0] at h; simp at h
    · exact h0
  · intro h
    rcases Nat.eq_zero_or_pos (dg x).length with h0 | h0
    · have : dig B32 b32 x = [] := List.length_eq_zero_iff.1 h0
      rw [dig_nil] at this
      omega
    · exact h0
/-- A fraction at a place. -/
def RatAt (h : Hp) (b p q : Nat) : Prop := NatAt h b 0 p ∧ NatAt h b 2 q
theorem XAt.le {h : Hp} {b o o' : Nat} (x : XAt h b o) (ho : o' ≤ o) : XAt h b o' := by
  obtain ⟨cs, h1, h2, h3⟩ := x
  exact ⟨cs, h1, h2, by omega⟩
theorem NatAt.same {h h' : Hp} {b o x : Nat} (n : NatAt h b o x) (w : Wf h) (wr : Wr (fun y => y = b) h h') (e0 : h'.rd b o = h.rd b o) (e1 : h'.rd b (o + 1) = h.rd b (o + 1)) : NatAt h' b o x := by
  have sf := n.x.sf
  obtain ⟨cs, oa, c, h1, h2, h3, h4, h5⟩ := n
  obtain ⟨cs', g1, g2, g3⟩ := wr.ln b cs rfl h1
  rw [rd_mk g1, rd_mk h1] at e0 e1
  exact ⟨cs', oa, c, g1, g3 h2, e0.trans h3, e1.trans h4, h5.wr w wr sf⟩
theorem c_SetFrac {h : Hp} {bx ba oa bb ob p q : Nat} (xa : XAt h bx 2) (na : NatAt h ba oa p) (nb : NatAt h bb ob q) (hp : p < B32 ^ 4) (hq0 : 0 < q) (hq : q < 4294967296) :
    ACalls Try.prog 76 [.pointer (some ⟨bx, 0, none⟩), .pointer (some ⟨ba, oa, none⟩), .pointer (some ⟨bb, ob, none⟩)] h fun r h' => r = .pointer (some ⟨bx, 0, none⟩) ∧ Wr (fun y => y = bx) h h' ∧ RatAt h' bx (p / Nat.gcd p q) (q / Nat.gcd p q) := by
  refine num_Rat__SetFrac_ok.snd hm rfl fun w => ?_
  rw [WF_eq, num_Rat__SetFrac]
  obtain ⟨ca, a, c, ga, sa, a0, a1, la⟩ := na
  obtain ⟨cb, b, d, gb, sb, b0, b1, lb⟩ := nb
  have r0 := (rd_mk ga (i := oa)).trans a0
  have r1 := (rd_mk ga (i := oa + 1)).trans a1
  have q0 := (rd_mk gb (i := ob)).trans b0
  have q1 := (rd_mk gb (i := ob + 1)).trans b1
  have hpl := dg_len4 hp
  have hqB : q < B32 ^ 4 := Nat.lt_trans hq (by decide)
  have hql := dg_len4 hqB
  have hg0 : 0 < Nat.gcd p q := Nat.gcd_pos_of_pos_right _ hq0
  have hg : Nat.gcd p q < 4294967296 := Nat.lt_of_le_of_lt (Nat.gcd_le_right _ hq0) hq
  have bne : (false != false) = false := rfl
  simp +contextual (disch := omega) only [↓AM, ↓AV, AP, CQ, r0, r1, q0, q1, bne]
  refine (c_clone la (by omega)).use ?_
  rintro _ h1 w1 ⟨l, fm⟩
  have r1 := (rd_mk (fm.keep w ga (fun f => f)) (i := oa + 1)).trans a1
  have q1 := (rd_mk (fm.keep w gb (fun f => f)) (i := ob + 1)).trans b1
  simp +contextual (disch := omega) only [↓AM, ↓AV, AP, CQ, r1, q1]
  refine WL.mk (fun k t h' => Wf h' ∧ Fm No h h' ∧ ∃ x u v, k < 4294967296 ∧ x < B32 ^ 4 ∧ Nat.gcd x k = Nat.gcd p q ∧ LmV h' u x ∧ LmV h' v k ∧
      t = [(0, some (.pointer (some ⟨bx, 0, none⟩))), (1, some (.pointer (some ⟨ba, oa, none⟩))), (2, some (.pointer (some ⟨bb, ob, none⟩))), (7, some u), (8, some v)])
    ⟨q, w1, fm, p, _, _, hq, hp, rfl, l, ⟨b, d, rfl, lb.rd.keepW w fm nNo, lb.le, lb.dl⟩, rfl⟩ ?_
  rintro k t h2 ⟨w2, fm2, x, u, v, hk, hx, hgc, ⟨au, cu, rfl, lu⟩, ⟨av, cv, rfl, lv⟩, rfl⟩
  rcases Nat.eq_zero_or_pos k with rfl | hk0
  · have e0 : ((0 : Int) < ((dg 0).length : Int)) = False := by rw [dg_0]; simp
    simp +contextual (disch := omega) only [↓AM, ↓AV, AP, CQ, e0]
    rw [Nat.gcd_zero_right] at hgc
    have r1 := (rd_mk (fm2.keep w ga (fun f => f)) (i := oa + 1)).trans a1
    have la2 := la.rd.keepW w fm2 nNo
    have lb2 := lb.rd.keepW w fm2 nNo
    simp +contextual (disch := omega) only [↓AM, ↓AV, AP, CQ, r1]
    rw [hgc] at lu ⊢
    refine (c_div ⟨la2, la.le, la.dl⟩ lu hpl hg0 hg).use ?_
    rintro _ h3 w3 ⟨up, _, rfl, lup, -, fm3⟩
    have fm3h := fm2.trans fm3 fun _ _ f => f
    have q1 := (rd_mk (fm3h.keep w gb (fun f => f)) (i := ob + 1)).trans b1
    simp +contextual (disch := omega) only [↓AM, ↓AV, AP, CQ, q1]
    refine (c_div ⟨lb2.keepW w2 fm3 nNo, lb.le, lb.dl⟩ ⟨lu.rd.keepW w2 fm3 nNo, lu.le, lu.dl⟩ hql hg0 hg).use ?_
    rintro _ h4 w4 ⟨dn, _, rfl, ldn, -, fm4⟩
    have fm4h := fm3h.trans fm4 fun _ _ f => f
    have r0 := (rd_mk (fm4h.keep w ga (fun f => f)) (i := oa)).trans a0
    have q0 := (rd_mk (fm4h.keep w gb (fun f => f)) (i := ob)).trans b0
    simp +contextual (disch := omega) only [↓AM, ↓AV, AP, CQ, r0, q0, bne]
    have xa4 := xa.keep w fm4h
    refine (c_set (xa4.le (o' := 0) (by omega)) (lup.keep w3 fm4)).use ?_
    rintro _ h5 w5 ⟨rfl, wr5, n5, -⟩
    simp +contextual (disch := omega) only [↓AM, ↓AV, AP, CQ]
    have xa5 := xa4.wr w4 wr5
    refine (c_set xa5 (ldn.wr w4 wr5 xa4.sf)).use ?_
    rintro _ h6 w6 ⟨rfl, wr6, n6, sm⟩
    simp +contextual (disch := omega) only [↓AM, ↓AV, AP, CQ]
    refine ⟨((Wr.of (F := fun y => y = bx) w fm4h).trans w w4 wr5 fun _ _ f => f).trans w w5 wr6 fun _ _ f => f, n5.same w5 wr6 (sm 0 (by omega) (by omega)) (sm 1 (by omega) (by omega)), n6⟩
  · have e0 : ((0 : Int) < ((dg k).length : Int)) = True := eq_true (by have := dg_pos.2 hk0; omega)
    simp +contextual (disch := omega) only [↓AM, ↓AV, AP, CQ, e0]
    refine (c_div lu lv (dg_len4 hx) hk0 hk).use ?_
    rintro _ h3 w3 ⟨qu, rm, rfl, -, lrm, fm3⟩
    simp +contextual (disch := omega) only [↓AM, ↓AV, AP, CQ]
    refine ⟨x % k, Nat.mod_lt _ hk0, w3, fm2.trans fm3 fun _ _ f => f, k, _, _, Nat.lt_trans (Nat.mod_lt _ hk0) hk, Nat.lt_trans hk (by decide), ?_, ⟨av, cv, rfl, lv.rd.keepW w2 fm3 nNo, lv.le, lv.dl⟩, lrm, rfl⟩
    rw [← hgc, Nat.gcd_comm x k, Nat.gcd_rec k x, Nat.gcd_comm]
theorem x_new4 {h : Hp} : XAt (h.new ⟨[.bool false, .slice none 0 0, .bool false, .slice none 0 0], .own⟩) h.size 2 := ⟨_, gnew, st4, by decide⟩
theorem c_NewRat {h : Hp} {p q : Nat} (hp : (p : Int) ≤ 9223372036854775807) (hq0 : 0 < q) (hq : q < 4294967296) :
    ACalls Try.prog 164 [.int .i64 (p : Int), .int .i64 (q : Int)] h fun r h' => ∃ b, r = .pointer (some ⟨b, 0, none⟩) ∧ h.size ≤ b ∧ RatAt h' b (p / Nat.gcd p q) (q / Nat.gcd p q) ∧ Fm No h h' := by
  refine num_NewRat_ok.snd hm rfl fun w => ?_
  rw [WF_eq, num_NewRat]
  simp +contextual (disch := omega) only [↓AM, ↓AV, AP, CQ]
  refine (c_newI hp).use ?_
  rintro _ h1 w1 ⟨b1, rfl, hb1, n1, fm1⟩
  simp +contextual (disch := omega) only [↓AM, ↓AV, AP, CQ]
  refine (c_newI (v := q) (by omega)).use ?_
  rintro _ h2 w2 ⟨b2, rfl, hb2, n2, fm2⟩
  simp +contextual (disch := omega) only [↓AM, ↓AV, AP, CQ]
  have fm12 := fm1.trans fm2 fun _ _ f => f
  refine (c_SetFrac (x_new4.keep w.new fm12) (n1.keep w1 fm2) n2 (Nat.lt_trans (show p < 18446744073709551616 by omega) (by decide)) hq0 hq).use ?_
  rintro _ h3 w3 ⟨rfl, wr, rt⟩
  simp +contextual (disch := omega) only [↓AM, ↓AV, AP, CQ]
  exact ⟨_, rfl, Nat.le_refl _, rt, ((Fm.new Fm.refl).trans fm12 fun _ _ f => f).trans wr.fm fun x hx f => by subst f; omega⟩
theorem c_down {h : Hp} {b p q : Nat} (r : RatAt h b p q) (hq : 0 < q) :
    ACalls Try.prog 116 [.pointer (some ⟨b, 0, none⟩)] h fun r h' => r = .pointer (some ⟨b, 2, none⟩) ∧ h' = h := by
  refine num_Rat__down_ok.snd hm rfl fun w => ?_
  rw [WF_eq, num_Rat__down]
  obtain ⟨cb, a, d, gb, sb, b0, b1, lb⟩ := r.2
  have q1 := (rd_mk gb (i := 3)).trans b1
  have e0 : EqI ((dg q).length : Int) 0 = False := eq_false (by have := dg_pos.2 hq; unfold EqI; omega)
  simp +contextual (disch := omega) only [↓AM, ↓AV, AP, CQ, q1, e0]
theorem c_Num {h : Hp} {b : Nat} : ACalls Try.prog 77 [.pointer (some ⟨b, 0, none⟩)] h fun r h' => r = .pointer (some ⟨b, 0, none⟩) ∧ h' = h := by
  refine num_Rat__Num_ok.snd hm rfl fun w => ?_
  rw [WF_eq, num_Rat__Num]
  simp +contextual (disch := omega) only [↓AM, ↓AV, AP, CQ]
theorem c_Denom {h : Hp} {b p q : Nat} (r : RatAt h b p q) (hq : 0 < q) :
    ACalls Try.prog 80 [.pointer (some ⟨b, 0, none⟩)] h fun r h' => r = .pointer (some ⟨b, 2, none⟩) ∧ h' = h := by
  refine num_Rat__Denom_ok.snd hm rfl fun w => ?_
  rw [WF_eq, num_Rat__Denom]
  simp +contextual (disch := omega) only [↓AM, ↓AV, AP, CQ]
  refine (c_down r hq).use ?_
  rintro _ _ w1 ⟨rfl, rfl⟩
  simp +contextual (disch := omega) only [↓AM, ↓AV, AP, CQ]
end Go.Proofs.Ytikbdeobghoglaa.Nu

/- Nothing of its own: the functions stand in one text. -/

/- Whole numbers with signs in memory. Plain theorems over the abstract machine.
   Conditions: none. -/
namespace Go.Proofs.Ytikbdeobghoglaa.Nu
open Go Go.RowKit Go.Proofs.Ytikbdeobghoglaa.Am Go.Proofs.Ytikbdeobghoglaa.Af Go.Proofs.Ytikbdeobghoglaa.Md
set_option linter.unusedVariables false
set_option linter.unusedSimpArgs false
set_option linter.defProp false
set_option maxRecDepth 20000
set_option maxHeartbeats 1000000

/-- A whole number at a place. -/
def IntAt (h : Hp) (b o : Nat) (z : Int) : Prop := ∃ cs oa c, h.get b = some ⟨cs, .own⟩ ∧ St cs ∧ cs[o]? = some (.bool (decide (z < 0))) ∧ cs[o + 1]? = some (.slice oa (dg z.natAbs).length c) ∧ Lm h oa (dg z.natAbs).length c (dg z.natAbs)
theorem IntAt.x {h : Hp} {b o : Nat} {z : Int} (n : IntAt h b o z) : XAt h b o := by
  obtain ⟨cs, oa, c, h1, h2, h3, h4, h5⟩ := n
  exact ⟨cs, h1, h2, (List.getElem?_eq_some_iff.1 h4).1⟩
theorem IntAt.nat {h : Hp} {b o x : Nat} (n : IntAt h b o (x : Int)) : NatAt h b o x := by
  obtain ⟨cs, oa, c, h1, h2, h3, h4, h5⟩ := n
  have e : decide ((x : Int) < 0) = false := by simp
  rw [e] at h3
  exact ⟨cs, oa, c, h1, h2, h3, h4, h5⟩
theorem NatAt.int {h : Hp} {b o x : Nat} (n : NatAt h b o x) : IntAt h b o (x : Int) := by
  obtain ⟨cs, oa, c, h1, h2, h3, h4, h5⟩ := n
  have e : decide ((x : Int) < 0) = false := by simp
  exact ⟨cs, oa, c, h1, h2, by rw [e]; exact h3, h4, h5⟩
theorem IntAt.wr {F : Nat → Prop} {h h' : Hp} {b o : Nat} {z : Int} (n : IntAt h b o z) (w : Wf h) (r : Wr F h h') (s : SF h F) (hb : ¬ F b) : IntAt h' b o z := by
  obtain ⟨cs, oa, c, h1, h2, h3, h4, h5⟩ := n
  exact ⟨cs, oa, c, r.fm.keep w h1 hb, h2, h3, h4, h5.wr w r s⟩
theorem IntAt.keep {h h' : Hp} {b o : Nat} {z : Int} (n : IntAt h b o z) (w : Wf h) (fm : Fm No h h') : IntAt h' b o z :=
  n.wr w (Wr.of (F := No) w fm) (fun _ f => f.elim) (fun f => f)
theorem IntAt.r0 {h : Hp} {b o : Nat} {z : Int} (n : IntAt h b o z) : h.rd b o = some (.bool (decide (z < 0))) := by
  obtain ⟨cs, oa, c, h1, h2, h3, h4, h5⟩ := n
  exact (rd_mk h1).trans h3
theorem IntAt.r1 {h : Hp} {b o : Nat} {z : Int} (n : IntAt h b o z) : ∃ oa c, h.rd b (o + 1) = some (.slice oa (dg z.natAbs).length c) ∧ Lm h oa (dg z.natAbs).length c (dg z.natAbs) := by
  obtain ⟨cs, oa, c, h1, h2, h3, h4, h5⟩ := n
  exact ⟨oa, c, (rd_mk h1).trans h4, h5⟩
theorem c_setS {h : Hp} {b o x : Nat} {v : Value} (neg : Bool) (xa : XAt h b o) (l : LmV h v x) :
    ACalls Try.prog 106 [.pointer (some ⟨b, o, none⟩), .bool neg, v] h fun r h' => r = .pointer (some ⟨b, o, none⟩) ∧ Wr (fun y => y = b) h h' ∧ IntAt h' b o (if neg then -(x : Int) else x) ∧ (∀ i, i ≠ o → i ≠ o + 1 → h'.rd b i = h.rd b i) := by
  cases neg with
  | false =>
    refine (c_set xa l).mono ?_
    rintro r h' ⟨h1, h2, h3, h4⟩
    exact ⟨h1, h2, h3.int, h4⟩
  | true =>
    rcases Nat.eq_zero_or_pos x with rfl | hx
    · refine num_Int__set_ok.snd hm rfl fun w => ?_
      rw [WF_eq, num_Int__set]
      have hs := xa.sf
      obtain ⟨cs, hg, hst, hlen⟩ := xa
      obtain ⟨oa, c, rfl, l⟩ := l
      have e0 : ((0 : Int) < ((dg 0).length : Int)) = False := by rw [dg_0]; simp
      have l1 : leIs (o + 1) cs = true := by rw [← leIs_p]; omega
      have l2 : leIs (o + 1 + 1) (cs.set o (.bool false)) = true := by rw [← leIs_p, List.length_set]; omega
      have s1 : spl cs o [.bool false] = cs.set o (.bool false) := spl_one _ _ _ (by omega)
      have s2 : ∀ u, spl (cs.set o (.bool false)) (o + 1) [u] = (cs.set o (.bool false)).set (o + 1) u := fun u => spl_one _ _ _ (by rw [List.length_set]; omega)
      simp +contextual (disch := omega) only [↓AM, ↓AV, AP, CQ, e0, hg, l1, l2, s1, s2, put_put]
      have wr : Wr (fun y => y = b) h (h.put b ⟨(cs.set o (.bool false)).set (o + 1) (.slice oa (dg 0).length c), .own⟩) := by
        refine ⟨Fm.put Fm.refl fun _ => rfl, ?_⟩
        rintro _ cs' rfl hg'
        rw [hg] at hg'
        cases hg'
        exact ⟨_, gput, by simp, fun s => st_set (st_set s (by simp)) (by simp)⟩
      refine ⟨wr, ⟨_, oa, c, gput, st_set (st_set hst (by simp)) (by simp), ?_, ?_, l.wr w wr hs⟩, ?_⟩
      · rw [List.getElem?_set_ne (by omega), List.getElem?_set_self (by omega)]; rfl
      · rw [List.getElem?_set_self (by simp; omega)]; rfl
      · intro i h1 h2
        rw [rd_mk hg, List.getElem?_set_ne (by omega), List.getElem?_set_ne (by omega)]
    · refine num_Int__set_ok.snd hm rfl fun w => ?_
      rw [WF_eq, num_Int__set]
      have hs := xa.sf
      obtain ⟨cs, hg, hst, hlen⟩ := xa
      obtain ⟨oa, c, rfl, l⟩ := l
      have e0 : ((0 : Int) < ((dg x).length : Int)) = True := eq_true (by have := dg_pos.2 hx; omega)
      have l1 : leIs (o + 1) cs = true := by rw [← leIs_p]; omega
      have l2 : leIs (o + 1 + 1) (cs.set o (.bool true)) = true := by rw [← leIs_p, List.length_set]; omega
      have s1 : spl cs o [.bool true] = cs.set o (.bool true) := spl_one _ _ _ (by omega)
      have s2 : ∀ u, spl (cs.set o (.bool true)) (o + 1) [u] = (cs.set o (.bool true)).set (o + 1) u := fun u => spl_one _ _ _ (by rw [List.length_set]; omega)
      simp +contextual (disch := omega) only [↓AM, ↓AV, AP, CQ, e0, hg, l1, l2, s1, s2, put_put]
      have wr : Wr (fun y => y = b) h (h.put b ⟨(cs.set o (.bool true)).set (o + 1) (.slice oa (dg x).length c), .own⟩) := by
        refine ⟨Fm.put Fm.refl fun _ => rfl, ?_⟩
        rintro _ cs' rfl hg'
        rw [hg] at hg'
        cases hg'
        exact ⟨_, gput, by simp, fun s => st_set (st_set s (by simp)) (by simp)⟩
      have en : decide (-(x : Int) < 0) = true := by simp; omega
      have ea : (-(x : Int)).natAbs = x := by omega
      refine ⟨wr, ⟨_, oa, c, gput, st_set (st_set hst (by simp)) (by simp), ?_, ?_, ?_⟩, ?_⟩
      · rw [List.getElem?_set_ne (by omega), List.getElem?_set_self (by omega), en]
      · rw [List.getElem?_set_self (by simp; omega), ea]
      · rw [ea]; exact l.wr w wr hs
      · intro i h1 h2
        rw [rd_mk hg, List.getElem?_set_ne (by omega), List.getElem?_set_ne (by omega)]
theorem mul_sign (a b : Int) : (if (decide (a < 0) != decide (b < 0)) then -((a.natAbs * b.natAbs : Nat) : Int) else ((a.natAbs * b.natAbs : Nat) : Int)) = a * b := by
  have e : ((a.natAbs * b.natAbs : Nat) : Int) = (a.natAbs : Int) * (b.natAbs : Int) := Int.natCast_mul _ _
  rw [e]
  by_cases ha : a < 0 <;> by_cases hb : b < 0
  · have e1 : (a.natAbs : Int) = -a := by omega
    have e2 : (b.natAbs : Int) = -b := by omega
    rw [e1, e2, Int.neg_mul_neg]; simp [ha, hb]
  · have e1 : (a.natAbs : Int) = -a := by omega
    have e2 : (b.natAbs : Int) = b := by omega
    rw [e1, e2, Int.neg_mul, Int.neg_neg]; simp [ha, hb]
  · have e1 : (a.natAbs : Int) = a := by omega
    have e2 : (b.natAbs : Int) = -b := by omega
    rw [e1, e2, Int.mul_neg, Int.neg_neg]; simp [ha, hb]
  · have e1 : (a.natAbs : Int) = a := by omega
    have e2 : (b.natAbs : Int) = b := by omega
    rw [e1, e2]; simp [ha, hb]
theorem c_MulS {h : Hp} {bx ox ba oa bb ob : Nat} {x y : Int} (xa : XAt h bx ox) (na : IntAt h ba oa x) (nb : IntAt h bb ob y) (hx : (dg x.natAbs).length ≤ 400000) (hy : (dg y.natAbs).length ≤ 400000) :
    ACalls Try.prog 67 [.pointer (some ⟨bx, ox, none⟩), .pointer (some ⟨ba, oa, none⟩), .pointer (some ⟨bb, ob, none⟩)] h fun r h' => r = .pointer (some ⟨bx, ox, none⟩) ∧ Wr (fun y => y = bx) h h' ∧ IntAt h' bx ox (x * y) := by
  refine num_Int__Mul_ok.snd hm rfl fun w => ?_
  rw [WF_eq, num_Int__Mul]
  obtain ⟨ca, a, c, ga, sa, a0, a1, la⟩ := na
  obtain ⟨cb, b, d, gb, sb, b0, b1, lb⟩ := nb
  have r0 := (rd_mk ga (i := oa)).trans a0
  have r1 := (rd_mk ga (i := oa + 1)).trans a1
  have q0 := (rd_mk gb (i := ob)).trans b0
  have q1 := (rd_mk gb (i := ob + 1)).trans b1
  simp +contextual (disch := omega) only [↓AM, ↓AV, AP, CQ, r0, r1, q0, q1]
  refine (c_mul la lb hx hy).use ?_
  rintro _ h1 w1 ⟨l, fm⟩
  have r0 := (rd_mk (fm.keep w ga (fun f => f)) (i := oa)).trans a0
  have r1 := (rd_mk (fm.keep w ga (fun f => f)) (i := oa + 1)).trans a1
  have q0 := (rd_mk (fm.keep w gb (fun f => f)) (i := ob)).trans b0
  have q1 := (rd_mk (fm.keep w gb (fun f => f)) (i := ob + 1)).trans b1
  obtain ⟨ng, hng⟩ : ∃ g, (decide (x < 0) != decide (y < 0)) = g := ⟨_, rfl⟩
  simp +contextual (disch := omega) only [↓AM, ↓AV, AP, CQ, r0, r1, q0, q1, hng]
  refine (c_setS ng (xa.keep w fm) l).use ?_
  rintro _ h2 w2 ⟨rfl, wr, n, -⟩
  simp +contextual (disch := omega) only [↓AM, ↓AV, AP, CQ]
  rw [← hng, mul_sign] at n
  exact ⟨(Wr.of (F := fun y => y = bx) w fm).trans w w1 wr fun _ _ f => f, n⟩
def sgnZ (r : Int) : Int := if r < 0 then -1 else if r = 0 then 0 else 1
theorem c_sign {h : Hp} {r : Int} (hr : -1000000 ≤ r ∧ r ≤ 1000000) : ACalls Try.prog 135 [.int .i64 r] h fun v h' => v = .int .i64 (sgnZ r) ∧ h' = h := by
  refine num_sign_ok.snd hm rfl fun w => ?_
  rw [WF_eq, num_sign]
  have e1 : intMin [.int .i64 1, .int .i64 r] = some (.int .i64 (if r < 1 then r else 1)) := by simp [intMin]
  have e2 : ∀ z, intMax [.int .i64 (-1), .int .i64 z] = some (.int .i64 (if z > -1 then z else -1)) := fun z => by simp [intMax]
  simp +contextual (disch := omega) only [↓AM, ↓AV, AP, CQ, e1, e2]
  congr 1
  have key : ∀ u : Int, (if u > -1 then u else -1) = max u (-1) := fun u => by split <;> omega
  have key2 : (if r < 1 then r else 1) = min r 1 := by split <;> omega
  rw [key, key2]
  unfold sgnZ
  split
  · omega
  · split <;> omega
def cmpN (a b : Nat) : Int := if a < b then -1 else if a = b then 0 else 1
def cmpZ (a b : Int) : Int := if a < b then -1 else if a = b then 0 else 1
theorem c_CmpAbs {h : Hp} {ba oa bb ob : Nat} {x y : Int} (na : IntAt h ba oa x) (nb : IntAt h bb ob y) (hx : (dg x.natAbs).length ≤ 1000000) (hy : (dg y.natAbs).length ≤ 1000000) :
    ACalls Try.prog 113 [.pointer (some ⟨ba, oa, none⟩), .pointer (some ⟨bb, ob, none⟩)] h fun v h' => v = .int .i64 (cmpN x.natAbs y.natAbs) ∧ h' = h := by
  refine num_Int__CmpAbs_ok.snd hm rfl fun w => ?_
  rw [WF_eq, num_Int__CmpAbs]
  obtain ⟨a, c, r1, la⟩ := na.r1
  obtain ⟨b, d, q1, lb⟩ := nb.r1
  simp +contextual (disch := omega) only [↓AM, ↓AV, AP, CQ, r1, q1]
  refine (c_cmp la lb hx hy).use ?_
  rintro _ h1 w1 ⟨⟨r, rfl, c1, c2, c3, c4⟩, e⟩
  subst e
  simp +contextual (disch := omega) only [↓AM, ↓AV, AP, CQ, r1, q1]
  refine (c_sign ⟨c3, c4⟩).use ?_
  rintro _ h2 w2 ⟨rfl, e⟩
  subst e
  simp +contextual (disch := omega) only [↓AM, ↓AV, AP, CQ]
  congr 1
  unfold sgnZ cmpN
  by_cases h1 : r < 0
  · rw [if_pos h1, if_pos (c1.1 h1)]
  · rw [if_neg h1, if_neg (fun q => h1 (c1.2 q))]
    by_cases h2 : r = 0
    · rw [if_pos h2, if_pos (c2.1 h2)]
    · rw [if_neg h2, if_neg (fun q => h2 (c2.2 q))]
theorem c_CmpS {h : Hp} {ba oa bb ob : Nat} {x y : Int} (na : IntAt h ba oa x) (nb : IntAt h bb ob y) (hx : (dg x.natAbs).length ≤ 1000000) (hy : (dg y.natAbs).length ≤ 1000000) :
    ACalls Try.prog 74 [.pointer (some ⟨ba, oa, none⟩), .pointer (some ⟨bb, ob, none⟩)] h fun v h' => v = .int .i64 (cmpZ x y) ∧ h' = h := by
  refine num_Int__Cmp_ok.snd hm rfl fun w => ?_
  rw [WF_eq, num_Int__Cmp]
  have r0 := na.r0
  have q0 := nb.r0
  by_cases h1 : x < 0 <;> by_cases h2 : y < 0
  · have e1 : decide (x < 0) = true := by simp [h1]
    have e2 : decide (y < 0) = true := by simp [h2]
    rw [e1] at r0
    rw [e2] at q0
    simp +contextual (disch := omega) only [↓AM, ↓AV, AP, CQ, r0, q0]
    refine (c_CmpAbs na nb hx hy).use ?_
    rintro _ h3 w3 ⟨rfl, e⟩
    subst e
    have eb : -1 ≤ cmpN x.natAbs y.natAbs ∧ cmpN x.natAbs y.natAbs ≤ 1 := by unfold cmpN; split <;> (try split) <;> omega
    have ew : IntKind.i64.wrap (0 - cmpN x.natAbs y.natAbs) = -cmpN x.natAbs y.natAbs := by rw [i64 (by omega)]; omega
    simp +contextual (disch := omega) only [↓AM, ↓AV, AP, CQ, ew]
    congr 1
    unfold cmpN cmpZ
    by_cases h4 : x < y
    · rw [if_pos h4, if_neg (by omega), if_neg (by omega)]
    · rw [if_neg h4]
      by_cases h5 : x = y
      · rw [if_pos h5, if_neg (by omega), if_pos (by omega)]; rfl
      · rw [if_neg h5, if_pos (by omega)]; rfl
  · have e1 : decide (x < 0) = true := by simp [h1]
    have e2 : decide (y < 0) = false := by simp [h2]
    rw [e1] at r0
    rw [e2] at q0
    simp +contextual (disch := omega) only [↓AM, ↓AV, AP, CQ, r0, q0]
    rw [cmpZ, if_pos (by omega)]
  · have e1 : decide (x < 0) = false := by simp [h1]
    have e2 : decide (y < 0) = true := by simp [h2]
    rw [e1] at r0
    rw [e2] at q0
    simp +contextual (disch := omega) only [↓AM, ↓AV, AP, CQ, r0, q0]
    rw [cmpZ, if_neg (by omega), if_neg (by omega)]
  · have e1 : decide (x < 0) = false := by simp [h1]
    have e2 : decide (y < 0) = false := by simp [h2]
    rw [e1] at r0
    rw [e2] at q0
    simp +contextual (disch := omega) only [↓AM, ↓AV, AP, CQ, r0, q0]
    refine (c_CmpAbs na nb hx hy).use ?_
    rintro _ h3 w3 ⟨rfl, e⟩
    subst e
    simp +contextual (disch := omega) only [↓AM, ↓AV, AP, CQ]
    congr 1
    unfold cmpN cmpZ
    by_cases h4 : x < y
    · rw [if_pos h4, if_pos (by omega)]
    · rw [if_neg h4, if_neg (by omega)]
      by_cases h5 : x = y
      · rw [if_pos h5, if_pos (by omega)]
      · rw [if_neg h5, if_neg (by omega)]
end Go.Proofs.Ytikbdeobghoglaa.Nu

/- Limbs added and taken away. Plain theorems over the abstract machine.
   Conditions: none. -/
namespace Go.Proofs.Ytikbdeobghoglaa.Nu
open Go Go.RowKit Go.Proofs.Ytikbdeobghoglaa.Am Go.Proofs.Ytikbdeobghoglaa.Af Go.Proofs.Ytikbdeobghoglaa.Md
set_option linter.unusedVariables false
set_option linter.unusedSimpArgs false
set_option linter.defProp false
set_option maxRecDepth 20000
set_option maxHeartbeats 1000000

theorem take_getN {Y : List Nat} (j : Nat) : vL B32 (Y.take (j + 1)) = vL B32 (Y.take j) + B32 ^ j * Y.getD j 0 := by
  rw [List.take_add_one, List.getD_eq_getElem?_getD]
  cases e : Y[j]? with
  | none => simp
  | some d =>
    have : j < Y.length := (List.getElem?_eq_some_iff.1 e).1
    show vL B32 (Y.take j ++ [d]) = _
    rw [vL_snoc, List.length_take, Nat.min_eq_left (by omega)]
    rfl
theorem add_val {O X Y : List Nat} {i cy p q : Nat} (he : O[i]? = some 0) (hp : X.getD i 0 = p) (hq : Y.getD i 0 = q) (hv : vL B32 O + B32 ^ i * cy = vL B32 (X.take i) + vL B32 (Y.take i)) :
    vL B32 (O.set i ((cy + p + q) % 4294967296)) + B32 ^ (i + 1) * ((cy + p + q) / 4294967296) = vL B32 (X.take (i + 1)) + vL B32 (Y.take (i + 1)) := by
  have h0 := vL_set (B := B32) (d := (cy + p + q) % 4294967296) he
  have h1 : B32 ^ i * ((cy + p + q) % 4294967296) + B32 ^ i * (B32 * ((cy + p + q) / 4294967296)) = B32 ^ i * (cy + p + q) := by rw [← Nat.mul_add]; congr 1; exact Nat.mod_add_div _ 4294967296
  rw [Nat.mul_add, Nat.mul_add] at h1
  rw [take_getN, take_getN, hp, hq, Nat.pow_succ, Nat.mul_assoc]
  omega
theorem c_add {h : Hp} {a b : Option Addr} {c d x y : Nat} (la : Lm h a (dg x).length c (dg x)) (lb : Lm h b (dg y).length d (dg y)) (hx : (dg x).length ≤ 400000) (hy : (dg y).length ≤ 400000) :
    ACalls Try.prog 110 [.slice a (dg x).length c, .slice b (dg y).length d] h fun v h' => LmV h' v (x + y) ∧ Fm No h h' := by
  refine num_addMag_ok.snd hm rfl fun w => ?_
  rw [WF_eq, num_addMag]
  have xval : vL B32 (dg x) = x := dg_val x
  have yval : vL B32 (dg y) = y := dg_val y
  generalize dg x = X at *
  generalize dg y = Y at *
  by_cases hlt : X.length < Y.length
  · simp +contextual (disch := omega) only [↓AM, ↓AV, AP, CQ, i64, hlt, rep_u3]
    refine ⟨by omega, ?_⟩
    refine WL.mk (fun k t h' => ∃ O : List Nat, h' = h.new ⟨u3 O, .own⟩ ∧ O.length = Y.length + 1 ∧ Dl B32 O ∧ ∃ i cy : Nat, i ≤ Y.length ∧ k = Y.length - i ∧ cy ≤ 1 ∧ vL B32 O + B32 ^ i * cy = vL B32 (Y.take i) + vL B32 (X.take i) ∧ (∀ j, i ≤ j → j < O.length → O[j]? = some 0) ∧
        t = [(0, some (.slice b Y.length d)), (1, some (.slice a X.length c)), (5, some (.slice (some ⟨h.size, 0, none⟩) (Y.length + 1) (Y.length + 1))), (6, some (.int .u64 (cy : Int))), (20, some (.slice b Y.length d)), (21, some (.int .i64 (Y.length : Int))), (22, some (.int .i64 (i : Int)))])
      ⟨Y.length, _, rfl, by simp, Dl.zeros _, 0, 0, by omega, rfl, by decide, by rw [vL_zeros]; simp [vL], fun j h1 h2 => by rw [List.getElem?_replicate, if_pos (by simpa using h2)], rfl⟩ ?_
    rintro k t _ ⟨O, rfl, hOl, hOd, i, cy, hi, rfl, hcy, hv, hz, rfl⟩
    have fmO : Fm No h (h.new ⟨u3 O, .own⟩) := Fm.new Fm.refl
    by_cases hin : i < Y.length
    · obtain ⟨b1, o1, s1, p, rfl, f1, hp, r1⟩ := (lb.rd.keepW w fmO nNo).nat hin
      have hpl : p < 4294967296 := lb.dl.at hp
      have hpD : Y.getD i 0 = p := by rw [List.getD_eq_getElem?_getD, hp]; rfl
      have hiO : i < O.length := by omega
      have hi1 : i < Y.length + 1 := by omega
      have he := hz i (Nat.le_refl _) hiO
      have ul : leIs (i + 1) (u3 O) = true := by rw [← leIs_p, u3_len]; omega
      have us : ∀ z : Nat, spl (u3 O) i [.int .u32 ((z % 4294967296 : Nat) : Int)] = u3 (O.set i (z % 4294967296)) := fun z => spl_u3 hiO
      by_cases hiq : i < X.length
      · obtain ⟨b2, o2, s2, q, rfl, f2, hq, r2⟩ := (la.rd.keepW w fmO nNo).nat hiq
        have hql : q < 4294967296 := la.dl.at hq
        have hqD : X.getD i 0 = q := by rw [List.getD_eq_getElem?_getD, hq]; rfl
        simp +contextual (disch := omega) only [↓AM, ↓AV, AP, CQ, CN, i64, u64, hin, hi1, f1, r1, hiq, f2, r2, ul, us]
        refine ⟨_, ?_, _, rfl, by simp [hOl], hOd.set (Nat.mod_lt _ (by decide)), i + 1, (cy + p + q) / 4294967296, by omega, rfl, by omega, add_val he hpD hqD hv, ?_, rfl⟩
        · omega
        · intro j h1 h2
          rw [List.getElem?_set_ne (by omega)]
          exact hz j (by omega) (by simpa using h2)
      · have hqD : X.getD i 0 = 0 := by rw [List.getD_eq_getElem?_getD, List.getElem?_eq_none (by omega)]; rfl
        simp +contextual (disch := omega) only [↓AM, ↓AV, AP, CQ, CN, i64, u64, hin, hi1, f1, r1, hiq, ul, us]
        have hav := add_val he hpD hqD hv
        rw [Nat.add_zero] at hav
        refine ⟨_, ?_, _, rfl, by simp [hOl], hOd.set (Nat.mod_lt _ (by decide)), i + 1, (cy + p) / 4294967296, by omega, rfl, by omega, hav, ?_, rfl⟩
        · omega
        · intro j h1 h2
          rw [List.getElem?_set_ne (by omega)]
          exact hz j (by omega) (by simpa using h2)
    · have hiX : i = Y.length := by omega
      subst hiX
      have hiO : Y.length < O.length := by omega
      have hi1 : Y.length < Y.length + 1 := by omega
      have he := hz _ (Nat.le_refl _) hiO
      have ul : leIs (Y.length + 1) (u3 O) = true := by rw [← leIs_p, u3_len]; omega
      have us : ∀ z : Nat, spl (u3 O) Y.length [.int .u32 ((z % 4294967296 : Nat) : Int)] = u3 (O.set Y.length (z % 4294967296)) := fun z => spl_u3 hiO
      simp +contextual (disch := omega) only [↓AM, ↓AV, AP, CQ, CN, i64, u64, hin, hi1, ul, us]
      have h0 := vL_set (B := B32) (d := cy % 4294967296) he
      rw [Nat.mod_eq_of_lt (show cy < 4294967296 by omega)] at h0 ⊢
      rw [List.take_of_length_le (Nat.le_refl _), List.take_of_length_le (l := X) (by omega), xval, yval] at hv
      have lm := lm_new (h := h) (hOd.set (j := Y.length) (show cy < B32 by show cy < 4294967296; omega))
      rw [List.length_set, hOl] at lm
      refine (c_trim lm (by omega)).use ?_
      rintro _ _ w1 ⟨l, rfl⟩
      rw [show vL B32 (O.set Y.length cy) = x + y by omega] at l
      obtain ⟨oa, cc, rfl, l⟩ := l
      simp +contextual (disch := omega) only [↓AM, ↓AV, AP, CQ]
      exact ⟨⟨_, _, rfl, l⟩, Fm.new Fm.refl⟩
  · simp +contextual (disch := omega) only [↓AM, ↓AV, AP, CQ, i64, hlt, rep_u3]
    refine ⟨by omega, ?_⟩
    refine WL.mk (fun k t h' => ∃ O : List Nat, h' = h.new ⟨u3 O, .own⟩ ∧ O.length = X.length + 1 ∧ Dl B32 O ∧ ∃ i cy : Nat, i ≤ X.length ∧ k = X.length - i ∧ cy ≤ 1 ∧ vL B32 O + B32 ^ i * cy = vL B32 (X.take i) + vL B32 (Y.take i) ∧ (∀ j, i ≤ j → j < O.length → O[j]? = some 0) ∧
        t = [(0, some (.slice a X.length c)), (1, some (.slice b Y.length d)), (5, some (.slice (some ⟨h.size, 0, none⟩) (X.length + 1) (X.length + 1))), (6, some (.int .u64 (cy : Int))), (20, some (.slice a X.length c)), (21, some (.int .i64 (X.length : Int))), (22, some (.int .i64 (i : Int)))])
      ⟨X.length, _, rfl, by simp, Dl.zeros _, 0, 0, by omega, rfl, by decide, by rw [vL_zeros]; simp [vL], fun j h1 h2 => by rw [List.getElem?_replicate, if_pos (by simpa using h2)], rfl⟩ ?_
    rintro k t _ ⟨O, rfl, hOl, hOd, i, cy, hi, rfl, hcy, hv, hz, rfl⟩
    have fmO : Fm No h (h.new ⟨u3 O, .own⟩) := Fm.new Fm.refl
    by_cases hin : i < X.length
    · obtain ⟨b1, o1, s1, p, rfl, f1, hp, r1⟩ := (la.rd.keepW w fmO nNo).nat hin
      have hpl : p < 4294967296 := la.dl.at hp
      have hpD : X.getD i 0 = p := by rw [List.getD_eq_getElem?_getD, hp]; rfl
      have hiO : i < O.length := by omega
      have hi1 : i < X.length + 1 := by omega
      have he := hz i (Nat.le_refl _) hiO
      have ul : leIs (i + 1) (u3 O) = true := by rw [← leIs_p, u3_len]; omega
      have us : ∀ z : Nat, spl (u3 O) i [.int .u32 ((z % 4294967296 : Nat) : Int)] = u3 (O.set i (z % 4294967296)) := fun z => spl_u3 hiO
      by_cases hiq : i < Y.length
      · obtain ⟨b2, o2, s2, q, rfl, f2, hq, r2⟩ := (lb.rd.keepW w fmO nNo).nat hiq
        have hql : q < 4294967296 := lb.dl.at hq
        have hqD : Y.getD i 0 = q := by rw [List.getD_eq_getElem?_getD, hq]; rfl
        simp +contextual (disch := omega) only [↓AM, ↓AV, AP, CQ, CN, i64, u64, hin, hi1, f1, r1, hiq, f2, r2, ul, us]
        refine ⟨_, ?_, _, rfl, by simp [hOl], hOd.set (Nat.mod_lt _ (by decide)), i + 1, (cy + p + q) / 4294967296, by omega, rfl, by omega, add_val he hpD hqD hv, ?_, rfl⟩
        · omega
        · intro j h1 h2
          rw [List.getElem?_set_ne (by omega)]
          exact hz j (by omega) (by simpa using h2)
      · have hqD : Y.getD i 0 = 0 := by rw [List.getD_eq_getElem?_getD, List.getElem?_eq_none (by omega)]; rfl
        simp +contextual (disch := omega) only [↓AM, ↓AV, AP, CQ, CN, i64, u64, hin, hi1, f1, r1, hiq, ul, us]
        have hav := add_val he hpD hqD hv
        rw [Nat.add_zero] at hav
        refine ⟨_, ?_, _, rfl, by simp [hOl], hOd.set (Nat.mod_lt _ (by decide)), i + 1, (cy + p) / 4294967296, by omega, rfl, by omega, hav, ?_, rfl⟩
        · omega
        · intro j h1 h2
          rw [List.getElem?_set_ne (by omega)]
          exact hz j (by omega) (by simpa using h2)
    · have hiX : i = X.length := by omega
      subst hiX
      have hiO : X.length < O.length := by omega
      have hi1 : X.length < X.length + 1 := by omega
      have he := hz _ (Nat.le_refl _) hiO
      have ul : leIs (X.length + 1) (u3 O) = true := by rw [← leIs_p, u3_len]; omega
      have us : ∀ z : Nat, spl (u3 O) X.length [.int .u32 ((z % 4294967296 : Nat) : Int)] = u3 (O.set X.length (z % 4294967296)) := fun z => spl_u3 hiO
      simp +contextual (disch := omega) only [↓AM, ↓AV, AP, CQ, CN, i64, u64, hin, hi1, ul, us]
      have h0 := vL_set (B := B32) (d := cy % 4294967296) he
      rw [Nat.mod_eq_of_lt (show cy < 4294967296 by omega)] at h0 ⊢
      rw [List.take_of_length_le (Nat.le_refl _), List.take_of_length_le (l := Y) (by omega), xval, yval] at hv
      have lm := lm_new (h := h) (hOd.set (j := X.length) (show cy < B32 by show cy < 4294967296; omega))
      rw [List.length_set, hOl] at lm
      refine (c_trim lm (by omega)).use ?_
      rintro _ _ w1 ⟨l, rfl⟩
      rw [show vL B32 (O.set X.length cy) = x + y by omega] at l
      obtain ⟨oa, cc, rfl, l⟩ := l
      simp +contextual (disch := omega) only [↓AM, ↓AV, AP, CQ]
      exact ⟨⟨_, _, rfl, l⟩, Fm.new Fm.refl⟩
theorem sub_val {L X Y : List Nat} {i bor p q dd bo : Nat} (he : L[i]? = some 0) (hp : X.getD i 0 = p) (hq : Y.getD i 0 = q) (hdd : dd + q + bor = p + 4294967296 * bo) (hv : vL B32 L + vL B32 (Y.take i) = vL B32 (X.take i) + B32 ^ i * bor) :
    vL B32 (L.set i dd) + vL B32 (Y.take (i + 1)) = vL B32 (X.take (i + 1)) + B32 ^ (i + 1) * bo := by
  have h0 := vL_set (B := B32) (d := dd) he
  have e1 : B32 ^ i * (dd + q + bor) = B32 ^ i * (p + 4294967296 * bo) := by rw [hdd]
  rw [Nat.mul_add, Nat.mul_add, Nat.mul_add] at e1
  rw [take_getN, take_getN, hp, hq, Nat.pow_succ, Nat.mul_assoc]
  show _ + (_ + B32 ^ i * q) = _ + B32 ^ i * p + B32 ^ i * (4294967296 * bo)
  omega
theorem shr_63 {n : Nat} : (n : Int).fdiv (2 ^ min 63 IntKind.u64.bits) = ((n / 9223372036854775808 : Nat) : Int) := by
  show (n : Int).fdiv 9223372036854775808 = _
  rw [Int.fdiv_eq_ediv_of_nonneg _ (by omega)]; rfl
theorem bor_end32 {X Y : List Nat} {L : List Nat} {n bor : Nat} (hL : L.length = n) (hd : Dl B32 L) (hb : bor ≤ 1) (hv : vL B32 L + vL B32 Y = vL B32 X + B32 ^ n * bor) (hle : vL B32 Y ≤ vL B32 X) : vL B32 L = vL B32 X - vL B32 Y := by
  have h1 := vL_lt hd
  rw [hL] at h1
  rcases (show bor = 0 ∨ bor = 1 by omega) with rfl | rfl
  · omega
  · rw [Nat.mul_one] at hv; omega
theorem c_sub {h : Hp} {a b : Option Addr} {c d x y : Nat} (la : Lm h a (dg x).length c (dg x)) (lb : Lm h b (dg y).length d (dg y)) (hx : (dg x).length ≤ 400000) (hy : (dg y).length ≤ 400000) (hle : y ≤ x) :
    ACalls Try.prog 112 [.slice a (dg x).length c, .slice b (dg y).length d] h fun v h' => LmV h' v (x - y) ∧ Fm No h h' := by
  refine num_subMag_ok.snd hm rfl fun w => ?_
  rw [WF_eq, num_subMag]
  have xval : vL B32 (dg x) = x := dg_val x
  have yval : vL B32 (dg y) = y := dg_val y
  have hll : (dg y).length ≤ (dg x).length := by
    rcases Nat.lt_or_ge (dg x).length (dg y).length with h | h
    · have := len_lt b32 (dg_dl x) (dig_nz (hB := b32) y) h
      rw [dg_val, show vL B32 (dig B32 b32 y) = y from dg_val y] at this
      omega
    · exact h
  generalize dg x = X at *
  generalize dg y = Y at *
  simp +contextual (disch := omega) only [↓AM, ↓AV, AP, CQ, i64, rep_u3]
  refine ⟨by omega, ?_⟩
  refine WL.mk (fun k t h' => ∃ O : List Nat, h' = h.new ⟨u3 O, .own⟩ ∧ O.length = X.length ∧ Dl B32 O ∧ ∃ i bor : Nat, i ≤ X.length ∧ k = X.length - i ∧ bor ≤ 1 ∧ vL B32 O + vL B32 (Y.take i) = vL B32 (X.take i) + B32 ^ i * bor ∧ (∀ j, i ≤ j → j < O.length → O[j]? = some 0) ∧
      t = [(1, some (.slice b Y.length d)), (5, some (.slice (some ⟨h.size, 0, none⟩) X.length X.length)), (6, some (.int .u64 (bor : Int))), (14, some (.slice a X.length c)), (15, some (.int .i64 (X.length : Int))), (16, some (.int .i64 (i : Int)))])
    ⟨X.length, _, rfl, by simp, Dl.zeros _, 0, 0, by omega, rfl, by decide, by rw [vL_zeros]; simp [vL], fun j h1 h2 => by rw [List.getElem?_replicate, if_pos (by simpa using h2)], rfl⟩ ?_
  rintro k t _ ⟨O, rfl, hOl, hOd, i, bor, hi, rfl, hb, hv, hz, rfl⟩
  have fmO : Fm No h (h.new ⟨u3 O, .own⟩) := Fm.new Fm.refl
  by_cases hin : i < X.length
  · obtain ⟨b1, o1, s1, p, rfl, f1, hp, r1⟩ := (la.rd.keepW w fmO nNo).nat hin
    have hpl : p < 4294967296 := la.dl.at hp
    have hpD : X.getD i 0 = p := by rw [List.getD_eq_getElem?_getD, hp]; rfl
    have hiO : i < O.length := by omega
    have he := hz i (Nat.le_refl _) hiO
    have ul : leIs (i + 1) (u3 O) = true := by rw [← leIs_p, u3_len]; omega
    have us : ∀ z : Nat, spl (u3 O) i [.int .u32 ((z % 4294967296 : Nat) : Int)] = u3 (O.set i (z % 4294967296)) := fun z => spl_u3 hiO
    have key : ∀ q : Nat, q < 4294967296 → ∃ D : Nat, IntKind.u64.wrap (IntKind.u64.wrap ((p : Int) - (q : Int)) - (bor : Int)) = (D : Int) ∧ D / 9223372036854775808 ≤ 1 ∧ D % 4294967296 + q + bor = p + 4294967296 * (D / 9223372036854775808) := by
      intro q hq
      refine ⟨(IntKind.u64.wrap (IntKind.u64.wrap ((p : Int) - (q : Int)) - (bor : Int))).toNat, ?_, ?_, ?_⟩
      · rw [IntKind.wrap_u64, IntKind.wrap_u64]; omega
      · rw [IntKind.wrap_u64, IntKind.wrap_u64]; omega
      · rw [IntKind.wrap_u64, IntKind.wrap_u64]; omega
    have fin : ∀ q D : Nat, Y.getD i 0 = q → D / 9223372036854775808 ≤ 1 → D % 4294967296 + q + bor = p + 4294967296 * (D / 9223372036854775808) →
        vL B32 (O.set i (D % 4294967296)) + vL B32 (Y.take (i + 1)) = vL B32 (X.take (i + 1)) + B32 ^ (i + 1) * (D / 9223372036854775808) := fun q D h1 _ h3 => sub_val he hpD h1 h3 hv
    by_cases hiq : i < Y.length
    · obtain ⟨b2, o2, s2, q, rfl, f2, hq, r2⟩ := (lb.rd.keepW w fmO nNo).nat hiq
      have hql : q < 4294967296 := lb.dl.at hq
      have hqD : Y.getD i 0 = q := by rw [List.getD_eq_getElem?_getD, hq]; rfl
      obtain ⟨D, k1, k2, k3⟩ := key q hql
      simp +contextual (disch := omega) only [↓AM, ↓AV, AP, CQ, CN, i64, u64, hin, f1, r1, hiq, f2, r2, ul, us, k1, shr_63]
      refine ⟨_, ?_, _, rfl, by simp [hOl], hOd.set (Nat.mod_lt _ (by decide)), i + 1, D / 9223372036854775808, by omega, rfl, k2, fin q D hqD k2 k3, ?_, rfl⟩
      · omega
      · intro j h1 h2
        rw [List.getElem?_set_ne (by omega)]
        exact hz j (by omega) (by simpa using h2)
    · have hqD : Y.getD i 0 = 0 := by rw [List.getD_eq_getElem?_getD, List.getElem?_eq_none (by omega)]; rfl
      obtain ⟨D, k1, k2, k3⟩ := key 0 (by decide)
      have k1 : IntKind.u64.wrap (IntKind.u64.wrap ((p : Int) - 0) - (bor : Int)) = (D : Int) := k1
      rw [u64 (n := (p : Int) - 0) (by omega)] at k1
      simp +contextual (disch := omega) only [↓AM, ↓AV, AP, CQ, CN, i64, u64, hin, f1, r1, hiq, ul, us, k1, shr_63]
      refine ⟨_, ?_, _, rfl, by simp [hOl], hOd.set (Nat.mod_lt _ (by decide)), i + 1, D / 9223372036854775808, by omega, rfl, k2, fin 0 D hqD k2 k3, ?_, rfl⟩
      · omega
      · intro j h1 h2
        rw [List.getElem?_set_ne (by omega)]
        exact hz j (by omega) (by simpa using h2)
  · have hiX : i = X.length := by omega
    subst hiX
    simp +contextual (disch := omega) only [↓AM, ↓AV, AP, CQ, CN, i64, hin]
    rw [List.take_of_length_le (Nat.le_refl X.length), List.take_of_length_le (l := Y) (by omega)] at hv
    have hval := bor_end32 hOl hOd hb hv (by omega)
    rw [xval, yval] at hval
    have lm := lm_new (h := h) hOd
    rw [hOl] at lm
    refine (c_trim lm (by omega)).use ?_
    rintro _ _ w1 ⟨l, rfl⟩
    rw [hval] at l
    obtain ⟨oa, cc, rfl, l⟩ := l
    simp +contextual (disch := omega) only [↓AM, ↓AV, AP, CQ]
    exact ⟨⟨_, _, rfl, l⟩, Fm.new Fm.refl⟩
end Go.Proofs.Ytikbdeobghoglaa.Nu

/- Whole numbers added. Plain theorems over the abstract machine.
   Conditions: none. -/
namespace Go.Proofs.Ytikbdeobghoglaa.Nu
open Go Go.RowKit Go.Proofs.Ytikbdeobghoglaa.Am Go.Proofs.Ytikbdeobghoglaa.Af Go.Proofs.Ytikbdeobghoglaa.Md
set_option linter.unusedVariables false
set_option linter.unusedSimpArgs false
set_option linter.defProp false
set_option maxRecDepth 20000
set_option maxHeartbeats 1000000

/-- A sign and a size at a place: the sign of nothing is open. -/
def SgnAt (h : Hp) (b o : Nat) (neg : Bool) (x : Nat) : Prop := ∃ cs oa c, h.get b = some ⟨cs, .own⟩ ∧ St cs ∧ cs[o]? = some (.bool neg) ∧ cs[o + 1]? = some (.slice oa (dg x).length c) ∧ Lm h oa (dg x).length c (dg x)
def valS (neg : Bool) (x : Nat) : Int := if neg then -(x : Int) else x
theorem IntAt.sgn {h : Hp} {b o : Nat} {z : Int} (n : IntAt h b o z) : SgnAt h b o (decide (z < 0)) z.natAbs := n
theorem valS_int (z : Int) : valS (decide (z < 0)) z.natAbs = z := by
  unfold valS
  by_cases h : z < 0
  · simp [h]; omega
  · simp [h]; omega
theorem c_AddS {h : Hp} {bx ox ba oa bb ob x y : Nat} {n1 n2 : Bool} (xa : XAt h bx ox) (na : SgnAt h ba oa n1 x) (nb : SgnAt h bb ob n2 y) (hx : (dg x).length ≤ 400000) (hy : (dg y).length ≤ 400000) :
    ACalls Try.prog 72 [.pointer (some ⟨bx, ox, none⟩), .pointer (some ⟨ba, oa, none⟩), .pointer (some ⟨bb, ob, none⟩)] h fun r h' => r = .pointer (some ⟨bx, ox, none⟩) ∧ Wr (fun y => y = bx) h h' ∧ IntAt h' bx ox (valS n1 x + valS n2 y) := by
  refine num_Int__Add_ok.snd hm rfl fun w => ?_
  rw [WF_eq, num_Int__Add]
  obtain ⟨ca, a, c, ga, sa, a0, a1, la⟩ := na
  obtain ⟨cb, b, d, gb, sb, b0, b1, lb⟩ := nb
  have rds : ∀ g : Hp, Fm No h g → (g.rd ba oa = some (.bool n1) ∧ g.rd ba (oa + 1) = some (.slice a (dg x).length c)) ∧ (g.rd bb ob = some (.bool n2) ∧ g.rd bb (ob + 1) = some (.slice b (dg y).length d)) := fun g fg =>
    ⟨⟨(rd_mk (fg.keep w ga (fun f => f)) (i := oa)).trans a0, (rd_mk (fg.keep w ga (fun f => f)) (i := oa + 1)).trans a1⟩, (rd_mk (fg.keep w gb (fun f => f)) (i := ob)).trans b0, (rd_mk (fg.keep w gb (fun f => f)) (i := ob + 1)).trans b1⟩
  have e_t : (true == true) = true := rfl
  have e_f : (false == false) = true := rfl
  have e_tf : (true == false) = false := rfl
  have e_ft : (false == true) = false := rfl
  have fin : ∀ (g : Hp) (ng : Bool) (v : Value) (s : Nat), Wf g → Fm No h g → LmV g v s → valS ng s = valS n1 x + valS n2 y → ACalls Try.prog 106 [.pointer (some ⟨bx, ox, none⟩), .bool ng, v] g fun r h' => r = .pointer (some ⟨bx, ox, none⟩) ∧ Wr (fun y => y = bx) h h' ∧ IntAt h' bx ox (valS n1 x + valS n2 y) := by
    intro g ng v s wg fg l e
    refine (c_setS ng (xa.keep w fg) l).mono ?_
    rintro r h' ⟨h1, h2, h3, -⟩
    refine ⟨h1, (Wr.of (F := fun y => y = bx) w fg).trans w wg h2 fun _ _ f => f, ?_⟩
    rw [← e]; exact h3
  obtain ⟨⟨r0, r1⟩, q0, q1⟩ := rds h Fm.refl
  cases n1 <;> cases n2
  · simp +contextual (disch := omega) only [↓AM, ↓AV, AP, CQ, r0, r1, q0, q1, e_t, e_f, e_tf, e_ft]
    refine (c_add la lb hx hy).use ?_
    rintro _ h1 w1 ⟨l, fm⟩
    obtain ⟨⟨r0, r1⟩, q0, q1⟩ := rds h1 fm
    simp +contextual (disch := omega) only [↓AM, ↓AV, AP, CQ, r0, r1, q0, q1, e_t, e_f, e_tf, e_ft]
    refine (fin h1 false _ _ w1 fm l (by simp [valS] <;> omega)).use ?_
    rintro _ h2 w2 ⟨rfl, p2, p3⟩
    simp +contextual (disch := omega) only [↓AM, ↓AV, AP, CQ, r0, r1, q0, q1, e_t, e_f, e_tf, e_ft]
    exact ⟨p2, p3⟩
  · simp +contextual (disch := omega) only [↓AM, ↓AV, AP, CQ, r0, r1, q0, q1, e_t, e_f, e_tf, e_ft]
    refine (c_cmp la lb (by omega) (by omega)).use ?_
    rintro _ hA wA ⟨⟨r, rfl, k1, k2, k3, k4⟩, e⟩
    subst e
    by_cases hle : y ≤ x
    · have hr : 0 ≤ r := by
        refine Classical.byContradiction fun hn => ?_
        have := k1.1 (by omega)
        omega
      simp +contextual (disch := omega) only [↓AM, ↓AV, AP, CQ, r0, r1, q0, q1, e_t, e_f, e_tf, e_ft, hr]
      refine (c_sub la lb hx hy hle).use ?_
      rintro _ h1 w1 ⟨l, fm⟩
      obtain ⟨⟨r0, r1⟩, q0, q1⟩ := rds h1 fm
      simp +contextual (disch := omega) only [↓AM, ↓AV, AP, CQ, r0, r1, q0, q1, e_t, e_f, e_tf, e_ft]
      refine (fin h1 false _ _ w1 fm l (by simp [valS] <;> omega)).use ?_
      rintro _ h2 w2 ⟨rfl, p2, p3⟩
      simp +contextual (disch := omega) only [↓AM, ↓AV, AP, CQ, r0, r1, q0, q1, e_t, e_f, e_tf, e_ft]
      exact ⟨p2, p3⟩
    · have hr : ¬ 0 ≤ r := fun q => by
        have := k1.2 (by omega)
        omega
      simp +contextual (disch := omega) only [↓AM, ↓AV, AP, CQ, r0, r1, q0, q1, e_t, e_f, e_tf, e_ft, hr]
      refine (c_sub lb la hy hx (by omega)).use ?_
      rintro _ h1 w1 ⟨l, fm⟩
      obtain ⟨⟨r0, r1⟩, q0, q1⟩ := rds h1 fm
      simp +contextual (disch := omega) only [↓AM, ↓AV, AP, CQ, r0, r1, q0, q1, e_t, e_f, e_tf, e_ft]
      refine (fin h1 true _ _ w1 fm l (by simp [valS] <;> omega)).use ?_
      rintro _ h2 w2 ⟨rfl, p2, p3⟩
      simp +contextual (disch := omega) only [↓AM, ↓AV, AP, CQ, r0, r1, q0, q1, e_t, e_f, e_tf, e_ft]
      exact ⟨p2, p3⟩
  · simp +contextual (disch := omega) only [↓AM, ↓AV, AP, CQ, r0, r1, q0, q1, e_t, e_f, e_tf, e_ft]
    refine (c_cmp la lb (by omega) (by omega)).use ?_
    rintro _ hA wA ⟨⟨r, rfl, k1, k2, k3, k4⟩, e⟩
    subst e
    by_cases hle : y ≤ x
    · have hr : 0 ≤ r := by
        refine Classical.byContradiction fun hn => ?_
        have := k1.1 (by omega)
        omega
      simp +contextual (disch := omega) only [↓AM, ↓AV, AP, CQ, r0, r1, q0, q1, e_t, e_f, e_tf, e_ft, hr]
      refine (c_sub la lb hx hy hle).use ?_
      rintro _ h1 w1 ⟨l, fm⟩
      obtain ⟨⟨r0, r1⟩, q0, q1⟩ := rds h1 fm
      simp +contextual (disch := omega) only [↓AM, ↓AV, AP, CQ, r0, r1, q0, q1, e_t, e_f, e_tf, e_ft]
      refine (fin h1 true _ _ w1 fm l (by simp [valS] <;> omega)).use ?_
      rintro _ h2 w2 ⟨rfl, p2, p3⟩
      simp +contextual (disch := omega) only [↓AM, ↓AV, AP, CQ, r0, r1, q0, q1, e_t, e_f, e_tf, e_ft]
      exact ⟨p2, p3⟩
    · have hr : ¬ 0 ≤ r := fun q => by
        have := k1.2 (by omega)
        omega
      simp +contextual (disch := omega) only [↓AM, ↓AV, AP, CQ, r0, r1, q0, q1, e_t, e_f, e_tf, e_ft, hr]
      refine (c_sub lb la hy hx (by omega)).use ?_
      rintro _ h1 w1 ⟨l, fm⟩
      obtain ⟨⟨r0, r1⟩, q0, q1⟩ := rds h1 fm
      simp +contextual (disch := omega) only [↓AM, ↓AV, AP, CQ, r0, r1, q0, q1, e_t, e_f, e_tf, e_ft]
      refine (fin h1 false _ _ w1 fm l (by simp [valS] <;> omega)).use ?_
      rintro _ h2 w2 ⟨rfl, p2, p3⟩
      simp +contextual (disch := omega) only [↓AM, ↓AV, AP, CQ, r0, r1, q0, q1, e_t, e_f, e_tf, e_ft]
      exact ⟨p2, p3⟩
  · simp +contextual (disch := omega) only [↓AM, ↓AV, AP, CQ, r0, r1, q0, q1, e_t, e_f, e_tf, e_ft]
    refine (c_add la lb hx hy).use ?_
    rintro _ h1 w1 ⟨l, fm⟩
    obtain ⟨⟨r0, r1⟩, q0, q1⟩ := rds h1 fm
    simp +contextual (disch := omega) only [↓AM, ↓AV, AP, CQ, r0, r1, q0, q1, e_t, e_f, e_tf, e_ft]
    refine (fin h1 true _ _ w1 fm l (by simp [valS] <;> omega)).use ?_
    rintro _ h2 w2 ⟨rfl, p2, p3⟩
    simp +contextual (disch := omega) only [↓AM, ↓AV, AP, CQ, r0, r1, q0, q1, e_t, e_f, e_tf, e_ft]
    exact ⟨p2, p3⟩
theorem SgnAt.keep {h h' : Hp} {b o x : Nat} {n : Bool} (s : SgnAt h b o n x) (w : Wf h) (fm : Fm No h h') : SgnAt h' b o n x := by
  obtain ⟨cs, oa, c, h1, h2, h3, h4, h5⟩ := s
  exact ⟨cs, oa, c, fm.keep w h1 (fun f => f), h2, h3, h4, h5.rd.keepW w fm nNo, h5.le, h5.dl⟩
theorem c_SubS {h : Hp} {bx ox ba oa bb ob : Nat} {x y : Int} (xa : XAt h bx ox) (na : IntAt h ba oa x) (nb : IntAt h bb ob y) (hx : (dg x.natAbs).length ≤ 400000) (hy : (dg y.natAbs).length ≤ 400000) :
    ACalls Try.prog 51 [.pointer (some ⟨bx, ox, none⟩), .pointer (some ⟨ba, oa, none⟩), .pointer (some ⟨bb, ob, none⟩)] h fun r h' => r = .pointer (some ⟨bx, ox, none⟩) ∧ Wr (fun y => y = bx) h h' ∧ IntAt h' bx ox (x - y) := by
  refine num_Int__Sub_ok.snd hm rfl fun w => ?_
  rw [WF_eq, num_Int__Sub]
  have q0 := nb.r0
  obtain ⟨b, d, q1, lb⟩ := nb.r1
  obtain ⟨ng, hng⟩ : ∃ g, decide (¬ y < 0) = g := ⟨_, rfl⟩
  obtain ⟨hA, hhA⟩ : ∃ g, h.new ⟨[.bool ng, .slice b (dg y.natAbs).length d], .own⟩ = g := ⟨_, rfl⟩
  have wA : Wf hA := hhA ▸ w.new
  have fmA : Fm No h hA := hhA ▸ Fm.new Fm.refl
  have gA : hA.get h.size = some ⟨[.bool ng, .slice b (dg y.natAbs).length d], .own⟩ := hhA ▸ gnew
  have sb : SgnAt hA h.size 0 ng y.natAbs := ⟨_, b, d, gA, st2, rfl, rfl, lb.rd.keepW w fmA nNo, lb.le, lb.dl⟩
  have r0 : hA.rd bb ob = some (.bool (decide (y < 0))) := (nb.keep w fmA).r0
  simp +contextual (disch := omega) only [↓AM, ↓AV, AP, CQ, q0, q1, hng, hhA]
  refine (c_AddS (xa.keep w fmA) (na.sgn.keep w fmA) sb hx hy).use ?_
  rintro _ h2 w2 ⟨rfl, p2, p3⟩
  simp +contextual (disch := omega) only [↓AM, ↓AV, AP, CQ]
  have e : valS (decide (x < 0)) x.natAbs + valS ng y.natAbs = x - y := by
    rw [valS_int, ← hng]
    unfold valS
    by_cases h : y < 0
    · simp [h]; omega
    · simp [h]; omega
  rw [e] at p3
  exact ⟨(Wr.of (F := fun y => y = bx) w fmA).trans w wA p2 fun _ _ f => f, p3⟩
theorem c_setIS {h : Hp} {b o : Nat} {z : Int} (xa : XAt h b o) (hz : -9223372036854775808 ≤ z ∧ z ≤ 9223372036854775807) :
    ACalls Try.prog 108 [.pointer (some ⟨b, o, none⟩), .int .i64 z] h fun r h' => r = .pointer (some ⟨b, o, none⟩) ∧ Wr (fun y => y = b) h h' ∧ IntAt h' b o z := by
  by_cases h0 : z < 0
  · refine num_Int__SetInt64_ok.snd hm rfl fun w => ?_
    rw [WF_eq, num_Int__SetInt64]
    have e1 : IntKind.u64.wrap z = z + 18446744073709551616 := by rw [IntKind.wrap_u64]; omega
    obtain ⟨n, hn⟩ : ∃ n : Nat, -z = (n : Int) := ⟨z.natAbs, by omega⟩
    have e2 : IntKind.u64.wrap (0 - (z + 18446744073709551616)) = (n : Int) := by rw [IntKind.wrap_u64]; omega
    simp +contextual (disch := omega) only [↓AM, ↓AV, AP, CQ, h0, e1, e2]
    refine (c_magOf (v := n) (by omega)).use ?_
    rintro _ h1 w1 ⟨l, fm⟩
    simp +contextual (disch := omega) only [↓AM, ↓AV, AP, CQ]
    refine (c_setS true (xa.keep w fm) l).use ?_
    rintro _ h2 w2 ⟨rfl, wr, nn, -⟩
    simp +contextual (disch := omega) only [↓AM, ↓AV, AP, CQ]
    rw [if_pos rfl, show -(n : Int) = z by omega] at nn
    exact ⟨(Wr.of (F := fun y => y = b) w fm).trans w w1 wr fun _ _ f => f, nn⟩
  · obtain ⟨n, rfl⟩ : ∃ n : Nat, z = (n : Int) := ⟨z.natAbs, by omega⟩
    refine (c_setI xa hz.2).mono ?_
    rintro r h' ⟨h1, h2, h3⟩
    exact ⟨h1, h2, h3.int⟩
theorem c_newIS {h : Hp} {z : Int} (hz : -9223372036854775808 ≤ z ∧ z ≤ 9223372036854775807) :
    ACalls Try.prog 68 [.int .i64 z] h fun r h' => ∃ b, r = .pointer (some ⟨b, 0, none⟩) ∧ h.size ≤ b ∧ IntAt h' b 0 z ∧ Fm No h h' := by
  refine num_NewInt_ok.snd hm rfl fun w => ?_
  rw [WF_eq, num_NewInt]
  simp +contextual (disch := omega) only [↓AM, ↓AV, AP, CQ]
  refine (c_setIS (x_new (by decide)) hz).use ?_
  rintro _ h2 w2 ⟨rfl, wr, n⟩
  simp +contextual (disch := omega) only [↓AM, ↓AV, AP, CQ]
  exact ⟨_, rfl, Nat.le_refl _, n, wr_new w wr⟩
end Go.Proofs.Ytikbdeobghoglaa.Nu

/- The Big numbers of the document: digits in memory. Plain theorems over the abstract machine.
   Conditions: none. -/
namespace Go.Proofs.Ytikbdeobghoglaa.Nu
open Go Go.RowKit Go.Proofs.Ytikbdeobghoglaa.Am Go.Proofs.Ytikbdeobghoglaa.Af Go.Proofs.Ytikbdeobghoglaa.Md
set_option linter.unusedVariables false
set_option linter.unusedSimpArgs false
set_option linter.defProp false
set_option maxRecDepth 20000
set_option maxHeartbeats 1000000

abbrev B24 : Nat := 16777216
theorem b24 : 1 < B24 := by decide
def de (v : Nat) : List Nat := dig B24 b24 v
def j3 (M : List Nat) : List Value := (M.map Int.ofNat).map (Value.int .i64)
theorem j3_len (M : List Nat) : (j3 M).length = M.length := by simp [j3]
theorem j3_take (M : List Nat) (k : Nat) : (j3 M).take k = j3 (M.take k) := by simp [j3, List.map_take]
theorem j3_app (a b : List Nat) : j3 (a ++ b) = j3 a ++ j3 b := by simp [j3]
theorem _root_.Go.Proofs.Ytikbdeobghoglaa.Am.Rd.dec24 {h : Hp} {oa : Option Addr} {n : Nat} {M : List Nat} (r : Rd h 1 oa n (j3 M)) {i : Nat} (hi : i < n) :
    ∃ b off sp d, oa = some ⟨b, off, sp⟩ ∧ flagOk sp = true ∧ M[i]? = some d ∧ h.rd b (off + i) = some (.int .i64 (d : Int)) := by
  obtain ⟨b, off, sp, h1, h2, v, h3, h4⟩ := r.int hi
  rw [List.getElem?_map] at h3
  cases hm : M[i]? with
  | none => rw [hm] at h3; cases h3
  | some d => rw [hm] at h3; cases h3; exact ⟨b, off, sp, d, h1, h2, rfl, h4⟩
structure Em (h : Hp) (oa : Option Addr) (n c : Nat) (M : List Nat) : Prop where
  rd : Rd h 1 oa n (j3 M)
  le : n ≤ c
  dl : Dl B24 M
  fl : ∀ a, oa = some a → flagOk a.spot = true
  nl : oa = none → c = 0
theorem _root_.Go.Proofs.Ytikbdeobghoglaa.Am.Ow.flag {h : Hp} {z ln cap : Nat} {oa : Option Addr} {cs : List Value} (o : Ow h z oa ln cap cs) : ∀ a, oa = some a → flagOk a.spot = true := by
  rintro ad rfl
  obtain ⟨_, _, _, _, _, _, hs⟩ := o.at_ _ rfl
  rcases hs with hs | ⟨hs, _⟩ <;> rw [hs] <;> rfl
theorem Em.len {h : Hp} {oa : Option Addr} {n c : Nat} {M : List Nat} (l : Em h oa n c M) : M.length = n := by
  have := l.rd.len; rw [j3_len] at this; omega
/-- A slice that is the digits of a number. -/
def EmV (h : Hp) (v : Value) (x : Nat) : Prop := ∃ oa c, v = .slice oa (de x).length c ∧ Em h oa (de x).length c (de x)
/-- The same, in blocks of a kind. -/
def EmW (S : Nat → Prop) (h : Hp) (v : Value) (x : Nat) : Prop := ∃ oa c, v = .slice oa (de x).length c ∧ Em h oa (de x).length c (de x) ∧ ∀ z, At oa z → S z
theorem EmW.v {S : Nat → Prop} {h : Hp} {v : Value} {x : Nat} (l : EmW S h v x) : EmV h v x := by
  obtain ⟨oa, c, e, l, _⟩ := l
  exact ⟨oa, c, e, l⟩
theorem EmV.keep {h h' : Hp} {v : Value} {x : Nat} (l : EmV h v x) (w : Wf h) (fm : Fm No h h') : EmV h' v x := by
  obtain ⟨oa, c, e, l⟩ := l
  exact ⟨oa, c, e, l.rd.keepW w fm nNo, l.le, l.dl, l.fl, l.nl⟩
theorem de_dl (x : Nat) : Dl B24 (de x) := dig_dl x
theorem de_val (x : Nat) : vL B24 (de x) = x := dig_val x
theorem de_0 : de 0 = [] := dig_0
theorem de_S {x : Nat} (h : x ≠ 0) : de x = x % 16777216 :: de (x / 16777216) := dig_pos h
theorem de_len {x k : Nat} (h : x < B24 ^ k) : (de x).length ≤ k := by
  rcases Nat.lt_or_ge k (de x).length with hk | hk
  · exfalso
    have h1 := vL_ge b24 (dig_nz (hB := b24) x) (by intro e; rw [show de x = [] from e] at hk; simp at hk)
    rw [show vL B24 (dig B24 b24 x) = x from de_val x] at h1
    have h2 : B24 ^ k ≤ B24 ^ ((dig B24 b24 x).length - 1) := Nat.pow_le_pow_right (by decide) (by show k ≤ (de x).length - 1; omega)
    omega
  · exact hk
theorem nz_takeE {B : Nat} {M : List Nat} {k d : Nat} (h : M[k]? = some d) (hd : d ≠ 0) : Nz (M.take (k + 1)) := by
  unfold Nz
  rw [List.take_add_one, h]
  simp [hd]
theorem _root_.Go.Proofs.Ytikbdeobghoglaa.Am.Rd.takeE {h : Hp} {b off n cap k : Nat} {sp : Option Nat} {cs : List Value} (r : Rd h 1 (some ⟨b, off, sp⟩) n cs) (hf : flagOk sp = true) (hk : k ≤ n) (hc : n ≤ cap) :
    Rd h 1 (some (slAddr b off sp 1 0 cap true)) k (cs.take k) := by
  by_cases h0 : cap = 0
  · have hk0 : k = 0 := by omega
    have hn0 : n = 0 := by omega
    subst hk0 hn0 h0
    have e : cs = [] := List.length_eq_zero_iff.1 (by have := r.len; omega)
    subst e
    refine ⟨rfl, fun e => rfl, fun a e => ?_⟩
    rcases r.at_ _ rfl with ⟨h1, h2⟩ | ⟨h1, h2⟩
    · cases e
      cases sp with
      | none => exact .inl ⟨rfl, by simpa [slAddr] using h2⟩
      | some v =>
        cases hv : flagOk (some 0) with
        | true => exact .inl ⟨by simpa [slAddr] using hv, by simpa [slAddr] using h2⟩
        | false => exact .inr ⟨by simpa [slAddr] using hv, rfl⟩
    · rw [hf] at h1; cases h1
  · have e : slAddr b off sp 1 0 cap true = ⟨b, off, sp⟩ := by cases sp <;> simp [slAddr, h0]
    rw [e]
    exact r.take hk
/-- A Big: a sign and the digits of a size. -/
def BigV (S : Nat → Prop) (h : Hp) (v : Value) (neg : Bool) (x : Nat) : Prop := ∃ u, v = .agg #[.bool neg, u] ∧ EmW S h u x
end Go.Proofs.Ytikbdeobghoglaa.Nu

/- The Big numbers of the document: compared. Plain theorems over the abstract machine.
   Conditions: none. -/
namespace Go.Proofs.Ytikbdeobghoglaa.Nu
open Go Go.RowKit Go.Proofs.Ytikbdeobghoglaa.Am Go.Proofs.Ytikbdeobghoglaa.Af Go.Proofs.Ytikbdeobghoglaa.Md
set_option linter.unusedVariables false
set_option linter.unusedSimpArgs false
set_option linter.defProp false
set_option maxRecDepth 20000
set_option maxHeartbeats 1000000

theorem c_bdigit {h : Hp} {oa : Option Addr} {n c i : Nat} {M : List Nat} {g : Bool} (r : Rd h 1 oa n (j3 M)) (hn : n ≤ 1000000) :
    ACalls Try.prog 89 [.agg #[.bool g, .slice oa n c], .int .i64 (i : Int)] h fun v h' => v = .int .i64 ((M.getD i 0 : Nat) : Int) ∧ Fm No h h' := by
  refine dioramaref00_digit_ok.snd hm rfl fun w => ?_
  rw [WF_eq, dioramaref00_digit]
  have hl := r.len
  rw [j3_len] at hl
  have fm : ∀ o, Fm No h (h.new o) := fun o => Fm.new Fm.refl
  by_cases hi : i < n
  · obtain ⟨b1, o1, s1, d, rfl, f1, hd, r1⟩ := (r.keepW w (fm ⟨[.bool g, .slice oa n c], .own⟩) nNo).dec24 hi
    simp +contextual (disch := omega) only [↓AM, ↓AV, AP, CQ, hi, f1, r1]
    exact ⟨by rw [List.getD_eq_getElem?_getD, hd]; rfl, fm _⟩
  · simp +contextual (disch := omega) only [↓AM, ↓AV, AP, CQ, hi]
    exact ⟨by rw [List.getD_eq_getElem?_getD, List.getElem?_eq_none (by omega)]; rfl, fm _⟩
theorem c_bsize {h : Hp} {a b : Option Addr} {c d x y : Nat} {g1 g2 : Bool} (la : Em h a (de x).length c (de x)) (lb : Em h b (de y).length d (de y)) (hx : (de x).length ≤ 1000000) (hy : (de y).length ≤ 1000000) :
    ACalls Try.prog 88 [.agg #[.bool g1, .slice a (de x).length c], .agg #[.bool g2, .slice b (de y).length d]] h fun v h' => v = .int .i64 (if x < y then -1 else if x = y then 0 else 1) ∧ Fm No h h' := by
  refine dioramaref00_size_ok.snd hm rfl fun w => ?_
  rw [WF_eq, dioramaref00_size]
  obtain ⟨hA, hhA⟩ : ∃ g, h.new ⟨[.bool g1, .slice a (de x).length c], .own⟩ = g := ⟨_, rfl⟩
  obtain ⟨hB, hhB⟩ : ∃ g, hA.new ⟨[.bool g2, .slice b (de y).length d], .own⟩ = g := ⟨_, rfl⟩
  have wA : Wf hA := hhA ▸ w.new
  have wB : Wf hB := hhB ▸ wA.new
  have fmA : Fm No h hA := hhA ▸ Fm.new Fm.refl
  have fmB : Fm No hA hB := hhB ▸ Fm.new Fm.refl
  have gA : hA.get h.size = some ⟨[.bool g1, .slice a (de x).length c], .own⟩ := hhA ▸ gnew
  have gB : hB.get hA.size = some ⟨[.bool g2, .slice b (de y).length d], .own⟩ := hhB ▸ gnew
  have gA := fmB.keep wA gA (fun f => f)
  have fm := fmA.trans fmB fun _ _ f => f
  have v0 : hB.rd h.size 1 = some (.slice a (de x).length c) := rd_mk gA
  have v1 : hB.rd hA.size 1 = some (.slice b (de y).length d) := rd_mk gB
  have ll : (de x).length < (de y).length → x < y := fun hlt => by
    have := len_lt b24 (de_dl x) (dig_nz (hB := b24) y) hlt
    rwa [de_val, show vL B24 (dig B24 b24 y) = y from de_val y] at this
  have lr : (de y).length < (de x).length → y < x := fun hlt => by
    have := len_lt b24 (de_dl y) (dig_nz (hB := b24) x) hlt
    rwa [de_val, show vL B24 (dig B24 b24 x) = x from de_val x] at this
  by_cases hne : ((de x).length : Int) = ((de y).length : Int)
  case neg =>
    have e0 : EqI ((de x).length : Int) ((de y).length : Int) = False := eq_false hne
    by_cases hlt : (de x).length < (de y).length
    · have := ll hlt
      simp +contextual (disch := omega) only [↓AM, ↓AV, AP, CQ, i64, hhA, hhB, v0, v1, e0, hlt, this]
      exact fm
    · have := lr (by omega)
      have n1 : ¬ x < y := by omega
      have n2 : ¬ x = y := by omega
      simp +contextual (disch := omega) only [↓AM, ↓AV, AP, CQ, i64, hhA, hhB, v0, v1, e0, hlt, n1, n2]
      exact fm
  have hl : (de x).length = (de y).length := by omega
  have e0 : EqI ((de x).length : Int) ((de y).length : Int) = True := eq_true hne
  simp +contextual (disch := omega) only [↓AM, ↓AV, AP, CQ, i64, hhA, hhB, v0, v1, e0]
  refine WL.mk (fun k t h' => h' = hB ∧ k ≤ (de x).length ∧ (de x).drop k = (de y).drop k ∧ t = [(2, some (.pointer (some ⟨h.size, 0, none⟩))), (3, some (.pointer (some ⟨hA.size, 0, none⟩))), (5, some (.int .i64 ((k : Int) - 1)))]) ⟨(de x).length, rfl, Nat.le_refl _, by rw [List.drop_eq_nil_of_le (Nat.le_refl _), List.drop_eq_nil_of_le (by omega)], rfl⟩ ?_
  rintro k t _ ⟨rfl, hk, heq, rfl⟩
  cases k with
  | zero =>
    have e1 : ((0 : Int) ≤ ((0 : Nat) : Int) - 1) = False := by simp
    simp +contextual (disch := omega) only [↓AM, ↓AV, AP, CQ, i64, hhA, hhB, v0, v1, e1]
    have : x = y := by
      have : de x = de y := heq
      rw [← de_val x, this, de_val]
    exact ⟨by simp [this], fm⟩
  | succ k =>
    obtain ⟨b1, o1, s1, p, rfl, f1, hp, r1⟩ := (la.rd.keepW w fm nNo).dec24 (i := k) (by omega)
    obtain ⟨b2, o2, s2, q, rfl, f2, hq, r2⟩ := (lb.rd.keepW w fm nNo).dec24 (i := k) (by omega)
    have hk1 : k < (de x).length := by omega
    have hk2 : k < (de y).length := by omega
    have gp : (de x).getD k 0 = p := by rw [List.getD_eq_getElem?_getD, hp]; rfl
    have gq : (de y).getD k 0 = q := by rw [List.getD_eq_getElem?_getD, hq]; rfl
    by_cases h2 : p < q
    · have := cmp_top b24 (de_dl x) (de_dl y) hk1 hl heq (by omega)
      rw [de_val, de_val] at this
      simp +contextual (disch := omega) only [↓AM, ↓AV, AP, CQ, i64, hhA, hhB, v0, v1, f1, f2, r1, r2, hk1, hk2, h2, this]
      exact fm
    · by_cases h3 : q < p
      · have := cmp_top b24 (de_dl y) (de_dl x) hk2 hl.symm heq.symm (by omega)
        rw [de_val, de_val] at this
        have n1 : ¬ x < y := by omega
        have n2 : ¬ x = y := by omega
        simp +contextual (disch := omega) only [↓AM, ↓AV, AP, CQ, i64, hhA, hhB, v0, v1, f1, f2, r1, r2, hk1, hk2, h2, h3, n1, n2]
        exact fm
      · have h1 : p = q := by omega
        subst h1
        simp +contextual (disch := omega) only [↓AM, ↓AV, AP, CQ, i64, hhA, hhB, v0, v1, f1, f2, r1, r2, hk1, hk2, h2, h3]
        refine ⟨k, by omega, by omega, ?_, rfl⟩
        rw [List.getElem?_eq_getElem hk1] at hp
        rw [List.getElem?_eq_getElem hk2] at hq
        rw [List.drop_eq_getElem_cons hk1, List.drop_eq_getElem_cons hk2, heq, Option.some.inj hp, Option.some.inj hq]
end Go.Proofs.Ytikbdeobghoglaa.Nu

/- The Big numbers of the document: trimmed. Plain theorems over the abstract machine.
   Conditions: none. -/
namespace Go.Proofs.Ytikbdeobghoglaa.Nu
open Go Go.RowKit Go.Proofs.Ytikbdeobghoglaa.Am Go.Proofs.Ytikbdeobghoglaa.Af Go.Proofs.Ytikbdeobghoglaa.Md
set_option linter.unusedVariables false
set_option linter.unusedSimpArgs false
set_option linter.defProp false
set_option maxRecDepth 20000
set_option maxHeartbeats 1000000

theorem c_btrim {h : Hp} {oa : Option Addr} {n c : Nat} {M : List Nat} {g : Bool} (l : Em h oa n c M) (hn : n ≤ 1000000) (hf : ∀ a, oa = some a → flagOk a.spot = true) (hnil : oa = none → c = 0) :
    ACalls Try.prog 90 [.agg #[.bool g, .slice oa n c]] h fun v h' => BigV (fun z => h.size ≤ z) h' v (g && decide (0 < vL B24 M)) (vL B24 M) ∧ Fm No h h' := by
  refine dioramaref00_trim_ok.snd hm rfl fun w => ?_
  rw [WF_eq, dioramaref00_trim]
  obtain ⟨hA, hhA⟩ : ∃ z, h.new ⟨[.bool g, .slice oa n c], .own⟩ = z := ⟨_, rfl⟩
  obtain ⟨hB, hhB⟩ : ∃ z, hA.new ⟨[.bool false, .slice none 0 0], .own⟩ = z := ⟨_, rfl⟩
  have wA : Wf hA := hhA ▸ w.new
  have wB : Wf hB := hhB ▸ wA.new
  have fmA : Fm No h hA := hhA ▸ Fm.new Fm.refl
  have fmB : Fm No hA hB := hhB ▸ Fm.new Fm.refl
  have sA : hA.size = h.size + 1 := by rw [← hhA]; rfl
  have sB : hB.size = h.size + 2 := by rw [← hhB, size_new, sA]
  have gA : hA.get h.size = some ⟨[.bool g, .slice oa n c], .own⟩ := hhA ▸ gnew
  have gB : hB.get hA.size = some ⟨[.bool false, .slice none 0 0], .own⟩ := hhB ▸ gnew
  have gA := fmB.keep wA gA (fun f => f)
  have fm := fmA.trans fmB fun _ _ f => f
  have v0 : hB.rd h.size 0 = some (.bool g) := rd_mk gA
  have v1 : hB.rd h.size 1 = some (.slice oa n c) := rd_mk gA
  have lB : Rd hB 1 oa n (j3 M) := l.rd.keepW w fm nNo
  have hml := l.len
  simp +contextual (disch := omega) only [↓AM, ↓AV, AP, CQ, i64, hhA, hhB, v0, v1]
  refine WL.mk (fun k t h' => h' = hB ∧ k ≤ n ∧ vL B24 (M.take k) = vL B24 M ∧ t = [(1, some (.pointer (some ⟨h.size, 0, none⟩))), (2, some (.pointer (some ⟨hA.size, 0, none⟩))), (3, some (.int .i64 (k : Int)))]) ⟨n, rfl, Nat.le_refl _, by rw [List.take_of_length_le (by omega)], rfl⟩ ?_
  rintro k t hX ⟨e, hk, hv, rfl⟩
  subst e
  have hc := l.le
  have uq : Nz (M.take k) → M.take k = de (vL B24 M) := fun hz => by
    rw [← hv]; exact dig_uniq b24 (l.dl.take k) hz
  have hvk : decide (0 < vL B24 M) = decide (0 < k) ∨ ¬ Nz (M.take k) := by
    rcases Classical.em (Nz (M.take k)) with hz | hz
    · left
      have := uq hz
      have hlen : (de (vL B24 M)).length = k := by rw [← this]; simp; omega
      congr 1
      apply propext
      constructor
      · intro h
        rw [← hlen]
        exact List.length_pos_iff.2 fun e => by rw [show de (vL B24 M) = [] from e] at hlen; have e2 : dig B24 b24 (vL B24 M) = [] := e; rw [dig_nil] at e2; omega
      · intro h
        refine Nat.pos_of_ne_zero fun e => ?_
        rw [e, de_0] at hlen
        simp at hlen
        omega
    · exact .inr hz
  have nNo' : ∀ x, x < hX.size → ¬ No x := fun _ _ f => f
  have fin : ∀ (gg : Bool) (kk : Nat) (oa' : Option Addr) (cap' : Nat) (hC h2 hD hE : Hp), Wf hC → Fm No h h2 → h.size ≤ hX.size → h.size ≤ hA.size → hC.size ≤ h2.size → Ow h2 1 oa' kk cap' ([] ++ j3 (M.take kk)) → (∀ x, At oa' x → hX.size < x) →
      h2.put hX.size ⟨[.bool gg, .slice oa' kk cap'], .own⟩ = hD → hD.put hA.size ⟨[.bool gg, .slice oa' kk cap'], .own⟩ = hE → (M.take kk = de (vL B24 M) ∧ gg = (g && decide (0 < vL B24 M)) ∧ kk ≤ M.length) →
      BigV (fun z => h.size ≤ z) hE (.agg #[.bool gg, .slice oa' kk cap']) (g && decide (0 < vL B24 M)) (vL B24 M) ∧ Fm No h hE := by
    intro gg kk oa' cap' hC h2 hD hE wC fm2 sX sA' hs o2 at2 hhD hhE ⟨e1, e2, e3⟩
    have fD : Fm (fun x => x = hX.size ∨ x = hA.size) h2 hE := by
      rw [← hhE, ← hhD]
      exact (Fm.put Fm.refl fun _ => .inl rfl).put fun _ => .inr rfl
    have fmE : Fm No h hE := fm2.trans fD fun x hx f => by rcases f with f | f <;> omega
    have hl : (de (vL B24 M)).length = kk := by rw [← e1]; simp; omega
    refine ⟨⟨.slice oa' kk cap', by rw [e2], oa', cap', by rw [hl], ⟨?_, ?_, de_dl _, o2.flag, o2.nil⟩, fun z hz => ?_⟩, fmE⟩
    · rw [hl, ← e1]
      have o3 : Ow hE 1 oa' kk cap' ([] ++ j3 (M.take kk)) := by
        refine ⟨o2.len, o2.le, o2.nil, fun a ha => ?_⟩
        obtain ⟨p1, ob, p2, p3⟩ := o2.at_ a ha
        have := at2 _ ⟨a, ha, rfl⟩
        refine ⟨p1, ob, ?_, p3⟩
        rw [← hhE, get_put (by omega), ← hhD, get_put (by omega), p2]
      exact o3.rd
    · rw [hl]; exact o2.le
    · have := at2 z hz; omega
  cases g
  · cases k with
    | zero =>
      have e0 : ((0 : Int) < ((0 : Nat) : Int)) = False := by simp
      have h0 := uq (by simp [Nz])
      have ev : vL B24 M = 0 := by rw [← hv]; rfl
      rcases oa with _ | ⟨b, o, s⟩
      · have := l.rd.nil rfl
        subst this
        have := hnil rfl
        subst this
        have rX : Rd hX 1 none 0 (j3 (M.take 0)) := Rd.mk0
        obtain ⟨hC, hhC⟩ : ∃ z, hX.new ⟨[.bool false, .slice none 0 0], .own⟩ = z := ⟨_, rfl⟩
        have wC : Wf hC := hhC ▸ wB.new
        have fmC : Fm No hX hC := hhC ▸ Fm.new Fm.refl
        have gC : hC.get hX.size = some ⟨[.bool false, .slice none 0 0], .own⟩ := hhC ▸ gnew
        have u2 : hC.rd hX.size 1 = some (.slice none 0 0) := rd_mk gC
        have u1 : hC.rd h.size 1 = some (.slice none 0 0) := rd_mk (fmC.keep wB gA (fun f => f))
        have gC2 : hC.get hA.size = some ⟨[.bool false, .slice none 0 0], .own⟩ := fmC.keep wB gB (fun f => f)
        have hCC : (hX.new ⟨[.bool false, .slice none 0 0], .own⟩).put hX.size ⟨[.bool false, .slice none 0 0], .own⟩ = hC := by rw [new_put, hhC]
        have hsrc := ((rX.keepW wB fmC nNo).src (c := 0))
        have sC : hC.size = h.size + 3 := by rw [← hhC, size_new, sB]
        have tk : ((0 : Nat) : Int).toNat - 0 = 0 := rfl
        have ck : 0 - 0 = 0 := rfl
        have mk : (M.take 0).length = 0 := by rw [List.length_take]; omega
        simp +contextual (disch := omega) only [↓AM, ↓AV, AP, CQ, i64, hhA, hhB, v0, v1, hhC, u1, gC, u2, gC2, bnds, Option.isNone, hsrc, tk, ck, e0]
        refine ⟨by omega, ?_⟩
        refine Ow.add (m := 0) wC Ow.mk0 (by rw [j3_len, Nat.mul_one]; exact mk) (by omega) fun oa' cap' h2 o2 w2 f2 n2 => ?_
        have f2' : Fm No hC h2 := f2.mono fun x _ h => absurd h At.none
        have n2' : ∀ x, At oa' x → hC.size ≤ x := fun x hx => (n2 x hx).elim (fun h => absurd h At.none) id
        rw [Nat.zero_add] at o2 ⊢
        have x1 : h2.rd hX.size 1 = some (.slice none 0 0) := rd_mk (f2'.keep wC gC (fun f => f))
        have x2 : h2.rd h.size 1 = some (.slice none 0 0) := (rd_keep (f2'.get _ (by omega) (fun f => f))).trans u1
        have x3 : h2.get hX.size = some ⟨[.bool false, .slice none 0 0], .own⟩ := f2'.keep wC gC (fun f => f)
        have x4 : h2.get hA.size = some ⟨[.bool false, .slice none 0 0], .own⟩ := f2'.keep wC gC2 (fun f => f)
        obtain ⟨hD, hhD⟩ : ∃ z, h2.put hX.size ⟨[.bool false, .slice oa' 0 cap'], .own⟩ = z := ⟨_, rfl⟩
        have gD : hD.get hX.size = some ⟨[.bool false, .slice oa' 0 cap'], .own⟩ := hhD ▸ gput
        have gDA : hD.get hA.size = some ⟨[.bool false, .slice none 0 0], .own⟩ := hhD ▸ (get_put (by omega)).trans x4
        have y1 : hD.rdN hX.size 0 2 = some [.bool false, .slice oa' 0 cap'] := rdN_mk gD (by simp)
        obtain ⟨hE, hhE⟩ : ∃ z, hD.put hA.size ⟨[.bool false, .slice oa' 0 cap'], .own⟩ = z := ⟨_, rfl⟩
        have y2 : hE.rdN hA.size 0 2 = some [.bool false, .slice oa' 0 cap'] := by rw [← hhE]; exact rdN_mk gput (by simp)
        have fE : Fm No h2 hE ∨ True := .inr trivial
        simp +contextual (disch := omega) only [↓AM, ↓AV, AP, CQ, i64, x1, x2, x3, x4, hhD, gDA, y1, hhE, y2]
        exact fin false 0 oa' cap' hC h2 hD hE wC ((fm.trans fmC fun _ _ f => f).trans f2' fun _ _ f => f) (by omega) (by omega) (f2'.size) o2 (fun x hx => by have := n2' x hx; omega) hhD hhE ⟨h0, by rw [ev]; rfl, Nat.zero_le _⟩
      · have hs := hf _ rfl
        have hcap : capOk s n c := by cases s <;> simp [capOk]; omega
        have rX : Rd hX 1 (some (slAddr b o s 1 0 c true)) 0 (j3 (M.take 0)) := by rw [← j3_take]; exact lB.takeE hs (Nat.zero_le _) hc
        obtain ⟨hC, hhC⟩ : ∃ z, hX.new ⟨[.bool false, .slice none 0 0], .own⟩ = z := ⟨_, rfl⟩
        have wC : Wf hC := hhC ▸ wB.new
        have fmC : Fm No hX hC := hhC ▸ Fm.new Fm.refl
        have gC : hC.get hX.size = some ⟨[.bool false, .slice none 0 0], .own⟩ := hhC ▸ gnew
        have u2 : hC.rd hX.size 1 = some (.slice none 0 0) := rd_mk gC
        have u1 : hC.rd h.size 1 = some (.slice (some ⟨b, o, s⟩) n c) := rd_mk (fmC.keep wB gA (fun f => f))
        have gC2 : hC.get hA.size = some ⟨[.bool false, .slice none 0 0], .own⟩ := fmC.keep wB gB (fun f => f)
        have hCC : (hX.new ⟨[.bool false, .slice none 0 0], .own⟩).put hX.size ⟨[.bool false, .slice none 0 0], .own⟩ = hC := by rw [new_put, hhC]
        have hsrc := ((rX.keepW wB fmC nNo).src (c := c))
        have sC : hC.size = h.size + 3 := by rw [← hhC, size_new, sB]
        have tk : ((0 : Nat) : Int).toNat - 0 = 0 := rfl
        have ck : c - 0 = c := rfl
        have mk : (M.take 0).length = 0 := by rw [List.length_take]; omega
        simp +contextual (disch := omega) only [↓AM, ↓AV, AP, CQ, i64, hhA, hhB, v0, v1, hhC, u1, gC, u2, gC2, bnds, Option.isNone, hsrc, tk, ck, e0, hcap, hs]
        refine ⟨by omega, ?_⟩
        refine Ow.add (m := 0) wC Ow.mk0 (by rw [j3_len, Nat.mul_one]; exact mk) (by omega) fun oa' cap' h2 o2 w2 f2 n2 => ?_
        have f2' : Fm No hC h2 := f2.mono fun x _ h => absurd h At.none
        have n2' : ∀ x, At oa' x → hC.size ≤ x := fun x hx => (n2 x hx).elim (fun h => absurd h At.none) id
        rw [Nat.zero_add] at o2 ⊢
        have x1 : h2.rd hX.size 1 = some (.slice none 0 0) := rd_mk (f2'.keep wC gC (fun f => f))
        have x2 : h2.rd h.size 1 = some (.slice (some ⟨b, o, s⟩) n c) := (rd_keep (f2'.get _ (by omega) (fun f => f))).trans u1
        have x3 : h2.get hX.size = some ⟨[.bool false, .slice none 0 0], .own⟩ := f2'.keep wC gC (fun f => f)
        have x4 : h2.get hA.size = some ⟨[.bool false, .slice none 0 0], .own⟩ := f2'.keep wC gC2 (fun f => f)
        obtain ⟨hD, hhD⟩ : ∃ z, h2.put hX.size ⟨[.bool false, .slice oa' 0 cap'], .own⟩ = z := ⟨_, rfl⟩
        have gD : hD.get hX.size = some ⟨[.bool false, .slice oa' 0 cap'], .own⟩ := hhD ▸ gput
        have gDA : hD.get hA.size = some ⟨[.bool false, .slice none 0 0], .own⟩ := hhD ▸ (get_put (by omega)).trans x4
        have y1 : hD.rdN hX.size 0 2 = some [.bool false, .slice oa' 0 cap'] := rdN_mk gD (by simp)
        obtain ⟨hE, hhE⟩ : ∃ z, hD.put hA.size ⟨[.bool false, .slice oa' 0 cap'], .own⟩ = z := ⟨_, rfl⟩
        have y2 : hE.rdN hA.size 0 2 = some [.bool false, .slice oa' 0 cap'] := by rw [← hhE]; exact rdN_mk gput (by simp)
        have fE : Fm No h2 hE ∨ True := .inr trivial
        simp +contextual (disch := omega) only [↓AM, ↓AV, AP, CQ, i64, x1, x2, x3, x4, hhD, gDA, y1, hhE, y2]
        exact fin false 0 oa' cap' hC h2 hD hE wC ((fm.trans fmC fun _ _ f => f).trans f2' fun _ _ f => f) (by omega) (by omega) (f2'.size) o2 (fun x hx => by have := n2' x hx; omega) hhD hhE ⟨h0, by rw [ev]; rfl, Nat.zero_le _⟩
    | succ k =>
      obtain ⟨b, o, s, d, rfl, f1, hd, r1⟩ := lB.dec24 (i := k) (by omega)
      have hs := f1
      have e0 : ((0 : Int) < (((k + 1 : Nat)) : Int)) = True := by simp
      have lt := l.dl.at hd
      have kk : k < n := by omega
      by_cases hz : d = 0
      · subst hz
        have e1 : EqI ((0 : Nat) : Int) 0 = True := eqI_self
        simp +contextual (disch := omega) only [↓AM, ↓AV, AP, CQ, e0, i64, v0, v1, f1, r1, e1, kk]
        refine ⟨k, by omega, by omega, ?_, rfl⟩
        rw [← hv, List.take_add_one, hd]
        exact vL_init.symm
      · have e1 : EqI (d : Int) 0 = False := eq_false (by unfold EqI; omega)
        have h0 := uq (nz_takeE (B := B24) hd hz)
        have hcap : capOk s n c := by cases s <;> simp [capOk]; omega
        have hp : 0 < vL B24 M := by
          refine Nat.pos_of_ne_zero fun e => ?_
          rw [e, de_0] at h0
          have := congrArg List.length h0
          rw [List.length_take, List.length_nil] at this
          omega
        have rX : Rd hX 1 (some (slAddr b o s 1 0 c true)) (k + 1) (j3 (M.take (k + 1))) := by rw [← j3_take]; exact lB.takeE hs (by omega) hc
        obtain ⟨hC, hhC⟩ : ∃ z, hX.new ⟨[.bool false, .slice none 0 0], .own⟩ = z := ⟨_, rfl⟩
        have wC : Wf hC := hhC ▸ wB.new
        have fmC : Fm No hX hC := hhC ▸ Fm.new Fm.refl
        have gC : hC.get hX.size = some ⟨[.bool false, .slice none 0 0], .own⟩ := hhC ▸ gnew
        have u2 : hC.rd hX.size 1 = some (.slice none 0 0) := rd_mk gC
        have u1 : hC.rd h.size 1 = some (.slice (some ⟨b, o, s⟩) n c) := rd_mk (fmC.keep wB gA (fun f => f))
        have gC2 : hC.get hA.size = some ⟨[.bool false, .slice none 0 0], .own⟩ := fmC.keep wB gB (fun f => f)
        have hCC : (hX.new ⟨[.bool false, .slice none 0 0], .own⟩).put hX.size ⟨[.bool false, .slice none 0 0], .own⟩ = hC := by rw [new_put, hhC]
        have hsrc := ((rX.keepW wB fmC nNo).src (c := c))
        have sC : hC.size = h.size + 3 := by rw [← hhC, size_new, sB]
        have tk : (((k + 1) : Nat) : Int).toNat - 0 = (k + 1) := rfl
        have ck : c - 0 = c := rfl
        have mk : (M.take (k + 1)).length = (k + 1) := by rw [List.length_take]; omega
        simp +contextual (disch := omega) only [↓AM, ↓AV, AP, CQ, i64, hhA, hhB, v0, v1, hhC, u1, gC, u2, gC2, bnds, Option.isNone, hsrc, tk, ck, e0, e1, kk, f1, r1, hcap, hs]
        refine ⟨by omega, ?_⟩
        refine Ow.add (m := (k + 1)) wC Ow.mk0 (by rw [j3_len, Nat.mul_one]; exact mk) (by omega) fun oa' cap' h2 o2 w2 f2 n2 => ?_
        have f2' : Fm No hC h2 := f2.mono fun x _ h => absurd h At.none
        have n2' : ∀ x, At oa' x → hC.size ≤ x := fun x hx => (n2 x hx).elim (fun h => absurd h At.none) id
        rw [Nat.zero_add] at o2 ⊢
        have x1 : h2.rd hX.size 1 = some (.slice none 0 0) := rd_mk (f2'.keep wC gC (fun f => f))
        have x2 : h2.rd h.size 1 = some (.slice (some ⟨b, o, s⟩) n c) := (rd_keep (f2'.get _ (by omega) (fun f => f))).trans u1
        have x3 : h2.get hX.size = some ⟨[.bool false, .slice none 0 0], .own⟩ := f2'.keep wC gC (fun f => f)
        have x4 : h2.get hA.size = some ⟨[.bool false, .slice none 0 0], .own⟩ := f2'.keep wC gC2 (fun f => f)
        obtain ⟨hD, hhD⟩ : ∃ z, h2.put hX.size ⟨[.bool false, .slice oa' (k + 1) cap'], .own⟩ = z := ⟨_, rfl⟩
        have gD : hD.get hX.size = some ⟨[.bool false, .slice oa' (k + 1) cap'], .own⟩ := hhD ▸ gput
        have gDA : hD.get hA.size = some ⟨[.bool false, .slice none 0 0], .own⟩ := hhD ▸ (get_put (by omega)).trans x4
        have y1 : hD.rdN hX.size 0 2 = some [.bool false, .slice oa' (k + 1) cap'] := rdN_mk gD (by simp)
        obtain ⟨hE, hhE⟩ : ∃ z, hD.put hA.size ⟨[.bool false, .slice oa' (k + 1) cap'], .own⟩ = z := ⟨_, rfl⟩
        have y2 : hE.rdN hA.size 0 2 = some [.bool false, .slice oa' (k + 1) cap'] := by rw [← hhE]; exact rdN_mk gput (by simp)
        have fE : Fm No h2 hE ∨ True := .inr trivial
        simp +contextual (disch := omega) only [↓AM, ↓AV, AP, CQ, i64, x1, x2, x3, x4, hhD, gDA, y1, hhE, y2]
        exact fin false (k + 1) oa' cap' hC h2 hD hE wC ((fm.trans fmC fun _ _ f => f).trans f2' fun _ _ f => f) (by omega) (by omega) (f2'.size) o2 (fun x hx => by have := n2' x hx; omega) hhD hhE ⟨h0, rfl, by omega⟩
  · cases k with
    | zero =>
      have e0 : ((0 : Int) < ((0 : Nat) : Int)) = False := by simp
      have h0 := uq (by simp [Nz])
      have ev : vL B24 M = 0 := by rw [← hv]; rfl
      rcases oa with _ | ⟨b, o, s⟩
      · have := l.rd.nil rfl
        subst this
        have := hnil rfl
        subst this
        have rX : Rd hX 1 none 0 (j3 (M.take 0)) := Rd.mk0
        obtain ⟨hC, hhC⟩ : ∃ z, hX.new ⟨[.bool false, .slice none 0 0], .own⟩ = z := ⟨_, rfl⟩
        have wC : Wf hC := hhC ▸ wB.new
        have fmC : Fm No hX hC := hhC ▸ Fm.new Fm.refl
        have gC : hC.get hX.size = some ⟨[.bool false, .slice none 0 0], .own⟩ := hhC ▸ gnew
        have u2 : hC.rd hX.size 1 = some (.slice none 0 0) := rd_mk gC
        have u1 : hC.rd h.size 1 = some (.slice none 0 0) := rd_mk (fmC.keep wB gA (fun f => f))
        have gC2 : hC.get hA.size = some ⟨[.bool false, .slice none 0 0], .own⟩ := fmC.keep wB gB (fun f => f)
        have hCC : (hX.new ⟨[.bool false, .slice none 0 0], .own⟩).put hX.size ⟨[.bool false, .slice none 0 0], .own⟩ = hC := by rw [new_put, hhC]
        have hsrc := ((rX.keepW wB fmC nNo).src (c := 0))
        have sC : hC.size = h.size + 3 := by rw [← hhC, size_new, sB]
        have tk : ((0 : Nat) : Int).toNat - 0 = 0 := rfl
        have ck : 0 - 0 = 0 := rfl
        have mk : (M.take 0).length = 0 := by rw [List.length_take]; omega
        simp +contextual (disch := omega) only [↓AM, ↓AV, AP, CQ, i64, hhA, hhB, v0, v1, hhC, u1, gC, u2, gC2, bnds, Option.isNone, hsrc, tk, ck, e0]
        refine ⟨by omega, ?_⟩
        refine Ow.add (m := 0) wC Ow.mk0 (by rw [j3_len, Nat.mul_one]; exact mk) (by omega) fun oa' cap' h2 o2 w2 f2 n2 => ?_
        have f2' : Fm No hC h2 := f2.mono fun x _ h => absurd h At.none
        have n2' : ∀ x, At oa' x → hC.size ≤ x := fun x hx => (n2 x hx).elim (fun h => absurd h At.none) id
        rw [Nat.zero_add] at o2 ⊢
        have x1 : h2.rd hX.size 1 = some (.slice none 0 0) := rd_mk (f2'.keep wC gC (fun f => f))
        have x2 : h2.rd h.size 1 = some (.slice none 0 0) := (rd_keep (f2'.get _ (by omega) (fun f => f))).trans u1
        have x3 : h2.get hX.size = some ⟨[.bool false, .slice none 0 0], .own⟩ := f2'.keep wC gC (fun f => f)
        have x4 : h2.get hA.size = some ⟨[.bool false, .slice none 0 0], .own⟩ := f2'.keep wC gC2 (fun f => f)
        obtain ⟨hD, hhD⟩ : ∃ z, h2.put hX.size ⟨[.bool false, .slice oa' 0 cap'], .own⟩ = z := ⟨_, rfl⟩
        have gD : hD.get hX.size = some ⟨[.bool false, .slice oa' 0 cap'], .own⟩ := hhD ▸ gput
        have gDA : hD.get hA.size = some ⟨[.bool false, .slice none 0 0], .own⟩ := hhD ▸ (get_put (by omega)).trans x4
        have y1 : hD.rdN hX.size 0 2 = some [.bool false, .slice oa' 0 cap'] := rdN_mk gD (by simp)
        obtain ⟨hE, hhE⟩ : ∃ z, hD.put hA.size ⟨[.bool false, .slice oa' 0 cap'], .own⟩ = z := ⟨_, rfl⟩
        have y2 : hE.rdN hA.size 0 2 = some [.bool false, .slice oa' 0 cap'] := by rw [← hhE]; exact rdN_mk gput (by simp)
        have fE : Fm No h2 hE ∨ True := .inr trivial
        simp +contextual (disch := omega) only [↓AM, ↓AV, AP, CQ, i64, x1, x2, x3, x4, hhD, gDA, y1, hhE, y2]
        exact fin false 0 oa' cap' hC h2 hD hE wC ((fm.trans fmC fun _ _ f => f).trans f2' fun _ _ f => f) (by omega) (by omega) (f2'.size) o2 (fun x hx => by have := n2' x hx; omega) hhD hhE ⟨h0, by rw [ev]; rfl, Nat.zero_le _⟩
      · have hs := hf _ rfl
        have hcap : capOk s n c := by cases s <;> simp [capOk]; omega
        have rX : Rd hX 1 (some (slAddr b o s 1 0 c true)) 0 (j3 (M.take 0)) := by rw [← j3_take]; exact lB.takeE hs (Nat.zero_le _) hc
        obtain ⟨hC, hhC⟩ : ∃ z, hX.new ⟨[.bool false, .slice none 0 0], .own⟩ = z := ⟨_, rfl⟩
        have wC : Wf hC := hhC ▸ wB.new
        have fmC : Fm No hX hC := hhC ▸ Fm.new Fm.refl
        have gC : hC.get hX.size = some ⟨[.bool false, .slice none 0 0], .own⟩ := hhC ▸ gnew
        have u2 : hC.rd hX.size 1 = some (.slice none 0 0) := rd_mk gC
        have u1 : hC.rd h.size 1 = some (.slice (some ⟨b, o, s⟩) n c) := rd_mk (fmC.keep wB gA (fun f => f))
        have gC2 : hC.get hA.size = some ⟨[.bool false, .slice none 0 0], .own⟩ := fmC.keep wB gB (fun f => f)
        have hCC : (hX.new ⟨[.bool false, .slice none 0 0], .own⟩).put hX.size ⟨[.bool false, .slice none 0 0], .own⟩ = hC := by rw [new_put, hhC]
        have hsrc := ((rX.keepW wB fmC nNo).src (c := c))
        have sC : hC.size = h.size + 3 := by rw [← hhC, size_new, sB]
        have tk : ((0 : Nat) : Int).toNat - 0 = 0 := rfl
        have ck : c - 0 = c := rfl
        have mk : (M.take 0).length = 0 := by rw [List.length_take]; omega
        simp +contextual (disch := omega) only [↓AM, ↓AV, AP, CQ, i64, hhA, hhB, v0, v1, hhC, u1, gC, u2, gC2, bnds, Option.isNone, hsrc, tk, ck, e0, hcap, hs]
        refine ⟨by omega, ?_⟩
        refine Ow.add (m := 0) wC Ow.mk0 (by rw [j3_len, Nat.mul_one]; exact mk) (by omega) fun oa' cap' h2 o2 w2 f2 n2 => ?_
        have f2' : Fm No hC h2 := f2.mono fun x _ h => absurd h At.none
        have n2' : ∀ x, At oa' x → hC.size ≤ x := fun x hx => (n2 x hx).elim (fun h => absurd h At.none) id
        rw [Nat.zero_add] at o2 ⊢
        have x1 : h2.rd hX.size 1 = some (.slice none 0 0) := rd_mk (f2'.keep wC gC (fun f => f))
        have x2 : h2.rd h.size 1 = some (.slice (some ⟨b, o, s⟩) n c) := (rd_keep (f2'.get _ (by omega) (fun f => f))).trans u1
        have x3 : h2.get hX.size = some ⟨[.bool false, .slice none 0 0], .own⟩ := f2'.keep wC gC (fun f => f)
        have x4 : h2.get hA.size = some ⟨[.bool false, .slice none 0 0], .own⟩ := f2'.keep wC gC2 (fun f => f)
        obtain ⟨hD, hhD⟩ : ∃ z, h2.put hX.size ⟨[.bool false, .slice oa' 0 cap'], .own⟩ = z := ⟨_, rfl⟩
        have gD : hD.get hX.size = some ⟨[.bool false, .slice oa' 0 cap'], .own⟩ := hhD ▸ gput
        have gDA : hD.get hA.size = some ⟨[.bool false, .slice none 0 0], .own⟩ := hhD ▸ (get_put (by omega)).trans x4
        have y1 : hD.rdN hX.size 0 2 = some [.bool false, .slice oa' 0 cap'] := rdN_mk gD (by simp)
        obtain ⟨hE, hhE⟩ : ∃ z, hD.put hA.size ⟨[.bool false, .slice oa' 0 cap'], .own⟩ = z := ⟨_, rfl⟩
        have y2 : hE.rdN hA.size 0 2 = some [.bool false, .slice oa' 0 cap'] := by rw [← hhE]; exact rdN_mk gput (by simp)
        have fE : Fm No h2 hE ∨ True := .inr trivial
        simp +contextual (disch := omega) only [↓AM, ↓AV, AP, CQ, i64, x1, x2, x3, x4, hhD, gDA, y1, hhE, y2]
        exact fin false 0 oa' cap' hC h2 hD hE wC ((fm.trans fmC fun _ _ f => f).trans f2' fun _ _ f => f) (by omega) (by omega) (f2'.size) o2 (fun x hx => by have := n2' x hx; omega) hhD hhE ⟨h0, by rw [ev]; rfl, Nat.zero_le _⟩
    | succ k =>
      obtain ⟨b, o, s, d, rfl, f1, hd, r1⟩ := lB.dec24 (i := k) (by omega)
      have hs := f1
      have e0 : ((0 : Int) < (((k + 1 : Nat)) : Int)) = True := by simp
      have lt := l.dl.at hd
      have kk : k < n := by omega
      by_cases hz : d = 0
      · subst hz
        have e1 : EqI ((0 : Nat) : Int) 0 = True := eqI_self
        simp +contextual (disch := omega) only [↓AM, ↓AV, AP, CQ, e0, i64, v0, v1, f1, r1, e1, kk]
        refine ⟨k, by omega, by omega, ?_, rfl⟩
        rw [← hv, List.take_add_one, hd]
        exact vL_init.symm
      · have e1 : EqI (d : Int) 0 = False := eq_false (by unfold EqI; omega)
        have h0 := uq (nz_takeE (B := B24) hd hz)
        have hcap : capOk s n c := by cases s <;> simp [capOk]; omega
        have hp : 0 < vL B24 M := by
          refine Nat.pos_of_ne_zero fun e => ?_
          rw [e, de_0] at h0
          have := congrArg List.length h0
          rw [List.length_take, List.length_nil] at this
          omega
        have rX : Rd hX 1 (some (slAddr b o s 1 0 c true)) (k + 1) (j3 (M.take (k + 1))) := by rw [← j3_take]; exact lB.takeE hs (by omega) hc
        obtain ⟨hC, hhC⟩ : ∃ z, hX.new ⟨[.bool true, .slice none 0 0], .own⟩ = z := ⟨_, rfl⟩
        have wC : Wf hC := hhC ▸ wB.new
        have fmC : Fm No hX hC := hhC ▸ Fm.new Fm.refl
        have gC : hC.get hX.size = some ⟨[.bool true, .slice none 0 0], .own⟩ := hhC ▸ gnew
        have u2 : hC.rd hX.size 1 = some (.slice none 0 0) := rd_mk gC
        have u1 : hC.rd h.size 1 = some (.slice (some ⟨b, o, s⟩) n c) := rd_mk (fmC.keep wB gA (fun f => f))
        have gC2 : hC.get hA.size = some ⟨[.bool false, .slice none 0 0], .own⟩ := fmC.keep wB gB (fun f => f)
        have hCC : (hX.new ⟨[.bool true, .slice none 0 0], .own⟩).put hX.size ⟨[.bool true, .slice none 0 0], .own⟩ = hC := by rw [new_put, hhC]
        have hsrc := ((rX.keepW wB fmC nNo).src (c := c))
        have sC : hC.size = h.size + 3 := by rw [← hhC, size_new, sB]
        have tk : (((k + 1) : Nat) : Int).toNat - 0 = (k + 1) := rfl
        have ck : c - 0 = c := rfl
        have mk : (M.take (k + 1)).length = (k + 1) := by rw [List.length_take]; omega
        simp +contextual (disch := omega) only [↓AM, ↓AV, AP, CQ, i64, hhA, hhB, v0, v1, hhC, u1, gC, u2, gC2, bnds, Option.isNone, hsrc, tk, ck, e0, e1, kk, f1, r1, hcap, hs]
        refine ⟨by omega, ?_⟩
        refine Ow.add (m := (k + 1)) wC Ow.mk0 (by rw [j3_len, Nat.mul_one]; exact mk) (by omega) fun oa' cap' h2 o2 w2 f2 n2 => ?_
        have f2' : Fm No hC h2 := f2.mono fun x _ h => absurd h At.none
        have n2' : ∀ x, At oa' x → hC.size ≤ x := fun x hx => (n2 x hx).elim (fun h => absurd h At.none) id
        rw [Nat.zero_add] at o2 ⊢
        have x1 : h2.rd hX.size 1 = some (.slice none 0 0) := rd_mk (f2'.keep wC gC (fun f => f))
        have x2 : h2.rd h.size 1 = some (.slice (some ⟨b, o, s⟩) n c) := (rd_keep (f2'.get _ (by omega) (fun f => f))).trans u1
        have x3 : h2.get hX.size = some ⟨[.bool true, .slice none 0 0], .own⟩ := f2'.keep wC gC (fun f => f)
        have x4 : h2.get hA.size = some ⟨[.bool false, .slice none 0 0], .own⟩ := f2'.keep wC gC2 (fun f => f)
        obtain ⟨hD, hhD⟩ : ∃ z, h2.put hX.size ⟨[.bool true, .slice oa' (k + 1) cap'], .own⟩ = z := ⟨_, rfl⟩
        have gD : hD.get hX.size = some ⟨[.bool true, .slice oa' (k + 1) cap'], .own⟩ := hhD ▸ gput
        have gDA : hD.get hA.size = some ⟨[.bool false, .slice none 0 0], .own⟩ := hhD ▸ (get_put (by omega)).trans x4
        have y1 : hD.rdN hX.size 0 2 = some [.bool true, .slice oa' (k + 1) cap'] := rdN_mk gD (by simp)
        obtain ⟨hE, hhE⟩ : ∃ z, hD.put hA.size ⟨[.bool true, .slice oa' (k + 1) cap'], .own⟩ = z := ⟨_, rfl⟩
        have y2 : hE.rdN hA.size 0 2 = some [.bool true, .slice oa' (k + 1) cap'] := by rw [← hhE]; exact rdN_mk gput (by simp)
        have fE : Fm No h2 hE ∨ True := .inr trivial
        simp +contextual (disch := omega) only [↓AM, ↓AV, AP, CQ, i64, x1, x2, x3, x4, hhD, gDA, y1, hhE, y2]
        exact fin true (k + 1) oa' cap' hC h2 hD hE wC ((fm.trans fmC fun _ _ f => f).trans f2' fun _ _ f => f) (by omega) (by omega) (f2'.size) o2 (fun x hx => by have := n2' x hx; omega) hhD hhE ⟨h0, by rw [decide_eq_true hp]; rfl, by omega⟩
end Go.Proofs.Ytikbdeobghoglaa.Nu

/- The Big numbers of the document: made of whole numbers. Plain theorems over the abstract machine.
   Conditions: none. -/
namespace Go.Proofs.Ytikbdeobghoglaa.Nu
open Go Go.RowKit Go.Proofs.Ytikbdeobghoglaa.Am Go.Proofs.Ytikbdeobghoglaa.Af Go.Proofs.Ytikbdeobghoglaa.Md
set_option linter.unusedVariables false
set_option linter.unusedSimpArgs false
set_option linter.defProp false
set_option maxRecDepth 20000
set_option maxHeartbeats 1000000

/-- A Big that grows in a box of one's own. -/
structure Gb (h0 h : Hp) (b : Nat) (neg : Bool) (oa : Option Addr) (cap : Nat) (L : List Nat) : Prop where
  get : h.get b = some ⟨[.bool neg, .slice oa L.length cap], .own⟩
  new : h0.size ≤ b
  nw : Nw h0 oa
  ne : ¬ At oa b
  ow : Ow h 1 oa L.length cap (j3 L)
theorem Gb.r1 {h0 h : Hp} {b cap : Nat} {neg : Bool} {oa : Option Addr} {L : List Nat} (g : Gb h0 h b neg oa cap L) : h.rd b 1 = some (.slice oa L.length cap) := rd_mk g.get
theorem Gb.keep {h0 h h' : Hp} {b cap : Nat} {neg : Bool} {oa : Option Addr} {L : List Nat} (g : Gb h0 h b neg oa cap L) (w : Wf h) (f : Fm No h h') : Gb h0 h' b neg oa cap L :=
  ⟨f.keep w g.get (fun f => f), g.new, g.nw, g.ne, g.ow.keep w f fun _ _ f => f⟩
/-- Behind the append, ahead of the store. -/
theorem Gb.mid {h0 h h' : Hp} {b cap : Nat} {neg : Bool} {oa : Option Addr} {L : List Nat} (g : Gb h0 h b neg oa cap L) (w : Wf h) (f : Fm (At oa) h h') : h'.get b = some ⟨[.bool neg, .slice oa L.length cap], .own⟩ := f.keep w g.get g.ne
theorem Gb.put {h0 h h' : Hp} {b cap cap' d : Nat} {neg : Bool} {oa oa' : Option Addr} {L : List Nat} (g : Gb h0 h b neg oa cap L) (w : Wf h) (w' : Wf h') (fm : Fm No h0 h) (o' : Ow h' 1 oa' (L.length + 1) cap' (j3 L ++ [.int .i64 (d : Int)])) (f : Fm (At oa) h h') (n : ∀ x, At oa' x → At oa x ∨ h.size ≤ x) :
    Gb h0 (h'.put b ⟨[.bool neg, .slice oa' (L.length + 1) cap'], .own⟩) b neg oa' cap' (L ++ [d]) ∧ Wf (h'.put b ⟨[.bool neg, .slice oa' (L.length + 1) cap'], .own⟩) ∧ Fm No h0 (h'.put b ⟨[.bool neg, .slice oa' (L.length + 1) cap'], .own⟩) := by
  have hb := w.lt g.get
  have hn : ¬ At oa' b := fun hx => (n b hx).elim g.ne fun h => by omega
  obtain ⟨g1, g2⟩ := grown fm g.nw f n
  have fp : Fm (fun x => x = b) h' (h'.put b ⟨[.bool neg, .slice oa' (L.length + 1) cap'], .own⟩) := Fm.put Fm.refl fun _ => rfl
  have nb := g.new
  refine ⟨⟨?_, nb, g2, hn, ?_⟩, w'.put (Nat.lt_of_lt_of_le hb f.size), g1.trans fp fun x hx e => by omega⟩
  · rw [gput, List.length_append]; rfl
  · rw [List.length_append, j3_app]
    exact o'.keep w' fp fun x hx e => by subst e; exact hn hx
theorem Gb.mk0 {h0 h : Hp} {neg : Bool} (fm : Fm No h0 h) : Gb h0 (h.new ⟨[.bool neg, .slice none 0 0], .own⟩) h.size neg none 0 [] := ⟨gnew, fm.size, Nw.none, At.none, Ow.mk0⟩
/-- Its digits, at the end. -/
theorem Gb.em {h0 h : Hp} {b cap : Nat} {neg : Bool} {oa : Option Addr} {L : List Nat} (g : Gb h0 h b neg oa cap L) (hd : Dl B24 L) : Em h oa L.length cap L := ⟨g.ow.rd, g.ow.le, hd, g.ow.flag, g.ow.nil⟩
theorem Gb.flag {h0 h : Hp} {b cap : Nat} {neg : Bool} {oa : Option Addr} {L : List Nat} (g : Gb h0 h b neg oa cap L) : ∀ a, oa = some a → flagOk a.spot = true := by
  rintro ad rfl
  obtain ⟨_, _, _, _, _, _, hs⟩ := g.ow.at_ _ rfl
  rcases hs with hs | ⟨hs, _⟩ <;> rw [hs] <;> rfl
/-- A Big of a whole number. -/
def ZV (S : Nat → Prop) (h : Hp) (v : Value) (z : Int) : Prop := BigV S h v (decide (z < 0)) z.natAbs
theorem ZV.keep {S : Nat → Prop} {h h' : Hp} {v : Value} {z : Int} (l : ZV S h v z) (w : Wf h) (fm : Fm No h h') : ZV S h' v z := by
  obtain ⟨u, e, oa, c, e2, l, hS⟩ := l
  exact ⟨u, e, oa, c, e2, ⟨l.rd.keepW w fm nNo, l.le, l.dl, l.fl, l.nl⟩, hS⟩
theorem EmW.keep {S : Nat → Prop} {h h' : Hp} {v : Value} {x : Nat} (l : EmW S h v x) (w : Wf h) (fm : Fm No h h') : EmW S h' v x := by
  obtain ⟨oa, c, e, l, hS⟩ := l
  exact ⟨oa, c, e, ⟨l.rd.keepW w fm nNo, l.le, l.dl, l.fl, l.nl⟩, hS⟩
theorem tdivN (a : Nat) : (-(a : Int)).tdiv 16777216 = -((a / 16777216 : Nat) : Int) := by rw [Int.neg_tdiv]; exact congrArg _ (ntdiv a 16777216)
theorem tmodN (a : Nat) : (-(a : Int)).tmod 16777216 = -((a % 16777216 : Nat) : Int) := by rw [Int.neg_tmod]; exact congrArg _ (ntmod a 16777216)
theorem tdivP (a : Nat) : (a : Int).tdiv 16777216 = ((a / 16777216 : Nat) : Int) := ntdiv a 16777216
theorem tmodP (a : Nat) : (a : Int).tmod 16777216 = ((a % 16777216 : Nat) : Int) := ntmod a 16777216
theorem nz24 : ((16777216 : Int) = 0) = False := by simp
def CB := And.intro @tdivN <| And.intro @tmodN <| And.intro @tdivP <| And.intro @tmodP @nz24
theorem c_bOf {h : Hp} {z : Int} (hz : z.natAbs ≤ 9223372036854775807) :
    ACalls Try.prog 92 [.int .i64 z] h fun v h' => ZV (fun y => h.size ≤ y) h' v z ∧ Fm No h h' := by
  refine dioramaref00_Of_ok.snd hm rfl fun w => ?_
  rw [WF_eq, dioramaref00_Of]
  obtain ⟨hA, hhA⟩ : ∃ g, h.new ⟨[.bool false, .slice none 0 0], .own⟩ = g := ⟨_, rfl⟩
  obtain ⟨hB, hhB⟩ : ∃ g, hA.new ⟨[.bool false, .slice none 0 0], .own⟩ = g := ⟨_, rfl⟩
  have wA : Wf hA := hhA ▸ w.new
  have wB : Wf hB := hhB ▸ wA.new
  have fmA : Fm No h hA := hhA ▸ Fm.new Fm.refl
  have fmB : Fm No hA hB := hhB ▸ Fm.new Fm.refl
  have sA : hA.size = h.size + 1 := by rw [← hhA]; rfl
  have gA : hA.get h.size = some ⟨[.bool false, .slice none 0 0], .own⟩ := hhA ▸ gnew
  have gB : hB.get hA.size = some ⟨[.bool false, .slice none 0 0], .own⟩ := hhB ▸ gnew
  have gA := fmB.keep wA gA (fun f => f)
  have fm := fmA.trans fmB fun _ _ f => f
  have hlen : (de z.natAbs).length ≤ 4 := de_len (Nat.lt_of_lt_of_le (show z.natAbs < 9223372036854775808 by omega) (by decide))
  have fin : ∀ (g : Bool) (oa : Option Addr) (cap : Nat) (L : List Nat) (h1 h2 : Hp), Wf h1 → Fm No hA h1 → Gb hA h1 hA.size g oa cap L → h1.get h.size = some ⟨[.bool false, .slice none 0 0], .own⟩ → L = de z.natAbs → g = decide (z < 0) →
      h1.put h.size ⟨[.bool g, .slice oa L.length cap], .own⟩ = h2 → ZV (fun y => h.size ≤ y) h2 (.agg #[.bool g, .slice oa L.length cap]) z ∧ Fm No h h2 := by
    intro g oa cap L h1 h2 w1 f1 gb g0 e1 e2 e3
    have fp : Fm (fun x => x = h.size) h1 h2 := e3 ▸ Fm.put Fm.refl fun _ => rfl
    have nn := gb.nw
    subst e1 e2
    refine ⟨⟨_, rfl, oa, cap, rfl, ⟨?_, gb.ow.le, de_dl _, gb.ow.flag, gb.ow.nil⟩, fun y hy => by have := nn y hy; omega⟩, (fmA.trans f1 fun _ _ f => f).trans fp fun x hx e => by omega⟩
    exact (gb.ow.keep w1 fp fun x hx e => by have := nn x hx; omega).rd
  by_cases hneg : z < 0
  · obtain ⟨m0, rfl⟩ : ∃ m0 : Nat, z = -(m0 : Int) := ⟨z.natAbs, by omega⟩
    have ez : (-(m0 : Int)).natAbs = m0 := by omega
    rw [ez] at hlen hz
    simp only [ez] at fin
    obtain ⟨hC, hhC⟩ : ∃ g, hB.put hA.size ⟨[.bool true, .slice none 0 0], .own⟩ = g := ⟨_, rfl⟩
    have wC : Wf hC := hhC ▸ wB.put (wB.lt gB)
    have fmC : Fm No hA hC := hhC ▸ fmB.put fun hx => by omega
    have gC : Gb hA hC hA.size true none 0 [] := ⟨hhC ▸ gput, Nat.le_refl _, Nw.none, At.none, Ow.mk0⟩
    have gCA : hC.get h.size = some ⟨[.bool false, .slice none 0 0], .own⟩ := hhC ▸ (get_put (by omega)).trans gA
    simp +contextual (disch := omega) only [↓AM, ↓AV, AP, CQ, CB, i64, hhA, hhB, gB, hneg, hhC]
    refine WL.mk (fun m t h' => Wf h' ∧ Fm No hA h' ∧ m ≤ m0 ∧ h'.get h.size = some ⟨[.bool false, .slice none 0 0], .own⟩ ∧ ∃ oa cap L, Gb hA h' hA.size true oa cap L ∧ Dl B24 L ∧ de m0 = L ++ de m ∧ t = [(0, some (.int .i64 (-(m : Int)))), (2, some (.pointer (some ⟨h.size, 0, none⟩))), (3, some (.pointer (some ⟨hA.size, 0, none⟩)))])
      ⟨m0, wC, fmC, Nat.le_refl _, gCA, none, 0, [], gC, (fun d hd => by cases hd), rfl, rfl⟩ ?_
    rintro m t h1 ⟨w1, f1, hmx, gA1, oa, cap, L, gb, hLd, he, rfl⟩
    rcases Nat.eq_zero_or_pos m with rfl | h0
    · have e0 : EqI (-((0 : Nat) : Int)) 0 = True := eq_true (by unfold EqI; omega)
      rw [de_0, List.append_nil] at he
      obtain ⟨h2, hh2⟩ : ∃ g, h1.put h.size ⟨[.bool true, .slice oa L.length cap], .own⟩ = g := ⟨_, rfl⟩
      have y1 : h1.rdN hA.size 0 2 = some [.bool true, .slice oa L.length cap] := rdN_mk gb.get (by simp)
      have y2 : h2.rdN h.size 0 2 = some [.bool true, .slice oa L.length cap] := by rw [← hh2]; exact rdN_mk gput (by simp)
      simp +contextual (disch := omega) only [↓AM, ↓AV, AP, CQ, CB, e0, gA1, y1, hh2, y2]
      exact fin _ _ _ _ _ _ w1 f1 gb gA1 he.symm (by simp <;> omega) hh2
    · have e0 : EqI (-((m : Nat) : Int)) 0 = False := eq_false (by unfold EqI; omega)
      have hL : L.length ≤ 4 := by have := congrArg List.length he; rw [List.length_append] at this; omega
      have r1 := gb.r1
      have hmod : m % 16777216 < 16777216 := Nat.mod_lt _ (by decide)
      have hdm : m / 16777216 < m := Nat.div_lt_self h0 (by decide)
      rcases Nat.eq_zero_or_pos (m % 16777216) with hz0 | hz0
      · have e1 : ((-((m % 16777216 : Nat) : Int)) < 0) = False := eq_false (by omega)
        have e2 : -((m % 16777216 : Nat) : Int) = ((m % 16777216 : Nat) : Int) := by omega
        have e3 : (((m % 16777216 : Nat) : Int) < 0) = False := eq_false (by omega)
        simp +contextual (disch := omega) only [↓AM, ↓AV, AP, CQ, CB, i64, e0, e2, e3, r1]
        refine gb.ow.push (m := 1) w1 rfl ?_ fun oa' cap' h2 o2 w2 f2 n2 => ?_
        · omega
        have gm := gb.mid w1 f2
        obtain ⟨p1, p2, p3⟩ := gb.put (d := m % 16777216) w1 w2 f1 o2 f2 n2
        have gh := (get_put (x := h.size) (b := hA.size) (h := h2) (o := ⟨[.bool true, .slice oa' (L.length + 1) cap'], .own⟩) (by omega)).trans ((f2.get h.size (by have := w1.lt gA1; omega) (fun hx => by have := gb.nw _ hx; omega)).trans gA1)
        simp +contextual (disch := omega) only [↓AM, ↓AV, AP, CQ, CB, i64, gm]
        refine ⟨m / 16777216, by omega, p2, p3, by omega, gh, oa', cap', L ++ [m % 16777216], p1, ?_, ?_, rfl⟩
        · intro d hd
          rcases List.mem_append.1 hd with hd | hd
          · exact hLd d hd
          · rw [List.mem_singleton.1 hd]; exact hmod
        · rw [he, de_S (by omega)]; simp
      · have e1 : ((-((m % 16777216 : Nat) : Int)) < 0) = True := eq_true (by omega)
        have e2 : 0 - -((m % 16777216 : Nat) : Int) = ((m % 16777216 : Nat) : Int) := by omega
        simp +contextual (disch := omega) only [↓AM, ↓AV, AP, CQ, CB, i64, e0, e1, e2, r1]
        refine gb.ow.push (m := 1) w1 rfl ?_ fun oa' cap' h2 o2 w2 f2 n2 => ?_
        · omega
        have gm := gb.mid w1 f2
        obtain ⟨p1, p2, p3⟩ := gb.put (d := m % 16777216) w1 w2 f1 o2 f2 n2
        have gh := (get_put (x := h.size) (b := hA.size) (h := h2) (o := ⟨[.bool true, .slice oa' (L.length + 1) cap'], .own⟩) (by omega)).trans ((f2.get h.size (by have := w1.lt gA1; omega) (fun hx => by have := gb.nw _ hx; omega)).trans gA1)
        simp +contextual (disch := omega) only [↓AM, ↓AV, AP, CQ, CB, i64, gm]
        refine ⟨m / 16777216, by omega, p2, p3, by omega, gh, oa', cap', L ++ [m % 16777216], p1, ?_, ?_, rfl⟩
        · intro d hd
          rcases List.mem_append.1 hd with hd | hd
          · exact hLd d hd
          · rw [List.mem_singleton.1 hd]; exact hmod
        · rw [he, de_S (by omega)]; simp
  · obtain ⟨m0, rfl⟩ : ∃ m0 : Nat, z = (m0 : Int) := ⟨z.natAbs, by omega⟩
    have ez : (m0 : Int).natAbs = m0 := by omega
    rw [ez] at hlen hz
    simp only [ez] at fin
    have gC : Gb hA hB hA.size false none 0 [] := ⟨gB, Nat.le_refl _, Nw.none, At.none, Ow.mk0⟩
    have eneg : ((m0 : Int) < 0) = False := eq_false hneg
    simp +contextual (disch := omega) only [↓AM, ↓AV, AP, CQ, CB, i64, hhA, hhB, gB, eneg]
    refine WL.mk (fun m t h' => Wf h' ∧ Fm No hA h' ∧ m ≤ m0 ∧ h'.get h.size = some ⟨[.bool false, .slice none 0 0], .own⟩ ∧ ∃ oa cap L, Gb hA h' hA.size false oa cap L ∧ Dl B24 L ∧ de m0 = L ++ de m ∧ t = [(0, some (.int .i64 (m : Int))), (2, some (.pointer (some ⟨h.size, 0, none⟩))), (3, some (.pointer (some ⟨hA.size, 0, none⟩)))])
      ⟨m0, wB, fmB, Nat.le_refl _, gA, none, 0, [], gC, (fun d hd => by cases hd), rfl, rfl⟩ ?_
    rintro m t h1 ⟨w1, f1, hmx, gA1, oa, cap, L, gb, hLd, he, rfl⟩
    rcases Nat.eq_zero_or_pos m with rfl | h0
    · have e0 : EqI ((0 : Nat) : Int) 0 = True := eq_true (by unfold EqI; omega)
      rw [de_0, List.append_nil] at he
      obtain ⟨h2, hh2⟩ : ∃ g, h1.put h.size ⟨[.bool false, .slice oa L.length cap], .own⟩ = g := ⟨_, rfl⟩
      have y1 : h1.rdN hA.size 0 2 = some [.bool false, .slice oa L.length cap] := rdN_mk gb.get (by simp)
      have y2 : h2.rdN h.size 0 2 = some [.bool false, .slice oa L.length cap] := by rw [← hh2]; exact rdN_mk gput (by simp)
      simp +contextual (disch := omega) only [↓AM, ↓AV, AP, CQ, CB, e0, gA1, y1, hh2, y2]
      exact fin _ _ _ _ _ _ w1 f1 gb gA1 he.symm (by simp <;> omega) hh2
    · have e0 : EqI ((m : Nat) : Int) 0 = False := eq_false (by unfold EqI; omega)
      have hL : L.length ≤ 4 := by have := congrArg List.length he; rw [List.length_append] at this; omega
      have r1 := gb.r1
      have hmod : m % 16777216 < 16777216 := Nat.mod_lt _ (by decide)
      have hdm : m / 16777216 < m := Nat.div_lt_self h0 (by decide)
      have e1 : (((m % 16777216 : Nat) : Int) < 0) = False := eq_false (by omega)
      simp +contextual (disch := omega) only [↓AM, ↓AV, AP, CQ, CB, i64, e0, e1, r1]
      refine gb.ow.push (m := 1) w1 rfl ?_ fun oa' cap' h2 o2 w2 f2 n2 => ?_
      · omega
      have gm := gb.mid w1 f2
      obtain ⟨p1, p2, p3⟩ := gb.put (d := m % 16777216) w1 w2 f1 o2 f2 n2
      have gh := (get_put (x := h.size) (b := hA.size) (h := h2) (o := ⟨[.bool false, .slice oa' (L.length + 1) cap'], .own⟩) (by omega)).trans ((f2.get h.size (by have := w1.lt gA1; omega) (fun hx => by have := gb.nw _ hx; omega)).trans gA1)
      simp +contextual (disch := omega) only [↓AM, ↓AV, AP, CQ, CB, i64, gm]
      refine ⟨m / 16777216, by omega, p2, p3, by omega, gh, oa', cap', L ++ [m % 16777216], p1, ?_, ?_, rfl⟩
      · intro d hd
        rcases List.mem_append.1 hd with hd | hd
        · exact hLd d hd
        · rw [List.mem_singleton.1 hd]; exact hmod
      · rw [he, de_S (by omega)]; simp
end Go.Proofs.Ytikbdeobghoglaa.Nu

/- The Big numbers of the document: added. Plain theorems over the abstract machine.
   Conditions: none. -/
namespace Go.Proofs.Ytikbdeobghoglaa.Nu
open Go Go.RowKit Go.Proofs.Ytikbdeobghoglaa.Am Go.Proofs.Ytikbdeobghoglaa.Af Go.Proofs.Ytikbdeobghoglaa.Md
set_option linter.unusedVariables false
set_option linter.unusedSimpArgs false
set_option linter.defProp false
set_option maxRecDepth 20000
set_option maxHeartbeats 1000000

/-- Digits without more: a number that trim brings into form. -/
def Raw (h : Hp) (v : Value) (neg : Bool) (x n : Nat) : Prop := ∃ oa c L, v = .agg #[.bool neg, .slice oa L.length c] ∧ Em h oa L.length c L ∧ vL B24 L = x ∧ L.length ≤ n ∧ (∀ a, oa = some a → flagOk a.spot = true) ∧ (oa = none → c = 0)
theorem Raw.keep {h h' : Hp} {v : Value} {neg : Bool} {x n : Nat} (r : Raw h v neg x n) (w : Wf h) (fm : Fm No h h') : Raw h' v neg x n := by
  obtain ⟨oa, c, L, e, l, h1, h2, h3, h4⟩ := r
  exact ⟨oa, c, L, e, ⟨l.rd.keepW w fm nNo, l.le, l.dl, l.fl, l.nl⟩, h1, h2, h3, h4⟩
theorem c_btrimR {h : Hp} {v : Value} {g : Bool} {x n : Nat} (r : Raw h v g x n) (hn : n ≤ 1000000) :
    ACalls Try.prog 90 [v] h fun v h' => BigV (fun z => h.size ≤ z) h' v (g && decide (0 < x)) x ∧ Fm No h h' := by
  obtain ⟨oa, c, L, rfl, l, rfl, h2, h3, h4⟩ := r
  exact c_btrim l (by omega) h3 h4
theorem getD24 {Y : List Nat} (h : Dl B24 Y) (j : Nat) : Y.getD j 0 < 16777216 := by
  rw [List.getD_eq_getElem?_getD]
  cases e : Y[j]? with
  | none => decide
  | some d => exact h d (List.mem_of_getElem? e)
theorem take_getD24 {Y : List Nat} (j : Nat) : vL B24 (Y.take (j + 1)) = vL B24 (Y.take j) + B24 ^ j * Y.getD j 0 := by
  rw [List.take_add_one, List.getD_eq_getElem?_getD]
  cases e : Y[j]? with
  | none => simp
  | some d =>
    have : j < Y.length := (List.getElem?_eq_some_iff.1 e).1
    show vL B24 (Y.take j ++ [d]) = _
    rw [vL_snoc, List.length_take, Nat.min_eq_left (by omega)]
    rfl
theorem dl_snoc {L : List Nat} {d : Nat} (h : Dl B24 L) (hd : d < 16777216) : Dl B24 (L ++ [d]) := by
  intro e he
  rcases List.mem_append.1 he with he | he
  · exact h e he
  · rw [List.mem_singleton.1 he]; exact hd
theorem c_bplus {h : Hp} {a b : Option Addr} {c d x y : Nat} {g1 g2 : Bool} (la : Em h a (de x).length c (de x)) (lb : Em h b (de y).length d (de y)) (hx : (de x).length ≤ 400000) (hy : (de y).length ≤ 400000) :
    ACalls Try.prog 136 [.agg #[.bool g1, .slice a (de x).length c], .agg #[.bool g2, .slice b (de y).length d]] h fun v h' => Raw h' v false (x + y) 400001 ∧ Fm No h h' := by
  refine dioramaref00_plus_ok.snd hm rfl fun w => ?_
  rw [WF_eq, dioramaref00_plus]
  have xval : vL B24 (de x) = x := de_val x
  have yval : vL B24 (de y) = y := de_val y
  generalize hX : de x = X at *
  generalize hY : de y = Y at *
  obtain ⟨hA, hhA⟩ : ∃ g, h.new ⟨[.bool g1, .slice a X.length c], .own⟩ = g := ⟨_, rfl⟩
  obtain ⟨hB, hhB⟩ : ∃ g, hA.new ⟨[.bool g2, .slice b Y.length d], .own⟩ = g := ⟨_, rfl⟩
  obtain ⟨hC, hhC⟩ : ∃ g, hB.new ⟨[.bool false, .slice none 0 0], .own⟩ = g := ⟨_, rfl⟩
  obtain ⟨hD, hhD⟩ : ∃ g, hC.new ⟨[.bool false, .slice none 0 0], .own⟩ = g := ⟨_, rfl⟩
  have wA : Wf hA := hhA ▸ w.new
  have wB : Wf hB := hhB ▸ wA.new
  have wC : Wf hC := hhC ▸ wB.new
  have wD : Wf hD := hhD ▸ wC.new
  have fmA : Fm No h hA := hhA ▸ Fm.new Fm.refl
  have fmB : Fm No hA hB := hhB ▸ Fm.new Fm.refl
  have fmC : Fm No hB hC := hhC ▸ Fm.new Fm.refl
  have fmD : Fm No hC hD := hhD ▸ Fm.new Fm.refl
  have sA : hA.size = h.size + 1 := by rw [← hhA]; rfl
  have sB : hB.size = h.size + 2 := by rw [← hhB, size_new, sA]
  have sC : hC.size = h.size + 3 := by rw [← hhC, size_new, sB]
  have gA : hA.get h.size = some ⟨[.bool g1, .slice a X.length c], .own⟩ := hhA ▸ gnew
  have gB : hB.get hA.size = some ⟨[.bool g2, .slice b Y.length d], .own⟩ := hhB ▸ gnew
  have gC : hC.get hB.size = some ⟨[.bool false, .slice none 0 0], .own⟩ := hhC ▸ gnew
  have gb0 : Gb hC hD hC.size false none 0 [] := hhD ▸ Gb.mk0 Fm.refl
  have fC := (fmA.trans fmB fun _ _ f => f).trans fmC fun _ _ f => f
  have rds : ∀ g : Hp, Fm No hC g → g.get h.size = some ⟨[.bool g1, .slice a X.length c], .own⟩ ∧ g.get hA.size = some ⟨[.bool g2, .slice b Y.length d], .own⟩ ∧ g.get hB.size = some ⟨[.bool false, .slice none 0 0], .own⟩ := fun g fg =>
    ⟨fg.keep wC (fmC.keep wB (fmB.keep wA gA (fun f => f)) (fun f => f)) (fun f => f), fg.keep wC (fmC.keep wB gB (fun f => f)) (fun f => f), fg.keep wC gC (fun f => f)⟩
  obtain ⟨i0, i1, i2⟩ := rds hC Fm.refl
  simp +contextual (disch := omega) only [↓AM, ↓AV, AP, CQ, CN, CB, i64, hhA, hhB, hhC, hhD]
  refine WL.mk (fun k t h' => Wf h' ∧ Fm No hC h' ∧ ∃ oa cap L cy, Gb hC h' hC.size false oa cap L ∧ Dl B24 L ∧ cy ≤ 1 ∧ L.length ≤ max X.length Y.length + 1 ∧ (L.length = max X.length Y.length + 1 → cy = 0) ∧ k = max X.length Y.length + 1 - L.length ∧ vL B24 L + B24 ^ L.length * cy = vL B24 (X.take L.length) + vL B24 (Y.take L.length) ∧
      t = [(2, some (.pointer (some ⟨h.size, 0, none⟩))), (3, some (.pointer (some ⟨hA.size, 0, none⟩))), (4, some (.pointer (some ⟨hB.size, 0, none⟩))), (5, some (.pointer (some ⟨hC.size, 0, none⟩))), (6, some (.int .i64 (cy : Int))), (7, some (.int .i64 (L.length : Int)))])
    ⟨max X.length Y.length + 1, wD, fmD, none, 0, [], 0, gb0, (fun d hd => by cases hd), by decide, Nat.zero_le _, (fun _ => rfl), rfl, by simp [vL], rfl⟩ ?_
  rintro k t h1 ⟨w1, f1, oa, cap, L, cy, gb, hLd, hcy, hLl, hlast, rfl, hv, rfl⟩
  have fh1 := fC.trans f1 fun _ _ f => f
  obtain ⟨q0, q1, q2⟩ := rds h1 f1
  have s0 := rd_mk q0 (i := 1)
  have s1 := rd_mk q1 (i := 1)
  have n0 : h1.rdN h.size 0 2 = some [.bool g1, .slice a X.length c] := rdN_mk q0 (by simp)
  have n1 : h1.rdN hA.size 0 2 = some [.bool g2, .slice b Y.length d] := rdN_mk q1 (by simp)
  by_cases hstop : ¬ L.length < X.length ∧ ¬ L.length < Y.length ∧ cy = 0
  · obtain ⟨e1, e2, rfl⟩ := hstop
    have e0 : ((0 : Int) < ((0 : Nat) : Int)) = False := by simp
    rw [List.take_of_length_le (l := X) (by omega), List.take_of_length_le (l := Y) (by omega), xval, yval, Nat.mul_zero, Nat.add_zero] at hv
    obtain ⟨h2, hh2⟩ : ∃ g, h1.put hB.size ⟨[.bool false, .slice oa L.length cap], .own⟩ = g := ⟨_, rfl⟩
    have y1 : h1.rdN hC.size 0 2 = some [.bool false, .slice oa L.length cap] := rdN_mk gb.get (by simp)
    have y2 : h2.rdN hB.size 0 2 = some [.bool false, .slice oa L.length cap] := by rw [← hh2]; exact rdN_mk gput (by simp)
    simp +contextual (disch := omega) only [↓AM, ↓AV, AP, CQ, CN, CB, i64, s0, s1, e1, e2, e0, q2, y1, hh2, y2]
    have fp : Fm (fun x => x = hB.size) h1 h2 := hh2 ▸ Fm.put Fm.refl fun _ => rfl
    have nn := gb.nw
    exact ⟨⟨oa, cap, L, rfl, ⟨(gb.ow.keep w1 fp fun x hx e => by have := nn x hx; omega).rd, gb.ow.le, hLd, gb.ow.flag, gb.ow.nil⟩, hv, by omega, gb.flag, gb.ow.nil⟩, fh1.trans fp fun x hx e => by omega⟩
  · have xb := getD24 la.dl L.length
    have yb := getD24 lb.dl L.length
    have htx := take_getD24 (Y := X) L.length
    have hty := take_getD24 (Y := Y) L.length
    have hp : L.length < max X.length Y.length + 1 := by
      rcases Nat.lt_or_ge L.length (max X.length Y.length + 1) with h | h
      · exact h
      · exact absurd ⟨by omega, by omega, hlast (by omega)⟩ hstop
    have hlast2 : L.length = max X.length Y.length → X.getD L.length 0 = 0 ∧ Y.getD L.length 0 = 0 := fun e => by
      rw [List.getD_eq_getElem?_getD, List.getD_eq_getElem?_getD, List.getElem?_eq_none (by omega), List.getElem?_eq_none (by omega)]; exact ⟨rfl, rfl⟩
    have hgo : ¬ L.length < X.length → ¬ L.length < Y.length → ((0 : Int) < (cy : Int)) = True := fun e1 e2 => eq_true (by
      have : ¬ cy = 0 := fun e => hstop ⟨e1, e2, e⟩
      omega)
    have step : ∀ (P : Prop), (∀ h2 w2 f2, P) → P := fun P k => k h1 w1 f1
    by_cases e1 : L.length < X.length
    · simp +contextual (disch := omega) only [↓AM, ↓AV, AP, CQ, CN, CB, i64, s0, s1, e1, n0, n1]
      refine (c_bdigit (i := L.length) (la.rd.keepW w fh1 nNo) (by omega)).use ?_
      rintro _ h2 w2 ⟨rfl, f2⟩
      obtain ⟨q3, q4, q5⟩ := rds h2 (f1.trans f2 fun _ _ f => f)
      have n3 : h2.rdN h.size 0 2 = some [.bool g1, .slice a X.length c] := rdN_mk q3 (by simp)
      have n4 : h2.rdN hA.size 0 2 = some [.bool g2, .slice b Y.length d] := rdN_mk q4 (by simp)
      simp +contextual (disch := omega) only [↓AM, ↓AV, AP, CQ, CN, CB, i64, n3, n4]
      refine ⟨⟨_, rfl, rfl⟩, ?_⟩
      refine (c_bdigit (i := L.length) (lb.rd.keepW w (fh1.trans f2 fun _ _ f => f) nNo) (by omega)).use ?_
      rintro _ h3 w3 ⟨rfl, f3⟩
      have f13 := f2.trans f3 fun _ _ f => f
      obtain ⟨q6, q7, q8⟩ := rds h3 (f1.trans f13 fun _ _ f => f)
      have n6 : h3.rdN h.size 0 2 = some [.bool g1, .slice a X.length c] := rdN_mk q6 (by simp)
      have n7 : h3.rdN hA.size 0 2 = some [.bool g2, .slice b Y.length d] := rdN_mk q7 (by simp)
      have gb3 := gb.keep w1 f13
      have r3 := gb3.r1
      generalize X.getD L.length 0 = p at *
      generalize Y.getD L.length 0 = q at *
      simp +contextual (disch := omega) only [↓AM, ↓AV, AP, CQ, CN, CB, i64, n3, n4, n6, n7, r3]
      refine gb3.ow.push (m := 1) w3 rfl ?_ fun oa' cap' h4 o4 w4 f4 n5 => ?_
      · omega
      have gm := gb3.mid w3 f4
      obtain ⟨p1, p2, p3⟩ := gb3.put (d := (p + q + cy) % 16777216) w3 w4 (f1.trans f13 fun _ _ f => f) o4 f4 n5
      simp +contextual (disch := omega) only [↓AM, ↓AV, AP, CQ, CN, CB, i64, gm]
      refine ⟨_, ?_, p2, p3, oa', cap', L ++ [(p + q + cy) % 16777216], (p + q + cy) / 16777216, p1, dl_snoc hLd (by omega), by omega, ?_, ?_, rfl, ?_, ?_⟩
      · rw [List.length_append, List.length_singleton]; omega
      · rw [List.length_append, List.length_singleton]; omega
      · rw [List.length_append, List.length_singleton]
        intro e
        obtain ⟨z1, z2⟩ := hlast2 (by omega)
        omega
      · rw [List.length_append, List.length_singleton, vL_snoc, htx, hty, Nat.pow_succ, Nat.mul_assoc]
        have e5 : B24 ^ L.length * (16777216 * ((p + q + cy) / 16777216) + (p + q + cy) % 16777216) = B24 ^ L.length * (p + q + cy) := by congr 1; omega
        rw [Nat.mul_add, Nat.mul_add, Nat.mul_add] at e5
        show _ + B24 ^ L.length * _ + B24 ^ L.length * (16777216 * _) = _
        omega
      · simp
    · by_cases e2 : L.length < Y.length
      · simp +contextual (disch := omega) only [↓AM, ↓AV, AP, CQ, CN, CB, i64, s0, s1, e1, e2, n0, n1]
        refine (c_bdigit (i := L.length) (la.rd.keepW w fh1 nNo) (by omega)).use ?_
        rintro _ h2 w2 ⟨rfl, f2⟩
        obtain ⟨q3, q4, q5⟩ := rds h2 (f1.trans f2 fun _ _ f => f)
        have n3 : h2.rdN h.size 0 2 = some [.bool g1, .slice a X.length c] := rdN_mk q3 (by simp)
        have n4 : h2.rdN hA.size 0 2 = some [.bool g2, .slice b Y.length d] := rdN_mk q4 (by simp)
        simp +contextual (disch := omega) only [↓AM, ↓AV, AP, CQ, CN, CB, i64, n3, n4]
        refine ⟨⟨_, rfl, rfl⟩, ?_⟩
        refine (c_bdigit (i := L.length) (lb.rd.keepW w (fh1.trans f2 fun _ _ f => f) nNo) (by omega)).use ?_
        rintro _ h3 w3 ⟨rfl, f3⟩
        have f13 := f2.trans f3 fun _ _ f => f
        obtain ⟨q6, q7, q8⟩ := rds h3 (f1.trans f13 fun _ _ f => f)
        have n6 : h3.rdN h.size 0 2 = some [.bool g1, .slice a X.length c] := rdN_mk q6 (by simp)
        have n7 : h3.rdN hA.size 0 2 = some [.bool g2, .slice b Y.length d] := rdN_mk q7 (by simp)
        have gb3 := gb.keep w1 f13
        have r3 := gb3.r1
        generalize X.getD L.length 0 = p at *
        generalize Y.getD L.length 0 = q at *
        simp +contextual (disch := omega) only [↓AM, ↓AV, AP, CQ, CN, CB, i64, n3, n4, n6, n7, r3]
        refine gb3.ow.push (m := 1) w3 rfl ?_ fun oa' cap' h4 o4 w4 f4 n5 => ?_
        · omega
        have gm := gb3.mid w3 f4
        obtain ⟨p1, p2, p3⟩ := gb3.put (d := (p + q + cy) % 16777216) w3 w4 (f1.trans f13 fun _ _ f => f) o4 f4 n5
        simp +contextual (disch := omega) only [↓AM, ↓AV, AP, CQ, CN, CB, i64, gm]
        refine ⟨_, ?_, p2, p3, oa', cap', L ++ [(p + q + cy) % 16777216], (p + q + cy) / 16777216, p1, dl_snoc hLd (by omega), by omega, ?_, ?_, rfl, ?_, ?_⟩
        · rw [List.length_append, List.length_singleton]; omega
        · rw [List.length_append, List.length_singleton]; omega
        · rw [List.length_append, List.length_singleton]
          intro e
          obtain ⟨z1, z2⟩ := hlast2 (by omega)
          omega
        · rw [List.length_append, List.length_singleton, vL_snoc, htx, hty, Nat.pow_succ, Nat.mul_assoc]
          have e5 : B24 ^ L.length * (16777216 * ((p + q + cy) / 16777216) + (p + q + cy) % 16777216) = B24 ^ L.length * (p + q + cy) := by congr 1; omega
          rw [Nat.mul_add, Nat.mul_add, Nat.mul_add] at e5
          show _ + B24 ^ L.length * _ + B24 ^ L.length * (16777216 * _) = _
          omega
        · simp
      · have e3 := hgo e1 e2
        simp +contextual (disch := omega) only [↓AM, ↓AV, AP, CQ, CN, CB, i64, s0, s1, e1, e2, e3, n0, n1]
        refine (c_bdigit (i := L.length) (la.rd.keepW w fh1 nNo) (by omega)).use ?_
        rintro _ h2 w2 ⟨rfl, f2⟩
        obtain ⟨q3, q4, q5⟩ := rds h2 (f1.trans f2 fun _ _ f => f)
        have n3 : h2.rdN h.size 0 2 = some [.bool g1, .slice a X.length c] := rdN_mk q3 (by simp)
        have n4 : h2.rdN hA.size 0 2 = some [.bool g2, .slice b Y.length d] := rdN_mk q4 (by simp)
        simp +contextual (disch := omega) only [↓AM, ↓AV, AP, CQ, CN, CB, i64, n3, n4]
        refine ⟨⟨_, rfl, rfl⟩, ?_⟩
        refine (c_bdigit (i := L.length) (lb.rd.keepW w (fh1.trans f2 fun _ _ f => f) nNo) (by omega)).use ?_
        rintro _ h3 w3 ⟨rfl, f3⟩
        have f13 := f2.trans f3 fun _ _ f => f
        obtain ⟨q6, q7, q8⟩ := rds h3 (f1.trans f13 fun _ _ f => f)
        have n6 : h3.rdN h.size 0 2 = some [.bool g1, .slice a X.length c] := rdN_mk q6 (by simp)
        have n7 : h3.rdN hA.size 0 2 = some [.bool g2, .slice b Y.length d] := rdN_mk q7 (by simp)
        have gb3 := gb.keep w1 f13
        have r3 := gb3.r1
        generalize X.getD L.length 0 = p at *
        generalize Y.getD L.length 0 = q at *
        simp +contextual (disch := omega) only [↓AM, ↓AV, AP, CQ, CN, CB, i64, n3, n4, n6, n7, r3]
        refine gb3.ow.push (m := 1) w3 rfl ?_ fun oa' cap' h4 o4 w4 f4 n5 => ?_
        · omega
        have gm := gb3.mid w3 f4
        obtain ⟨p1, p2, p3⟩ := gb3.put (d := (p + q + cy) % 16777216) w3 w4 (f1.trans f13 fun _ _ f => f) o4 f4 n5
        simp +contextual (disch := omega) only [↓AM, ↓AV, AP, CQ, CN, CB, i64, gm]
        refine ⟨_, ?_, p2, p3, oa', cap', L ++ [(p + q + cy) % 16777216], (p + q + cy) / 16777216, p1, dl_snoc hLd (by omega), by omega, ?_, ?_, rfl, ?_, ?_⟩
        · rw [List.length_append, List.length_singleton]; omega
        · rw [List.length_append, List.length_singleton]; omega
        · rw [List.length_append, List.length_singleton]
          intro e
          obtain ⟨z1, z2⟩ := hlast2 (by omega)
          omega
        · rw [List.length_append, List.length_singleton, vL_snoc, htx, hty, Nat.pow_succ, Nat.mul_assoc]
          have e5 : B24 ^ L.length * (16777216 * ((p + q + cy) / 16777216) + (p + q + cy) % 16777216) = B24 ^ L.length * (p + q + cy) := by congr 1; omega
          rw [Nat.mul_add, Nat.mul_add, Nat.mul_add] at e5
          show _ + B24 ^ L.length * _ + B24 ^ L.length * (16777216 * _) = _
          omega
        · simp
end Go.Proofs.Ytikbdeobghoglaa.Nu

/- The Big numbers of the document: subtracted. Plain theorems over the abstract machine.
   Conditions: none. -/
namespace Go.Proofs.Ytikbdeobghoglaa.Nu
open Go Go.RowKit Go.Proofs.Ytikbdeobghoglaa.Am Go.Proofs.Ytikbdeobghoglaa.Af Go.Proofs.Ytikbdeobghoglaa.Md
set_option linter.unusedVariables false
set_option linter.unusedSimpArgs false
set_option linter.defProp false
set_option maxRecDepth 20000
set_option maxHeartbeats 1000000

theorem bor24 {X Y : List Nat} {L : List Nat} {n bor : Nat} (hL : L.length = n) (hd : Dl B24 L) (hb : bor ≤ 1) (hv : vL B24 L + vL B24 Y = vL B24 X + B24 ^ n * bor) (hle : vL B24 Y ≤ vL B24 X) : vL B24 L = vL B24 X - vL B24 Y := by
  have h1 := vL_lt hd
  rw [hL] at h1
  rcases (show bor = 0 ∨ bor = 1 by omega) with rfl | rfl
  · omega
  · rw [Nat.mul_one] at hv; omega
theorem BigV.up {S T : Nat → Prop} {h : Hp} {v : Value} {g : Bool} {x : Nat} (l : BigV S h v g x) (hs : ∀ z, S z → T z) : BigV T h v g x := by
  obtain ⟨u, e, oa, c, e2, l, hS⟩ := l
  exact ⟨u, e, oa, c, e2, l, fun z hz => hs z (hS z hz)⟩
theorem BigV.keep {S : Nat → Prop} {h h' : Hp} {v : Value} {g : Bool} {x : Nat} (l : BigV S h v g x) (w : Wf h) (fm : Fm No h h') : BigV S h' v g x := by
  obtain ⟨u, e, l⟩ := l
  exact ⟨u, e, l.keep w fm⟩
/-- A Big in new blocks stays when an older block is written. -/
theorem BigV.put {h0 h h' : Hp} {b : Nat} {v : Value} {g : Bool} {x : Nat} (l : BigV (fun z => h0.size ≤ z) h v g x) (w : Wf h) (fm : Fm (fun y => y = b) h h') (hb : b < h0.size) : BigV (fun z => h0.size ≤ z) h' v g x := by
  obtain ⟨u, e, oa, c, e2, l, hS⟩ := l
  exact ⟨u, e, oa, c, e2, ⟨l.rd.keep w fm fun z hz f => by have := hS z hz; omega, l.le, l.dl, l.fl, l.nl⟩, hS⟩
theorem rd_lt {h : Hp} (w : Wf h) {b i : Nat} {v : Value} (e : h.rd b i = some v) : b < h.size := by
  unfold Hp.rd at e
  cases hg : h.get b with
  | none => rw [hg] at e; cases e
  | some o => exact w.lt hg
theorem c_bminus {h : Hp} {a b : Option Addr} {c d x y : Nat} {g1 g2 : Bool} (la : Em h a (de x).length c (de x)) (lb : Em h b (de y).length d (de y)) (hx : (de x).length ≤ 400000) (hy : (de y).length ≤ 400000) (hle : y ≤ x) :
    ACalls Try.prog 137 [.agg #[.bool g1, .slice a (de x).length c], .agg #[.bool g2, .slice b (de y).length d]] h fun v h' => BigV (fun z => h.size ≤ z) h' v false (x - y) ∧ Fm No h h' := by
  refine dioramaref00_minus_ok.snd hm rfl fun w => ?_
  rw [WF_eq, dioramaref00_minus]
  have xval : vL B24 (de x) = x := de_val x
  have yval : vL B24 (de y) = y := de_val y
  have hll : (de y).length ≤ (de x).length := by
    rcases Nat.lt_or_ge (de x).length (de y).length with h | h
    · have := len_lt b24 (de_dl x) (dig_nz (hB := b24) y) h
      rw [de_val, show vL B24 (dig B24 b24 y) = y from de_val y] at this
      omega
    · exact h
  generalize hX : de x = X at *
  generalize hY : de y = Y at *
  obtain ⟨hA, hhA⟩ : ∃ g, h.new ⟨[.bool g1, .slice a X.length c], .own⟩ = g := ⟨_, rfl⟩
  obtain ⟨hB, hhB⟩ : ∃ g, hA.new ⟨[.bool g2, .slice b Y.length d], .own⟩ = g := ⟨_, rfl⟩
  obtain ⟨hC, hhC⟩ : ∃ g, hB.new ⟨[.bool false, .slice none 0 0], .own⟩ = g := ⟨_, rfl⟩
  obtain ⟨hD, hhD⟩ : ∃ g, hC.new ⟨[.bool false, .slice none 0 0], .own⟩ = g := ⟨_, rfl⟩
  have wA : Wf hA := hhA ▸ w.new
  have wB : Wf hB := hhB ▸ wA.new
  have wC : Wf hC := hhC ▸ wB.new
  have wD : Wf hD := hhD ▸ wC.new
  have fmA : Fm No h hA := hhA ▸ Fm.new Fm.refl
  have fmB : Fm No hA hB := hhB ▸ Fm.new Fm.refl
  have fmC : Fm No hB hC := hhC ▸ Fm.new Fm.refl
  have fmD : Fm No hC hD := hhD ▸ Fm.new Fm.refl
  have sA : hA.size = h.size + 1 := by rw [← hhA]; rfl
  have sB : hB.size = h.size + 2 := by rw [← hhB, size_new, sA]
  have sC : hC.size = h.size + 3 := by rw [← hhC, size_new, sB]
  have gA : hA.get h.size = some ⟨[.bool g1, .slice a X.length c], .own⟩ := hhA ▸ gnew
  have gB : hB.get hA.size = some ⟨[.bool g2, .slice b Y.length d], .own⟩ := hhB ▸ gnew
  have gC : hC.get hB.size = some ⟨[.bool false, .slice none 0 0], .own⟩ := hhC ▸ gnew
  have gb0 : Gb hC hD hC.size false none 0 [] := hhD ▸ Gb.mk0 Fm.refl
  have fC := (fmA.trans fmB fun _ _ f => f).trans fmC fun _ _ f => f
  have rds : ∀ g : Hp, Fm No hC g → g.get h.size = some ⟨[.bool g1, .slice a X.length c], .own⟩ ∧ g.get hA.size = some ⟨[.bool g2, .slice b Y.length d], .own⟩ ∧ g.get hB.size = some ⟨[.bool false, .slice none 0 0], .own⟩ := fun g fg =>
    ⟨fg.keep wC (fmC.keep wB (fmB.keep wA gA (fun f => f)) (fun f => f)) (fun f => f), fg.keep wC (fmC.keep wB gB (fun f => f)) (fun f => f), fg.keep wC gC (fun f => f)⟩
  obtain ⟨i0, i1, i2⟩ := rds hC Fm.refl
  simp +contextual (disch := omega) only [↓AM, ↓AV, AP, CQ, CN, CB, i64, hhA, hhB, hhC, hhD]
  refine WL.mk (fun k t h' => Wf h' ∧ Fm No hC h' ∧ ∃ oa cap L bor, Gb hC h' hC.size false oa cap L ∧ Dl B24 L ∧ bor ≤ 1 ∧ L.length ≤ X.length ∧ k = X.length - L.length ∧ vL B24 L + vL B24 (Y.take L.length) = vL B24 (X.take L.length) + B24 ^ L.length * bor ∧
      t = [(2, some (.pointer (some ⟨h.size, 0, none⟩))), (3, some (.pointer (some ⟨hA.size, 0, none⟩))), (4, some (.pointer (some ⟨hB.size, 0, none⟩))), (5, some (.pointer (some ⟨hC.size, 0, none⟩))), (6, some (.int .i64 (bor : Int))), (7, some (.int .i64 (L.length : Int)))])
    ⟨X.length, wD, fmD, none, 0, [], 0, gb0, (fun d hd => by cases hd), by decide, Nat.zero_le _, rfl, by simp [vL], rfl⟩ ?_
  rintro k t h1 ⟨w1, f1, oa, cap, L, bor, gb, hLd, hb, hLl, rfl, hv, rfl⟩
  have fh1 := fC.trans f1 fun _ _ f => f
  obtain ⟨q0, q1, q2⟩ := rds h1 f1
  have s0 := rd_mk q0 (i := 1)
  have s1 := rd_mk q1 (i := 1)
  have n0 : h1.rdN h.size 0 2 = some [.bool g1, .slice a X.length c] := rdN_mk q0 (by simp)
  have n1 : h1.rdN hA.size 0 2 = some [.bool g2, .slice b Y.length d] := rdN_mk q1 (by simp)
  by_cases hin : L.length < X.length
  · obtain ⟨b1, o1, sp1, p, rfl, f2, hp, r1⟩ := (la.rd.keepW w fh1 nNo).dec24 hin
    have hpl : p < 16777216 := la.dl.at hp
    have hpD : X.getD L.length 0 = p := by rw [List.getD_eq_getElem?_getD, hp]; rfl
    have ybd := getD24 lb.dl L.length
    have htx := take_getD24 (Y := X) L.length
    have hty := take_getD24 (Y := Y) L.length
    rw [hpD] at htx
    simp +contextual (disch := omega) only [↓AM, ↓AV, AP, CQ, CN, CB, i64, s0, s1, hin, n0, n1, f2, r1]
    refine (c_bdigit (i := L.length) (lb.rd.keepW w fh1 nNo) (by omega)).use ?_
    rintro _ h3 w3 ⟨rfl, f13⟩
    obtain ⟨q6, q7, q8⟩ := rds h3 (f1.trans f13 fun _ _ f => f)
    have t0 := rd_mk q6 (i := 1)
    have n6 : h3.rdN h.size 0 2 = some [.bool g1, .slice (some ⟨b1, o1, sp1⟩) X.length c] := rdN_mk q6 (by simp)
    have n7 : h3.rdN hA.size 0 2 = some [.bool g2, .slice b Y.length d] := rdN_mk q7 (by simp)
    have r3 := (rd_keep (f13.get b1 (rd_lt w1 r1) (fun f => f))).trans r1
    have gb3 := gb.keep w1 f13
    have r4 := gb3.r1
    generalize Y.getD L.length 0 = q at *
    have step : ∀ dd bo : Nat, dd < 16777216 → bo ≤ 1 → dd + q + bor = p + 16777216 * bo → vL B24 (L ++ [dd]) + vL B24 (Y.take (L ++ [dd]).length) = vL B24 (X.take (L ++ [dd]).length) + B24 ^ (L ++ [dd]).length * bo := by
      intro dd bo h1 h2 h3
      have e : (L ++ [dd]).length = L.length + 1 := by simp
      rw [e, vL_snoc, htx, hty, Nat.pow_succ, Nat.mul_assoc]
      have e1 : B24 ^ L.length * (dd + q + bor) = B24 ^ L.length * (p + 16777216 * bo) := by rw [h3]
      rw [Nat.mul_add, Nat.mul_add, Nat.mul_add] at e1
      show _ + B24 ^ L.length * dd + (_ + B24 ^ L.length * q) = _ + B24 ^ L.length * p + B24 ^ L.length * (16777216 * bo)
      omega
    have c1 : ∀ dd : Nat, (L ++ [dd]).length = L.length + 1 := fun dd => by simp
    by_cases hneg : (p : Int) - (q : Int) - (bor : Int) < 0
    · obtain ⟨dd, hdd⟩ : ∃ dd : Nat, (p : Int) - (q : Int) - (bor : Int) + 16777216 = (dd : Int) := ⟨_, (Int.toNat_of_nonneg (by omega)).symm⟩
      simp +contextual (disch := omega) only [↓AM, ↓AV, AP, CQ, CN, CB, i64, t0, n6, n7, r3, r4, hneg, hdd]
      refine gb3.ow.push (m := 1) w3 rfl ?_ fun oa' cap' h4 o4 w4 f4 n5 => ?_
      · omega
      have gm := gb3.mid w3 f4
      obtain ⟨p1, p2, p3⟩ := gb3.put (d := dd) w3 w4 (f1.trans f13 fun _ _ f => f) o4 f4 n5
      simp +contextual (disch := omega) only [↓AM, ↓AV, AP, CQ, CN, CB, i64, gm]
      exact ⟨X.length - (L.length + 1), by omega, p2, p3, oa', cap', L ++ [dd], 1, p1, dl_snoc hLd (by omega), by decide, by rw [c1]; omega, by rw [c1], step dd 1 (by omega) (by decide) (by omega), by simp⟩
    · obtain ⟨dd, hdd⟩ : ∃ dd : Nat, (p : Int) - (q : Int) - (bor : Int) = (dd : Int) := ⟨_, (Int.toNat_of_nonneg (by omega)).symm⟩
      rw [hdd] at hneg
      simp +contextual (disch := omega) only [↓AM, ↓AV, AP, CQ, CN, CB, i64, t0, n6, n7, r3, r4, hdd, hneg]
      refine gb3.ow.push (m := 1) w3 rfl ?_ fun oa' cap' h4 o4 w4 f4 n5 => ?_
      · omega
      have gm := gb3.mid w3 f4
      obtain ⟨p1, p2, p3⟩ := gb3.put (d := dd) w3 w4 (f1.trans f13 fun _ _ f => f) o4 f4 n5
      simp +contextual (disch := omega) only [↓AM, ↓AV, AP, CQ, CN, CB, i64, gm]
      exact ⟨X.length - (L.length + 1), by omega, p2, p3, oa', cap', L ++ [dd], 0, p1, dl_snoc hLd (by omega), by decide, by rw [c1]; omega, by rw [c1], step dd 0 (by omega) (by decide) (by omega), by simp⟩
  · rw [List.take_of_length_le (l := X) (by omega), List.take_of_length_le (l := Y) (by omega)] at hv
    have hval := bor24 (n := L.length) rfl hLd hb hv (by omega)
    rw [xval, yval] at hval
    have y1 : h1.rdN hC.size 0 2 = some [.bool false, .slice oa L.length cap] := rdN_mk gb.get (by simp)
    simp +contextual (disch := omega) only [↓AM, ↓AV, AP, CQ, CN, CB, i64, s0, s1, hin, y1]
    refine (c_btrim (gb.em hLd) (by omega) gb.flag gb.ow.nil).use ?_
    rintro _ h2 w2 ⟨⟨u, rfl, l⟩, f2⟩
    obtain ⟨q3, q4, q5⟩ := rds h2 (f1.trans f2 fun _ _ f => f)
    obtain ⟨h3, hh3⟩ : ∃ g, h2.put hB.size ⟨[.bool (false && decide (0 < vL B24 L)), u], .own⟩ = g := ⟨_, rfl⟩
    have y3 : h3.rdN hB.size 0 2 = some [.bool (false && decide (0 < vL B24 L)), u] := by rw [← hh3]; exact rdN_mk gput (by simp)
    obtain ⟨oa2, c2, rfl, l, hS⟩ := l
    simp +contextual (disch := omega) only [↓AM, ↓AV, AP, CQ, CN, CB, i64, q5, hh3, y3]
    have fp : Fm (fun x => x = hB.size) h2 h3 := hh3 ▸ Fm.put Fm.refl fun _ => rfl
    have := fh1.size
    rw [hval] at *
    exact ⟨⟨_, rfl, oa2, c2, rfl, ⟨l.rd.keep w2 fp fun x hx e => by have := hS x hx; have := w1.lt gb.get; omega, l.le, l.dl, l.fl, l.nl⟩, fun z hz => by have := hS z hz; omega⟩, (fh1.trans f2 fun _ _ f => f).trans fp fun x hx e => by omega⟩
end Go.Proofs.Ytikbdeobghoglaa.Nu
