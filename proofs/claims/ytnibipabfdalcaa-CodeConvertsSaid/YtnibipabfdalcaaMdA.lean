/- Tracks in memory. Plain theorems over the abstract machine.
   Conditions: none. -/
import Derived.Test.YtnibipabfdalcaaAfA
import Derived.Test.YtnibipabfdalcaaAmZb
import Derived.IntWalk
namespace Go.Proofs.Ytnibipabfdalcaa.Md
open Go Go.RowKit Go.Proofs.Ytnibipabfdalcaa.Am Go.Proofs.Ytnibipabfdalcaa.Af
set_option linter.unusedVariables false
set_option linter.unusedSimpArgs false
set_option linter.defProp false
set_option maxRecDepth 20000

theorem i64 {n : Int} (h : -9223372036854775808 ≤ n ∧ n ≤ 9223372036854775807) : IntKind.i64.wrap n = n := IntWalk.i64_in n h
theorem u64 {n : Int} (h : 0 ≤ n ∧ n ≤ 18446744073709551615) : IntKind.u64.wrap n = n := IntWalk.u64_in n h
theorem u32 {n : Int} (h : 0 ≤ n ∧ n ≤ 4294967295) : IntKind.u32.wrap n = n := IntWalk.u32_in n h
theorem u8 {n : Int} (h : 0 ≤ n ∧ n ≤ 255) : IntKind.u8.wrap n = n := IntWalk.u8_in n h
theorem i64s {i : Nat} (h : (i : Int) ≤ 9223372036854775806) : IntKind.i64.wrap ((i : Int) + 1) = ((i + 1 : Nat) : Int) := by rw [i64 (by omega)]; rfl
def Bytes (l : List Int) : Prop := ∀ x ∈ l, 0 ≤ x ∧ x ≤ 255

/-! ### words for simp -/
theorem nadd (a b : Nat) : (a : Int) + (b : Int) = ((a + b : Nat) : Int) := rfl
theorem nadd1 (a : Nat) : (a : Int) + 1 = ((a + 1 : Nat) : Int) := rfl
theorem nsub1 (a : Nat) : ((a + 1 : Nat) : Int) - 1 = (a : Int) := by omega
theorem tn_1 : Int.toNat 1 = 1 := rfl
theorem le01 : ((0 : Int) ≤ 1) = True := by simp
theorem le00 : ((0 : Int) ≤ 0) = True := by simp
theorem lt00 : ((0 : Int) < ((0 : Nat) : Int)) = False := by simp
theorem src_n1 {h : Hp} {a : Value} {md : Md} : (h.new ⟨[a], md⟩).src 1 (.slice (some ⟨h.size, 0, none⟩) 1 1) = some [a] := src_new rfl
theorem src_n2 {h : Hp} {a b : Value} {md : Md} : (h.new ⟨[a, b], md⟩).src 2 (.slice (some ⟨h.size, 0, none⟩) 1 1) = some [a, b] := src_new rfl
theorem src_n6 {h : Hp} {a b c d e f : Value} {md : Md} : (h.new ⟨[a, b, c, d, e, f], md⟩).src 6 (.slice (some ⟨h.size, 0, none⟩) 1 1) = some [a, b, c, d, e, f] := src_new rfl
theorem rdN_new {h : Hp} {cs : List Value} {md : Md} {m : Nat} (e : lenIs cs m = true) : (h.new ⟨cs, md⟩).rdN h.size 0 m = some cs := by
  have hl : cs.length = m := by rw [lenIs_p]; exact e
  rw [rdN_mk get_new_self (by simp [hl]), List.drop_zero, List.take_of_length_le (by simp [hl])]
theorem rd_n2 {h : Hp} {a b : Value} {md : Md} : (h.new ⟨[a, b], md⟩).rdN h.size 0 2 = some [a, b] := rdN_new rfl
theorem rd_n4 {h : Hp} {a b c d : Value} {md : Md} : (h.new ⟨[a, b, c, d], md⟩).rdN h.size 0 4 = some [a, b, c, d] := rdN_new rfl
theorem rd_n6 {h : Hp} {a b c d e f : Value} {md : Md} : (h.new ⟨[a, b, c, d, e, f], md⟩).rdN h.size 0 6 = some [a, b, c, d, e, f] := rdN_new rfl
theorem rd_n11 {h : Hp} {a b c d e f g i j k l : Value} {md : Md} : (h.new ⟨[a, b, c, d, e, f, g, i, j, k, l], md⟩).rdN h.size 0 11 = some [a, b, c, d, e, f, g, i, j, k, l] := rdN_new rfl
def CQ := And.intro @rd_n2 <| And.intro @rd_n4 <| And.intro @rd_n6 <| And.intro @rd_n11 <| And.intro @tn_1 (And.intro @le01 (And.intro @le00 (And.intro @lt00 (And.intro @nsub1 (And.intro @nadd1 (And.intro @nadd (And.intro @src_n1 (And.intro @src_n2 (And.intro @src_n6 @new_put)))))))))

/-! ### rows -/
theorem rdN_sub {h : Hp} {b off m k l : Nat} {cs : List Value} (e : h.rdN b off m = some cs) (hk : k + l ≤ m) : h.rdN b (off + k) l = some ((cs.drop k).take l) := by
  obtain ⟨ob, h1, h2, rfl⟩ := rdN_of e
  rw [rdN_mk h1 (by omega)]
  congr 1
  rw [List.drop_take, List.take_take, List.drop_drop, Nat.min_eq_left (by omega)]
theorem row_elem {α : Type} {d : AKd α} {z : Nat} (hz : d.sz = z) {h g : Hp} {oa : Option Addr} {n : Nat} {r : List Value} {xs : List α} (rd : Rd h z oa n r) (row : AKd.Row (d.A g) xs r) (hl : xs.length = n) {i : Nat} (hi : i < n) :
    ∃ b off sp x c, oa = some ⟨b, off, sp⟩ ∧ flagOk sp = true ∧ xs[i]? = some x ∧ d.A g x c ∧ h.rdN b (off + i * z) z = some c ∧ ∀ j v, c[j]? = some v → h.rd b (off + i * z + j) = some v := by
  subst hz
  obtain ⟨b, off, sp, e, h1, h2⟩ := rd.pos (by omega)
  have hx : xs[i]? = some xs[i] := List.getElem?_eq_getElem (by omega)
  have hc := AKd.Row.get (fun x cs h => d.alen h) row hx
  have h3 := rdN_sub (k := i * d.sz) (l := d.sz) h2 (by rw [← Nat.succ_mul]; exact Nat.mul_le_mul_right _ hi)
  exact ⟨b, off, sp, _, _, e, h1, hx, hc, h3, fun j v hv => rdN_get h3 hv⟩
theorem row_flat {α : Type} {A : α → List Value → Prop} {f : α → List Value} (hf : ∀ x cs, A x cs → cs = f x) : ∀ {xs : List α} {cs : List Value}, AKd.Row A xs cs → cs = xs.flatMap f
  | [], _, h => h
  | x :: xs, _, ⟨c, r, e, h1, h2⟩ => by
    rw [e, hf x c h1, row_flat hf h2]; rfl
theorem flat_row {α : Type} {A : α → List Value → Prop} {f : α → List Value} (hf : ∀ x, A x (f x)) : ∀ xs : List α, AKd.Row A xs (xs.flatMap f)
  | [] => rfl
  | x :: xs => ⟨f x, xs.flatMap f, rfl, hf x, flat_row hf xs⟩
theorem row_snoc {α : Type} {A : α → List Value → Prop} : ∀ {xs : List α} {x : α} {cs c : List Value}, AKd.Row A xs cs → A x c → AKd.Row A (xs ++ [x]) (cs ++ c)
  | [], x, cs, c, h, hx => by
    have h : cs = [] := h
    subst h
    exact ⟨c, [], by simp, hx, rfl⟩
  | y :: xs, x, cs, c, ⟨d, r, e, h1, h2⟩, hx => ⟨d, r ++ c, by rw [e]; simp, h1, row_snoc h2 hx⟩
theorem row_len {α : Type} {d : AKd α} {h : Hp} {xs : List α} {r : List Value} (row : AKd.Row (d.A h) xs r) : r.length = xs.length * d.sz := AKd.Row.len (fun x cs => d.alen) row
theorem _root_.Go.Proofs.Ytnibipabfdalcaa.Am.Rd.keepW {h h' : Hp} {z n : Nat} {oa : Option Addr} {cs : List Value} {F : Nat → Prop} (w : Wf h) (r : Rd h z oa n cs) (f : Fm F h h') (hF : ∀ x, x < h.size → ¬ F x) : Rd h' z oa n cs :=
  ⟨r.len, r.nil, fun a ha => (r.at_ a ha).imp (fun ⟨h1, h2⟩ => ⟨h1, (rdN_keep (f.get _ (rdN_wf w h2) (hF _ (rdN_wf w h2)))).trans h2⟩) id⟩
/-- What only new blocks have suffered. -/
theorem _root_.Go.Proofs.Ytnibipabfdalcaa.Am.Fm.exF {h h' : Hp} {F : Nat → Prop} (f : Fm F h h') (w : Wf h) (hF : ∀ x, x < h.size → ¬ F x) : Ex h h' := fun b o e => f.keep w e (hF _ (w.lt e))
theorem _root_.Go.Proofs.Ytnibipabfdalcaa.Am.Ex.rd {h h' : Hp} (x : Ex h h') {b i : Nat} {v : Value} (e : h.rd b i = some v) : h'.rd b i = some v := by
  unfold Hp.rd at e ⊢
  cases hg : h.get b with
  | none => rw [hg] at e; cases e
  | some o => rw [hg] at e; rw [x b o hg]; exact e
theorem ints_open {k : IntKind} {h : Hp} {xs : List Int} {cs : List Value} (a : (AKd.slice (AKd.int k)).A h xs cs) : ∃ oa c, cs = [.slice oa xs.length c] ∧ Rd h 1 oa xs.length (xs.map (Value.int k)) ∧ xs.length ≤ c := by
  obtain ⟨oa, c, r, h1, h2, h3, h4⟩ := a
  have := AKd.Row.int h3
  subst this
  exact ⟨oa, c, h1, h2, h4⟩
theorem flat_int {k : IntKind} : ∀ xs : List Int, xs.flatMap (fun x => [Value.int k x]) = xs.map (Value.int k)
  | [] => rfl
  | x :: xs => by rw [List.flatMap_cons, flat_int xs]; rfl
theorem ints_mk {k : IntKind} {h : Hp} {xs : List Int} {oa : Option Addr} {c : Nat} (r : Rd h 1 oa xs.length (xs.map (Value.int k))) (hc : xs.length ≤ c) : (AKd.slice (AKd.int k)).A h xs [.slice oa xs.length c] := by
  refine ⟨oa, c, _, rfl, r, ?_, hc⟩
  have := flat_row (A := (AKd.int k).A h) (f := fun x => [Value.int k x]) (fun x => rfl) xs
  have e := flat_int (k := k) xs
  rw [e] at this
  exact this

/-! ### samples and tracks -/
abbrev Edit := Int × Int × Int × Int
abbrev Rf := ByteArray × Int
abbrev Smp := Int × Int × Int × Bool × List Int × List Int
abbrev Trk := Int × Int × ByteArray × Int × List Int × ByteArray × ByteArray × Int × List Edit × List Rf × List Smp
abbrev editK : AKd Edit := AKd.pair (AKd.int .i64) (AKd.pair (AKd.int .i64) (AKd.pair (AKd.int .i64) (AKd.int .i64)))
abbrev refK : AKd Rf := AKd.pair AKd.string (AKd.int .i64)
abbrev smpK : AKd Smp := AKd.pair (AKd.int .i64) (AKd.pair (AKd.int .i64) (AKd.pair (AKd.int .i64) (AKd.pair AKd.bool (AKd.pair (AKd.slice (AKd.int .i64)) (AKd.slice (AKd.int .u8))))))
abbrev trkK : AKd Trk := AKd.pair (AKd.int .i64) (AKd.pair (AKd.int .i64) (AKd.pair AKd.string (AKd.pair (AKd.int .i64) (AKd.pair (AKd.slice (AKd.int .u8)) (AKd.pair AKd.string (AKd.pair AKd.string (AKd.pair (AKd.int .i64)
  (AKd.pair (AKd.slice editK) (AKd.pair (AKd.slice refK) (AKd.slice smpK))))))))))
def Smp.dts (s : Smp) : Int := s.1
def Smp.pts (s : Smp) : Int := s.2.1
def Smp.dur (s : Smp) : Int := s.2.2.1
def Smp.sync (s : Smp) : Bool := s.2.2.2.1
def Smp.deps (s : Smp) : List Int := s.2.2.2.2.1
def Smp.data (s : Smp) : List Int := s.2.2.2.2.2
def editC (e : Edit) : List Value := [.int .i64 e.1, .int .i64 e.2.1, .int .i64 e.2.2.1, .int .i64 e.2.2.2]
def refC (r : Rf) : List Value := [.string r.1, .int .i64 r.2]
theorem edit_cells {h : Hp} (x : Edit) (cs : List Value) (a : editK.A h x cs) : cs = editC x := by
  obtain ⟨c1, c2, rfl, h1, c3, c4, rfl, h2, c5, c6, rfl, h3, h4⟩ := a
  have h1 : c1 = [.int .i64 x.1] := h1
  have h2 : c3 = [.int .i64 x.2.1] := h2
  have h3 : c5 = [.int .i64 x.2.2.1] := h3
  have h4 : c6 = [.int .i64 x.2.2.2] := h4
  rw [h1, h2, h3, h4]; rfl
theorem ref_cells {h : Hp} (x : Rf) (cs : List Value) (a : refK.A h x cs) : cs = refC x := by
  obtain ⟨c1, c2, rfl, h1, h2⟩ := a
  have h1 : c1 = [.string x.1] := h1
  have h2 : c2 = [.int .i64 x.2] := h2
  rw [h1, h2]; rfl
theorem smp_open {h : Hp} {s : Smp} {c : List Value} (a : smpK.A h s c) : ∃ pa pc da dc, c = [.int .i64 s.dts, .int .i64 s.pts, .int .i64 s.dur, .bool s.sync, .slice pa s.deps.length pc, .slice da s.data.length dc] ∧
    Rd h 1 pa s.deps.length (s.deps.map (Value.int .i64)) ∧ s.deps.length ≤ pc ∧ Rd h 1 da s.data.length (s.data.map (Value.int .u8)) ∧ s.data.length ≤ dc := by
  obtain ⟨c1, c2, rfl, h1, c3, c4, rfl, h2, c5, c6, rfl, h3, c7, c8, rfl, h4, c9, c10, rfl, h5, h6⟩ := a
  have h1 : c1 = [.int .i64 s.1] := h1
  have h2 : c3 = [.int .i64 s.2.1] := h2
  have h3 : c5 = [.int .i64 s.2.2.1] := h3
  have h4 : c7 = [.bool s.2.2.2.1] := h4
  obtain ⟨pa, pc, rfl, r1, l1⟩ := ints_open h5
  obtain ⟨da, dc, rfl, r2, l2⟩ := ints_open h6
  exact ⟨pa, pc, da, dc, by rw [h1, h2, h3, h4]; rfl, r1, l1, r2, l2⟩
theorem smp_mk {h : Hp} {s : Smp} {pa da : Option Addr} {pc dc : Nat} (r1 : Rd h 1 pa s.deps.length (s.deps.map (Value.int .i64))) (l1 : s.deps.length ≤ pc) (r2 : Rd h 1 da s.data.length (s.data.map (Value.int .u8))) (l2 : s.data.length ≤ dc) :
    smpK.A h s [.int .i64 s.dts, .int .i64 s.pts, .int .i64 s.dur, .bool s.sync, .slice pa s.deps.length pc, .slice da s.data.length dc] :=
  ⟨[.int .i64 s.1], _, rfl, rfl, [.int .i64 s.2.1], _, rfl, rfl, [.int .i64 s.2.2.1], _, rfl, rfl, [.bool s.2.2.2.1], _, rfl, rfl, [_], [_], rfl, ints_mk r1 l1, ints_mk r2 l2⟩
def Trk.id (t : Trk) : Int := t.1
def Trk.kind (t : Trk) : Int := t.2.1
def Trk.codec (t : Trk) : ByteArray := t.2.2.1
def Trk.scale (t : Trk) : Int := t.2.2.2.1
def Trk.setup (t : Trk) : List Int := t.2.2.2.2.1
def Trk.lang (t : Trk) : ByteArray := t.2.2.2.2.2.1
def Trk.name (t : Trk) : ByteArray := t.2.2.2.2.2.2.1
def Trk.preroll (t : Trk) : Int := t.2.2.2.2.2.2.2.1
def Trk.edits (t : Trk) : List Edit := t.2.2.2.2.2.2.2.2.1
def Trk.refs (t : Trk) : List Rf := t.2.2.2.2.2.2.2.2.2.1
def Trk.samples (t : Trk) : List Smp := t.2.2.2.2.2.2.2.2.2.2
/-- The cells of a track, and what they lead to. -/
structure TrkC (h : Hp) (t : Trk) (cs : List Value) (sa ea ra qa : Option Addr) (sc ec rc qc : Nat) (qr : List Value) : Prop where
  cells : cs = [.int .i64 t.id, .int .i64 t.kind, .string t.codec, .int .i64 t.scale, .slice sa t.setup.length sc, .string t.lang, .string t.name, .int .i64 t.preroll, .slice ea t.edits.length ec, .slice ra t.refs.length rc, .slice qa t.samples.length qc]
  setup : Rd h 1 sa t.setup.length (t.setup.map (Value.int .u8))
  edits : Rd h 4 ea t.edits.length (t.edits.flatMap editC)
  refs : Rd h 2 ra t.refs.length (t.refs.flatMap refC)
  samples : Rd h 6 qa t.samples.length qr
  row : AKd.Row (smpK.A h) t.samples qr
  c1 : t.setup.length ≤ sc
  c2 : t.edits.length ≤ ec
  c3 : t.refs.length ≤ rc
  c4 : t.samples.length ≤ qc
theorem trk_open {h : Hp} {t : Trk} {cs : List Value} (a : trkK.A h t cs) : ∃ sa ea ra qa sc ec rc qc qr, TrkC h t cs sa ea ra qa sc ec rc qc qr := by
  obtain ⟨c1, c2, rfl, h1, c3, c4, rfl, h2, c5, c6, rfl, h3, c7, c8, rfl, h4, c9, c10, rfl, h5, c11, c12, rfl, h6, c13, c14, rfl, h7, c15, c16, rfl, h8, c17, c18, rfl, h9, c19, c20, rfl, h10, h11⟩ := a
  have h1 : c1 = [.int .i64 t.1] := h1
  have h2 : c3 = [.int .i64 t.2.1] := h2
  have h3 : c5 = [.string t.2.2.1] := h3
  have h4 : c7 = [.int .i64 t.2.2.2.1] := h4
  have h6 : c11 = [.string t.2.2.2.2.2.1] := h6
  have h7 : c13 = [.string t.2.2.2.2.2.2.1] := h7
  have h8 : c15 = [.int .i64 t.2.2.2.2.2.2.2.1] := h8
  obtain ⟨sa, sc, rfl, r1, l1⟩ := ints_open h5
  obtain ⟨ea, ec, er, rfl, r2, w2, l2⟩ := h9
  obtain ⟨ra, rc, rr, rfl, r3, w3, l3⟩ := h10
  obtain ⟨qa, qc, qr, rfl, r4, w4, l4⟩ := h11
  rw [row_flat edit_cells w2] at r2
  rw [row_flat ref_cells w3] at r3
  exact ⟨sa, ea, ra, qa, sc, ec, rc, qc, qr, ⟨by rw [h1, h2, h3, h4, h6, h7, h8]; rfl, r1, r2, r3, r4, w4, l1, l2, l3, l4⟩⟩
theorem editA (h : Hp) (x : Edit) : editK.A h x (editC x) := ⟨[.int .i64 x.1], _, rfl, rfl, [.int .i64 x.2.1], _, rfl, rfl, [.int .i64 x.2.2.1], [.int .i64 x.2.2.2], rfl, rfl, rfl⟩
theorem refA (h : Hp) (x : Rf) : refK.A h x (refC x) := ⟨[.string x.1], [.int .i64 x.2], rfl, rfl, rfl⟩
theorem TrkC.mk' {h : Hp} {t : Trk} {cs : List Value} {sa ea ra qa : Option Addr} {sc ec rc qc : Nat} {qr : List Value} (c : TrkC h t cs sa ea ra qa sc ec rc qc qr) : trkK.A h t cs := by
  rw [c.cells]
  exact ⟨[.int .i64 t.1], _, rfl, rfl, [.int .i64 t.2.1], _, rfl, rfl, [.string t.2.2.1], _, rfl, rfl, [.int .i64 t.2.2.2.1], _, rfl, rfl, [_], _, rfl, ints_mk c.setup c.c1, [.string t.2.2.2.2.2.1], _, rfl, rfl, [.string t.2.2.2.2.2.2.1], _, rfl, rfl, [.int .i64 t.2.2.2.2.2.2.2.1], _, rfl, rfl,
    [_], _, rfl, ⟨ea, ec, _, rfl, c.edits, flat_row (editA h) _, c.c2⟩, [_], [_], rfl, ⟨ra, rc, _, rfl, c.refs, flat_row (refA h) _, c.c3⟩, ⟨qa, qc, qr, rfl, c.samples, c.row, c.c4⟩⟩
theorem TrkC.ex {h h' : Hp} {t : Trk} {cs : List Value} {sa ea ra qa : Option Addr} {sc ec rc qc : Nat} {qr : List Value} (c : TrkC h t cs sa ea ra qa sc ec rc qc qr) (x : Ex h h') : TrkC h' t cs sa ea ra qa sc ec rc qc qr :=
  ⟨c.cells, c.setup.ex x, c.edits.ex x, c.refs.ex x, c.samples.ex x, c.row.mono fun y cs hy => smpK.mono x hy, c.c1, c.c2, c.c3, c.c4⟩
end Go.Proofs.Ytnibipabfdalcaa.Md
