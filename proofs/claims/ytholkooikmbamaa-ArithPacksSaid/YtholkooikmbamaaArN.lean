/- The decoders read a bit. Plain theorems over the abstract machine.
   Conditions: none. -/
import Derived.Test.YtholkooikmbamaaArF
namespace Go.Proofs.Ytholkooikmbamaa.Ar
open Go Go.RowKit Go.Proofs.Ytholkooikmbamaa.Am Go.Proofs.Ytholkooikmbamaa.Af
set_option linter.unusedVariables false
set_option linter.unusedSimpArgs false
set_option maxRecDepth 20000

/-- A decoder: its code, its range, and how many bytes were read. -/
structure De where
  code : Int
  span : Int
  pos : Nat
structure DGd (s : De) (n : Nat) : Prop where
  code : 0 ≤ s.code ∧ s.code ≤ 4294967295
  span : 16777216 ≤ s.span ∧ s.span ≤ 4294967295
  pos : s.pos ≤ n
def gbit (s : De) (p : Int) : Int := if s.code < s.span / 4096 * p then 0 else 1
/-- Behind the bit, before bytes are read. -/
def gmid (s : De) (p : Int) : De := if s.code < s.span / 4096 * p then ⟨s.code, s.span / 4096 * p, s.pos⟩ else ⟨s.code - s.span / 4096 * p, s.span - s.span / 4096 * p, s.pos⟩
def gnorm (bs : List Int) (s : De) : De := if s.span < 16777216 ∧ s.pos < bs.length then ⟨s.code % 16777216 * 256 + bs.getD s.pos 0, s.span * 256, s.pos + 1⟩ else s
def gok (bs : List Int) (s : De) (p : Int) : Bool := decide (16777216 ≤ (gmid s p).span) || decide ((gmid s p).pos < bs.length)
def gst (bs : List Int) (s : De) (p : Int) : De := gnorm bs (gmid s p)
theorem gmid_gd {s : De} {n : Nat} {p : Int} (g : DGd s n) (hp : St p) : 0 ≤ (gmid s p).code ∧ (gmid s p).code ≤ 4294967295 ∧ 65536 ≤ (gmid s p).span ∧ (gmid s p).span ≤ 4294967295 ∧ (gmid s p).pos = s.pos := by
  have hbd := bound_le g.span hp
  have hs := g.span
  have hc := g.code
  unfold gmid
  split <;> exact ⟨by simp only; omega, by simp only; omega, by simp only; omega, by simp only; omega, rfl⟩
theorem gbit_01 (s : De) (p : Int) : gbit s p = 0 ∨ gbit s p = 1 := by unfold gbit; split <;> simp
theorem gst_gd {bs : List Int} {s : De} {p : Int} (g : DGd s bs.length) (hb : Bytes bs) (hp : St p) (ok : gok bs s p = true) : DGd (gst bs s p) bs.length := by
  obtain ⟨h1, h2, h3, h4, h5⟩ := gmid_gd g hp
  have hpos := g.pos
  unfold gst gnorm
  simp only [gok, Bool.or_eq_true, decide_eq_true_eq] at ok
  split
  · rename_i h
    have hb1 : 0 ≤ bs.getD (gmid s p).pos 0 ∧ bs.getD (gmid s p).pos 0 ≤ 255 := by
      rw [List.getD_eq_getElem?_getD, List.getElem?_eq_getElem h.2]
      exact hb _ (List.getElem_mem h.2)
    exact ⟨⟨by simp only; omega, by simp only; omega⟩, ⟨by simp only; omega, by simp only; omega⟩, by simp only; omega⟩
  · rename_i h
    exact ⟨⟨h1, h2⟩, ⟨by omega, h4⟩, by omega⟩
theorem or_low {x y : Int} (hx : 0 ≤ x ∧ x ≤ 4294967295) (hy : 0 ≤ y ∧ y ≤ 255) : IntKind.u64.wrap ((BitVec.ofInt IntKind.u64.bits (x * 256) ||| BitVec.ofInt IntKind.u64.bits y).toNat : Int) = x * 256 + y := by
  obtain ⟨m, rfl⟩ : ∃ m : Nat, x = m := ⟨x.toNat, by omega⟩
  obtain ⟨n, rfl⟩ : ∃ n : Nat, y = n := ⟨y.toNat, by omega⟩
  have e : (BitVec.ofInt IntKind.u64.bits ((m : Int) * 256) ||| BitVec.ofInt IntKind.u64.bits (n : Int)).toNat = m * 256 + n := by
    show (BitVec.ofInt 64 ((m : Int) * 256) ||| BitVec.ofInt 64 (n : Int)).toNat = _
    rw [BitVec.toNat_or]
    have h1 : (BitVec.ofInt 64 ((m : Int) * 256)).toNat = m <<< 8 := by
      rw [Nat.shiftLeft_eq, BitVec.toNat_ofInt]; omega
    have h2 : (BitVec.ofInt 64 (n : Int)).toNat = n := by simp [BitVec.toNat_ofInt]; omega
    rw [h1, h2, ← Nat.shiftLeft_add_eq_or_of_lt (by omega), Nat.shiftLeft_eq]
  rw [e, u64 (by omega)]
  omega
def pO (a : Option Addr) (n c : Nat) (s : De) : Ob := ⟨[.slice a n c, .int .i64 s.pos, .int .u64 s.code, .int .u64 s.span], .own⟩
def rO (a : Option Addr) (n c : Nat) (s : De) : Ob := ⟨[.int .i64 s.code, .int .i64 s.span, .int .i64 s.pos, .slice a n c], .own⟩
theorem c_get {h : Hp} {d n c : Nat} {a : Option Addr} {bs : List Int} {s : De} {p : Int} (hg : h.get d = some (pO a n c s)) (r : Rd h 1 a n (bs.map (Value.int .u8))) (hb : Bytes bs) (hn : n ≤ 140737488351232) (ha : ¬ At a d) (g : DGd s bs.length) (hp : St p) :
    ACalls Try.prog 65 [.pointer (some ⟨d, 0, none⟩), .int .i64 p] h fun v h' => v = .tuple #[.int .i64 (if gok bs s p then gbit s p else 0), .int .i64 (if gok bs s p then 0 else 3)] ∧ h' = h.put d (pO a n c (gst bs s p)) := by
  refine arith_Decoder__get_ok.snd hm rfl fun w => ?_
  rw [WF_eq, arith_Decoder__get]
  have hl := r.ilen
  have hs := g.span
  have hc := g.code
  have hpos := g.pos
  have hbd := bound_le g.span hp
  obtain ⟨hp1, hp2⟩ := hp
  have e1 : s.span.fdiv (2 ^ min 12 IntKind.u64.bits) = s.span / 4096 := shr_u (k := 12) (by omega)
  have e2 : IntKind.u64.wrap p = p := u64 (by omega)
  have e3 : IntKind.u64.wrap (s.span / 4096 * p) = s.span / 4096 * p := u64 (by omega)
  have hg' : h.get d = some ⟨[.slice a n c, .int .i64 s.pos, .int .u64 s.code, .int .u64 s.span], .own⟩ := hg
  simp +contextual only [↓AM, ↓AV, AP, rd_mk hg', hg', e1, e2, e3]
  refine WC.mk (fun t h' => t = [(0, some (.pointer (some ⟨d, 0, none⟩))), (7, some (.int .i64 (gbit s p)))] ∧ h' = h.put d (pO a n c (gmid s p))) ?_ ?_
  · by_cases hlt : s.code < s.span / 4096 * p
    · simp +contextual only [↓AM, ↓AV, AP, rd_mk hg', hg', hlt]
      simp [gbit, gmid, hlt, pO]
    · have e4 : IntKind.u64.wrap (s.code - s.span / 4096 * p) = s.code - s.span / 4096 * p := u64 (by omega)
      have e5 : IntKind.u64.wrap (s.span - s.span / 4096 * p) = s.span - s.span / 4096 * p := u64 (by omega)
      simp +contextual only [↓AM, ↓AV, AP, rd_mk hg', hg', hlt, e4, e5]
      simp [gbit, gmid, hlt, pO]
  rintro t h1 ⟨rfl, rfl⟩
  obtain ⟨m1, m2, m3, m4, m5⟩ := gmid_gd g ⟨hp1, hp2⟩
  have w1 : Wf (h.put d (pO a n c (gmid s p))) := w.put (w.lt hg)
  simp +contextual only [↓AM, ↓AV, AP]
  have hgst : gst bs s p = gnorm bs (gmid s p) := rfl
  have hok : gok bs s p = (decide (16777216 ≤ (gmid s p).span) || decide ((gmid s p).pos < bs.length)) := rfl
  rw [hgst, hok]
  generalize gmid s p = m at m1 m2 m3 m4 m5 w1
  refine WL.mk (fun k t h' => t = [(0, some (.pointer (some ⟨d, 0, none⟩))), (7, some (.int .i64 (gbit s p)))] ∧ ((k = 1 ∧ h' = h.put d (pO a n c m)) ∨ (k = 0 ∧ 16777216 ≤ (gnorm bs m).span ∧ (16777216 ≤ m.span ∨ m.pos < bs.length) ∧ h' = h.put d (pO a n c (gnorm bs m)))))
    ⟨1, rfl, .inl ⟨rfl, rfl⟩⟩ ?_
  rintro k t h1 ⟨rfl, ⟨rfl, rfl⟩ | ⟨rfl, hsp, hor, rfl⟩⟩
  · by_cases hsm : m.span < 16777216
    · by_cases hend : m.pos < bs.length
      · have hne : EqI (m.pos : Int) (n : Int) = False := by simp [EqI]; omega
        have r1 : Rd (h.put d (pO a n c m)) 1 a n (bs.map (Value.int .u8)) := r.keep w (Fm.put (F := fun x => x = d) Fm.refl fun _ => rfl) (fun x hx e => ha (e ▸ hx))
        obtain ⟨b2, off, sp, rfl, f1, x, hx, r2⟩ := r1.int (i := m.pos) (by omega)
        have hx0 : bs.getD m.pos 0 = x := by rw [List.getD_eq_getElem?_getD, hx]; rfl
        have hx1 : 0 ≤ x ∧ x ≤ 255 := hb _ (List.mem_of_getElem? hx)
        have e8 : gnorm bs m = ⟨m.code % 16777216 * 256 + x, m.span * 256, m.pos + 1⟩ := by rw [gnorm, if_pos ⟨hsm, hend⟩, hx0]
        have hlt : m.pos < n := by omega
        have e9 : IntKind.u64.wrap (m.code * 2 ^ min 8 IntKind.u64.bits) = m.code * 256 := by
          show IntKind.u64.wrap (m.code * 256) = _
          exact u64 (by omega)
        have e10 : IntKind.u64.wrap x = x := u64 (by omega)
        have e11 := or_low (x := m.code) (y := x) ⟨m1, m2⟩ hx1
        have e12 := and_full (x := m.code * 256 + x) (by omega)
        have e13 : IntKind.u64.wrap (m.span * 2 ^ min 8 IntKind.u64.bits) = m.span * 256 := by
          show IntKind.u64.wrap (m.span * 256) = _
          exact u64 (by omega)
        have e14 : IntKind.i64.wrap ((m.pos : Int) + 1) = ((m.pos + 1 : Nat) : Int) := by rw [i64 (by omega)]; rfl
        simp only [pO] at r2
        simp +contextual only [↓AM, ↓AV, AP, pO, hsm, hne, f1, hlt, r2, e9, e10, e11, e12, e13, e14]
        refine ⟨0, by omega, .inr ⟨rfl, by rw [e8]; show _ ≤ m.span * 256; omega, .inr hend, ?_⟩⟩
        rw [e8, show (m.code * 256 + x) % 4294967296 = m.code % 16777216 * 256 + x by omega]
      · have hne : EqI (m.pos : Int) (n : Int) = True := by simp [EqI]; omega
        have e8 : gnorm bs m = m := by rw [gnorm, if_neg (by omega)]
        rw [e8, decide_eq_false (by omega), decide_eq_false (by omega)]
        simp +contextual only [↓AM, ↓AV, AP, pO, hsm, hne]
        rfl
    · have e8 : gnorm bs m = m := by rw [gnorm, if_neg (by omega)]
      rw [e8, decide_eq_true (by omega)]
      simp +contextual only [↓AM, ↓AV, AP, pO, hsm]
      rfl
  · have hsm : ¬ (gnorm bs m).span < 16777216 := by omega
    simp +contextual only [↓AM, ↓AV, AP, pO, hsm]
    rcases hor with h | h <;> simp [h]
theorem c_rget {h : Hp} {d n c : Nat} {a : Option Addr} {bs : List Int} {s : De} {p : Int} (hg : h.get d = some (rO a n c s)) (r : Rd h 1 a n (bs.map (Value.int .u8))) (hb : Bytes bs) (hn : n ≤ 140737488351232) (ha : ¬ At a d) (g : DGd s bs.length) (hp : St p) :
    ACalls Try.prog 76 [.pointer (some ⟨d, 0, none⟩), .int .i64 p] h fun v h' => v = .tuple #[.int .i64 (if gok bs s p then gbit s p else 0), .bool (gok bs s p)] ∧ h' = h.put d (rO a n c (gst bs s p)) := by
  refine dioramaref13_Decoder__get_ok.snd hm rfl fun w => ?_
  rw [WF_eq, dioramaref13_Decoder__get]
  have hl := r.ilen
  have hs := g.span
  have hc := g.code
  have hpos := g.pos
  have hbd := bound_le g.span hp
  obtain ⟨hp1, hp2⟩ := hp
  have e1 : IntKind.i64.wrap (s.span.tdiv 4096) = s.span / 4096 := by rw [Int.tdiv_eq_ediv_of_nonneg (by omega), i64 (by omega)]
  have e3 : IntKind.i64.wrap (s.span / 4096 * p) = s.span / 4096 * p := i64 (by omega)
  have hg' : h.get d = some ⟨[.int .i64 s.code, .int .i64 s.span, .int .i64 s.pos, .slice a n c], .own⟩ := hg
  simp +contextual only [↓AM, ↓AV, AP, rd_mk hg', hg', e1, e3]
  refine ⟨by decide, ?_⟩
  refine WC.mk (fun t h' => t = [(0, some (.pointer (some ⟨d, 0, none⟩))), (7, some (.int .i64 (gbit s p)))] ∧ h' = h.put d (rO a n c (gmid s p))) ?_ ?_
  · by_cases hlt : s.code < s.span / 4096 * p
    · simp +contextual only [↓AM, ↓AV, AP, rd_mk hg', hg', hlt]
      simp [gbit, gmid, hlt, rO]
    · have e4 : IntKind.i64.wrap (s.code - s.span / 4096 * p) = s.code - s.span / 4096 * p := i64 (by omega)
      have e5 : IntKind.i64.wrap (s.span - s.span / 4096 * p) = s.span - s.span / 4096 * p := i64 (by omega)
      simp +contextual only [↓AM, ↓AV, AP, rd_mk hg', hg', hlt, e4, e5]
      simp [gbit, gmid, hlt, rO]
  rintro t h1 ⟨rfl, rfl⟩
  obtain ⟨m1, m2, m3, m4, m5⟩ := gmid_gd g ⟨hp1, hp2⟩
  have w1 : Wf (h.put d (rO a n c (gmid s p))) := w.put (w.lt hg)
  simp +contextual only [↓AM, ↓AV, AP]
  have hgst : gst bs s p = gnorm bs (gmid s p) := rfl
  have hok : gok bs s p = (decide (16777216 ≤ (gmid s p).span) || decide ((gmid s p).pos < bs.length)) := rfl
  rw [hgst, hok]
  generalize gmid s p = m at m1 m2 m3 m4 m5 w1
  refine WL.mk (fun k t h' => t = [(0, some (.pointer (some ⟨d, 0, none⟩))), (7, some (.int .i64 (gbit s p)))] ∧ ((k = 1 ∧ h' = h.put d (rO a n c m)) ∨ (k = 0 ∧ 16777216 ≤ (gnorm bs m).span ∧ (16777216 ≤ m.span ∨ m.pos < bs.length) ∧ h' = h.put d (rO a n c (gnorm bs m)))))
    ⟨1, rfl, .inl ⟨rfl, rfl⟩⟩ ?_
  rintro k t h1 ⟨rfl, ⟨rfl, rfl⟩ | ⟨rfl, hsp, hor, rfl⟩⟩
  · by_cases hsm : m.span < 16777216
    · by_cases hend : m.pos < bs.length
      · have hne : ¬ (n : Int) ≤ (m.pos : Int) := by omega
        have r1 : Rd (h.put d (rO a n c m)) 1 a n (bs.map (Value.int .u8)) := r.keep w (Fm.put (F := fun x => x = d) Fm.refl fun _ => rfl) (fun x hx e => ha (e ▸ hx))
        obtain ⟨b2, off, sp, rfl, f1, x, hx, r2⟩ := r1.int (i := m.pos) (by omega)
        have hx0 : bs.getD m.pos 0 = x := by rw [List.getD_eq_getElem?_getD, hx]; rfl
        have hx1 : 0 ≤ x ∧ x ≤ 255 := hb _ (List.mem_of_getElem? hx)
        have e8 : gnorm bs m = ⟨m.code % 16777216 * 256 + x, m.span * 256, m.pos + 1⟩ := by rw [gnorm, if_pos ⟨hsm, hend⟩, hx0]
        have hlt : m.pos < n := by omega
        have hle : ¬ n ≤ m.pos := by omega
        have e9 : IntKind.i64.wrap (m.code.tmod 16777216 * 256) = m.code % 16777216 * 256 := by rw [Int.tmod_eq_emod_of_nonneg (by omega), i64 (by omega)]
        have e9' : IntKind.i64.wrap (m.code.tmod 16777216) = m.code % 16777216 := by rw [Int.tmod_eq_emod_of_nonneg (by omega), i64 (by omega)]
        have e9'' : IntKind.i64.wrap (m.code % 16777216 * 256) = m.code % 16777216 * 256 := i64 (by omega)
        have e10 : IntKind.i64.wrap x = x := i64 (by omega)
        have e11 : IntKind.i64.wrap (m.code % 16777216 * 256 + x) = m.code % 16777216 * 256 + x := i64 (by omega)
        have e13 : IntKind.i64.wrap (m.span * 256) = m.span * 256 := i64 (by omega)
        have e14 : IntKind.i64.wrap ((m.pos : Int) + 1) = ((m.pos + 1 : Nat) : Int) := by rw [i64 (by omega)]; rfl
        simp only [rO] at r2
        simp +contextual only [↓AM, ↓AV, AP, rO, hsm, hne, hle, f1, hlt, r2, e9, e9', e9'', e10, e11, e13, e14]
        refine ⟨by decide, 0, by omega, .inr ⟨rfl, by rw [e8]; show _ ≤ m.span * 256; omega, .inr hend, ?_⟩⟩
        rw [e8]
      · have hne : (n : Int) ≤ (m.pos : Int) := by omega
        have hle : n ≤ m.pos := by omega
        have e8 : gnorm bs m = m := by rw [gnorm, if_neg (by omega)]
        rw [e8, decide_eq_false (by omega), decide_eq_false (by omega)]
        simp +contextual only [↓AM, ↓AV, AP, rO, hsm, hne, hle]
        rfl
    · have e8 : gnorm bs m = m := by rw [gnorm, if_neg (by omega)]
      rw [e8, decide_eq_true (by omega)]
      simp +contextual only [↓AM, ↓AV, AP, rO, hsm]
      rfl
  · have hsm : ¬ (gnorm bs m).span < 16777216 := by omega
    simp +contextual only [↓AM, ↓AV, AP, rO, hsm]
    rcases hor with h | h <;> simp [h]
end Go.Proofs.Ytholkooikmbamaa.Ar
