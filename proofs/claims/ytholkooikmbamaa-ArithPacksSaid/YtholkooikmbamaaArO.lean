/- The decoders' calls: new ones, bits. Plain theorems over the abstract machine.
   Conditions: none. -/
import Derived.Test.YtholkooikmbamaaArN
namespace Go.Proofs.Ytholkooikmbamaa.Ar
open Go Go.RowKit Go.Proofs.Ytholkooikmbamaa.Am Go.Proofs.Ytholkooikmbamaa.Af
set_option linter.unusedVariables false
set_option linter.unusedSimpArgs false
set_option maxRecDepth 20000

/-- A bit read: the bit, the state behind it, the error; the decoder behind it. -/
def dbitB (bs : List Int) (s : De) (p : Int) : Int := if St p ∧ gok bs s p = true then gbit s p else 0
def dbitN (bs : List Int) (s : De) (p : Int) : Int := if St p ∧ gok bs s p = true then stepI p (gbit s p) else 0
def dbitI (bs : List Int) (s : De) (p : Int) : Int := if St p then if gok bs s p = true then 0 else 3 else 130
def dbitS (bs : List Int) (s : De) (p : Int) : De := if St p ∧ gok bs s p = true then gst bs s p else s
def tri (a b c : Int) : Value := .tuple #[.int .i64 a, .int .i64 b, .int .i64 c]
theorem Rd.lt {h : Hp} {z n : Nat} {oa : Option Addr} {cs : List Value} (r : Rd h z oa n cs) (w : Wf h) (hn : 0 < n) {x : Nat} (hx : At oa x) : x < h.size := by
  obtain ⟨b, off, sp, rfl, _, r1⟩ := r.pos hn
  rw [At.some] at hx
  subst hx
  exact rdN_wf w r1
theorem c_Read {h : Hp} {d n c : Nat} {a : Option Addr} {s : De} (hg : h.get d = some (pO a n c s)) : ACalls Try.prog 33 [.pointer (some ⟨d, 0, none⟩)] h fun v h' => v = .int .i64 s.pos ∧ h' = h := by
  refine arith_Decoder__Read_ok.snd hm rfl fun w => ?_
  rw [WF_eq, arith_Decoder__Read]
  simp +contextual only [↓AM, ↓AV, AP, isNilV, Option.isNone, rd_mk hg, pO]
theorem c_DBit {h : Hp} {d n c : Nat} {a : Option Addr} {bs : List Int} {s : De} {p : Int} (hg : h.get d = some (pO a n c s)) (r : Rd h 1 a n (bs.map (Value.int .u8))) (hb : Bytes bs) (hn : n ≤ 140737488351232) (ha : ¬ At a d) (g : DGd s bs.length) :
    ACalls Try.prog 40 [.pointer (some ⟨d, 0, none⟩), .int .i64 p] h fun v h' => v = tri (dbitB bs s p) (dbitN bs s p) (dbitI bs s p) ∧ h'.get d = some (pO a n c (dbitS bs s p)) ∧ Fm (fun x => x = d) h h' := by
  refine arith_Decoder__Bit_ok.snd hm rfl fun w => ?_
  rw [WF_eq, arith_Decoder__Bit]
  simp +contextual only [↓AM, ↓AV, AP, isNilV, Option.isNone]
  refine c_isState.use ?_
  rintro _ h w1 ⟨rfl, rfl⟩
  by_cases hp : St p
  case neg =>
    simp +contextual only [↓AM, ↓AV, AP, hp]
    exact ⟨by simp [tri, dbitB, dbitN, dbitI, hp], by rw [dbitS, if_neg (fun h => hp h.1)]; exact hg, Fm.refl⟩
  have rN : h.rdN d 0 4 = some [.slice a n c, .int .i64 s.pos, .int .u64 s.code, .int .u64 s.span] := rdN_mk hg (by simp [pO])
  simp +contextual only [↓AM, ↓AV, AP, hp, rN]
  have hdl := w.lt hg
  have fm0 : ∀ o, Fm (fun x => x = d) h (h.new o) := fun o => Fm.new Fm.refl
  have fm0' : ∀ o, Fm No h (h.new o) := fun o => Fm.new Fm.refl
  refine (c_get ((fm0' _).keep w hg id) (r.keep w (fm0' _) (fun _ _ => id)) hb hn ha g hp).use ?_
  rintro _ h1 w2 ⟨rfl, rfl⟩
  have fm1 : ∀ o s', Fm (fun x => x = d) h ((h.new o).put d (pO a n c s')) := fun o s' => (fm0 o).put fun _ => rfl
  have hbx : ∀ o s', ((h.new o).put d (pO a n c s')).get h.size = some o := fun o s' => (get_put (by omega)).trans gnew
  have hbd : ∀ o s', ((h.new o).put d (pO a n c s')).get d = some (pO a n c s') := fun o s' => gput
  have hk1 := hbx ⟨[.slice a n c, .int .i64 s.pos, .int .u64 s.code, .int .u64 s.span], .own⟩ (gst bs s p)
  have hk2 := hbd ⟨[.slice a n c, .int .i64 s.pos, .int .u64 s.code, .int .u64 s.span], .own⟩ (gst bs s p)
  have hk3 := fm1 ⟨[.slice a n c, .int .i64 s.pos, .int .u64 s.code, .int .u64 s.span], .own⟩ (gst bs s p)
  generalize (h.new ⟨[.slice a n c, .int .i64 s.pos, .int .u64 s.code, .int .u64 s.span], .own⟩).put d (pO a n c (gst bs s p)) = k at hk1 hk2 hk3 w2
  by_cases hok : gok bs s p = true
  · simp +contextual only [↓AM, ↓AV, AP, hok]
    refine (c_step hp).use ?_
    rintro _ h1 w2 ⟨rfl, e⟩
    subst e
    simp +contextual only [↓AM, ↓AV, AP]
    refine ⟨by simp [tri, dbitB, dbitN, dbitI, hp, hok], ?_, hk3⟩
    rw [dbitS, if_pos ⟨hp, hok⟩]
    exact hk2
  · have hok : gok bs s p = false := by simpa using hok
    have r2 : k.rdN h.size 0 4 = some [.slice a n c, .int .i64 s.pos, .int .u64 s.code, .int .u64 s.span] := rdN_mk hk1 (by simp)
    simp only [pO] at hk2
    simp +contextual only [↓AM, ↓AV, AP, hok, r2, hk2]
    refine ⟨by simp [tri, dbitB, dbitN, dbitI, hp, hok], ?_, hk3.put fun _ => rfl⟩
    rw [dbitS, if_neg (by simp [hok])]
    rfl
theorem c_rDBit {h : Hp} {d n c : Nat} {a : Option Addr} {bs : List Int} {s : De} {p : Int} (hg : h.get d = some (rO a n c s)) (r : Rd h 1 a n (bs.map (Value.int .u8))) (hb : Bytes bs) (hn : n ≤ 140737488351232) (hn0 : 0 < n) (ha : ¬ At a d) (g : DGd s bs.length) :
    ACalls Try.prog 56 [.pointer (some ⟨d, 0, none⟩), .int .i64 p] h fun v h' => v = tri (dbitB bs s p) (dbitN bs s p) (dbitI bs s p) ∧ h'.get d = some (rO a n c (dbitS bs s p)) ∧ Fm (fun x => x = d) h h' := by
  refine dioramaref13_Decoder__Bit_ok.snd hm rfl fun w => ?_
  rw [WF_eq, dioramaref13_Decoder__Bit]
  simp +contextual only [↓AM, ↓AV, AP]
  refine c_State.use ?_
  rintro _ h w1 ⟨rfl, rfl⟩
  by_cases hp : St p
  case neg =>
    simp +contextual only [↓AM, ↓AV, AP, hp]
    exact ⟨by simp [tri, dbitB, dbitN, dbitI, hp], by rw [dbitS, if_neg (fun h => hp h.1)]; exact hg, Fm.refl⟩
  have rN : h.rdN d 0 4 = some [.int .i64 s.code, .int .i64 s.span, .int .i64 s.pos, .slice a n c] := rdN_mk hg (by simp [rO])
  simp +contextual only [↓AM, ↓AV, AP, hp, rN]
  have hdl := w.lt hg
  have fm0 : ∀ o, Fm (fun x => x = d) h (h.new o) := fun o => Fm.new Fm.refl
  have fm0' : ∀ o, Fm No h (h.new o) := fun o => Fm.new Fm.refl
  have hane : ¬ At a h.size := fun hx => Nat.lt_irrefl _ (Rd.lt r w hn0 hx)
  refine (c_rget (s := s) (a := a) (n := n) (c := c) gnew (r.keep w (fm0' _) (fun _ _ => id)) hb hn hane g hp).use ?_
  rintro _ h1 w2 ⟨rfl, rfl⟩
  have hk1 : ((h.new ⟨[.int .i64 s.code, .int .i64 s.span, .int .i64 s.pos, .slice a n c], .own⟩).put h.size (rO a n c (gst bs s p))).get h.size = some (rO a n c (gst bs s p)) := gput
  have hk2 : ((h.new ⟨[.int .i64 s.code, .int .i64 s.span, .int .i64 s.pos, .slice a n c], .own⟩).put h.size (rO a n c (gst bs s p))).get d = some (rO a n c s) := (get_put (by omega)).trans ((fm0' _).keep w hg id)
  have hk3 : Fm (fun x => x = d) h ((h.new ⟨[.int .i64 s.code, .int .i64 s.span, .int .i64 s.pos, .slice a n c], .own⟩).put h.size (rO a n c (gst bs s p))) := (fm0 _).put fun h => absurd h (Nat.lt_irrefl _)
  have e0 : (⟨[.int .i64 s.code, .int .i64 s.span, .int .i64 s.pos, .slice a n c], .own⟩ : Ob) = rO a n c s := rfl
  rw [e0] at hk1 hk2 hk3
  generalize (h.new (rO a n c s)).put h.size (rO a n c (gst bs s p)) = k at hk1 hk2 hk3 w2
  by_cases hok : gok bs s p = true
  · have r2 : k.rdN h.size 0 4 = some [.int .i64 (gst bs s p).code, .int .i64 (gst bs s p).span, .int .i64 (gst bs s p).pos, .slice a n c] := rdN_mk hk1 (by simp [rO])
    have hk2' := hk2
    simp only [rO] at hk2'
    simp +contextual only [↓AM, ↓AV, AP, hok, r2, hk2']
    refine (c_rstep hp).use ?_
    rintro _ h1 w2 ⟨rfl, e⟩
    subst e
    simp +contextual only [↓AM, ↓AV, AP]
    refine ⟨by simp [tri, dbitB, dbitN, dbitI, hp, hok], ?_, hk3.put fun _ => rfl⟩
    rw [dbitS, if_pos ⟨hp, hok⟩]
    rfl
  · have hok : gok bs s p = false := by simpa using hok
    simp +contextual only [↓AM, ↓AV, AP, hok]
    refine ⟨by simp [tri, dbitB, dbitN, dbitI, hp, hok], ?_, hk3⟩
    rw [dbitS, if_neg (by simp [hok])]
    exact hk2
/-- A decoder of bytes. -/
def newD (bs : List Int) : De := ⟨((bs.getD 0 0 * 256 + bs.getD 1 0) * 256 + bs.getD 2 0) * 256 + bs.getD 3 0, 4294967295, 4⟩
theorem newD_gd {bs : List Int} (hb : Bytes bs) (hn : 4 ≤ bs.length) : DGd (newD bs) bs.length := by
  have h : ∀ i, i < 4 → 0 ≤ bs.getD i 0 ∧ bs.getD i 0 ≤ 255 := fun i hi => by
    rw [List.getD_eq_getElem?_getD, List.getElem?_eq_getElem (by omega)]
    exact hb _ (List.getElem_mem _)
  have h0 := h 0 (by omega)
  have h1 := h 1 (by omega)
  have h2 := h 2 (by omega)
  have h3 := h 3 (by omega)
  exact ⟨⟨by simp only [newD]; omega, by simp only [newD]; omega⟩, ⟨by simp only [newD]; omega, by simp only [newD]; omega⟩, hn⟩
/-- The code behind i bytes. -/
def codeI (bs : List Int) : Nat → Int
  | 0 => 0
  | i + 1 => codeI bs i * 256 + bs.getD i 0
theorem codeI_le {bs : List Int} (hb : Bytes bs) (hn : 4 ≤ bs.length) : ∀ i, i ≤ 4 → 0 ≤ codeI bs i ∧ codeI bs i ≤ 256 ^ i - 1
  | 0, _ => by simp [codeI]
  | i + 1, hi => by
    obtain ⟨h1, h2⟩ := codeI_le hb hn i (by omega)
    have h3 : 0 ≤ bs.getD i 0 ∧ bs.getD i 0 ≤ 255 := by
      rw [List.getD_eq_getElem?_getD, List.getElem?_eq_getElem (by omega)]
      exact hb _ (List.getElem_mem _)
    rw [codeI, Int.pow_succ]
    generalize bs.getD i 0 = y at h3
    omega
theorem c_NewDecoder {h : Hp} {n c : Nat} {a : Option Addr} {bs : List Int} (r : Rd h 1 a n (bs.map (Value.int .u8))) (hb : Bytes bs) (hn : n ≤ 140737488351232) (hc : n ≤ c) :
    ACalls Try.prog 29 [.slice a n c] h fun v h' => (n < 4 → v = .tuple #[.pointer none, .int .i64 3]) ∧ (4 ≤ n → v = .tuple #[.pointer (some ⟨h.size, 0, none⟩), .int .i64 0] ∧ h'.get h.size = some (pO a n c (newD bs))) ∧ Fm No h h' := by
  refine arith_NewDecoder_ok.snd hm rfl fun w => ?_
  rw [WF_eq, arith_NewDecoder]
  have hl := r.ilen
  by_cases h4 : n < 4
  · have : (n : Int) < 4 := by omega
    simp +contextual only [↓AM, ↓AV, AP, this]
    exact ⟨fun _ => trivial, fun h => by omega, Fm.refl⟩
  have : ¬ (n : Int) < 4 := by omega
  obtain ⟨b, off, sp, rfl, f1, r1⟩ := r.pos (by omega)
  have hc0 : ¬ c = 0 := by omega
  have hc4 : (4 : Int) ≤ (c : Int) := by omega
  have hcap : capOk sp n c := by cases sp <;> simp [capOk]; omega
  have hadr : slAddr b off sp 1 0 c true = ⟨b, off, sp⟩ := by
    cases sp <;> simp [slAddr, hc0]
  simp +contextual only [↓AM, ↓AV, AP, this, f1, hcap, bnds, hadr, hc4, Option.isNone]
  have fm0 : ∀ o, Fm No h (h.new o) := fun o => Fm.new Fm.refl
  have r4 : ∀ i, i < 4 → ∀ o, (h.new o).rd b (off + i) = some (.int .u8 (bs.getD i 0)) := by
    intro i hi o
    rw [rd_keep (get_new (rdN_wf w r1))]
    refine rdN_get r1 ?_
    rw [List.getElem?_map, List.getD_eq_getElem?_getD, List.getElem?_eq_getElem (by omega)]
    rfl
  have t4 : Int.toNat 4 = 4 := rfl
  rw [t4]
  refine ⟨by omega, WL.mk (fun k t h' => ∃ i : Nat, i ≤ 4 ∧ k = 4 - i ∧ h' = h.new (pO (some ⟨b, off, sp⟩) n c ⟨codeI bs i, 4294967295, 4⟩) ∧
    t = [(4, some (.pointer (some ⟨h.size, 0, none⟩))), (14, some (.slice (some ⟨b, off, sp⟩) 4 c)), (15, some (.int .i64 ((4 : Nat) : Int))), (16, some (.int .i64 i))]) ⟨_, 0, by omega, rfl, rfl, rfl⟩ ?_⟩
  rintro k t h1 ⟨i, hi, rfl, rfl, rfl⟩
  by_cases hi4 : i < 4
  · obtain ⟨q1, q2⟩ := codeI_le hb (by omega) i (by omega)
    have q3 : (256 : Int) ^ i ≤ 16777216 := by
      have : i = 0 ∨ i = 1 ∨ i = 2 ∨ i = 3 := by omega
      rcases this with h | h | h | h <;> subst h <;> decide
    have hy : 0 ≤ bs.getD i 0 ∧ bs.getD i 0 ≤ 255 := by
      rw [List.getD_eq_getElem?_getD, List.getElem?_eq_getElem (by omega)]
      exact hb _ (List.getElem_mem _)
    have e9 : IntKind.u64.wrap (codeI bs i * 2 ^ min 8 IntKind.u64.bits) = codeI bs i * 256 := by
      show IntKind.u64.wrap (codeI bs i * 256) = _
      exact u64 (by omega)
    have e10 : IntKind.u64.wrap (bs.getD i 0) = bs.getD i 0 := u64 (by omega)
    have e11 := or_low (x := codeI bs i) (y := bs.getD i 0) ⟨q1, by omega⟩ hy
    have r5 := r4 i hi4 (pO (some ⟨b, off, sp⟩) n c ⟨codeI bs i, 4294967295, 4⟩)
    simp only [pO] at r5
    simp +contextual only [↓AM, ↓AV, AP, hi4, pO, f1, r5, e9, e10, e11]
    refine ⟨3 - i, by omega, i + 1, by omega, by omega, rfl, ?_⟩
    rw [i64 (by omega)]; rfl
  · have : i = 4 := by omega
    subst this
    simp +contextual only [↓AM, ↓AV, AP, hi4, pO]
    exact ⟨fun h => absurd h h4, fun _ => by simp [newD, codeI], Fm.new Fm.refl⟩
theorem c_rNewDecoder {h : Hp} {n c : Nat} {a : Option Addr} {bs : List Int} (r : Rd h 1 a n (bs.map (Value.int .u8))) (hb : Bytes bs) (hn : n ≤ 140737488351232) :
    ACalls Try.prog 30 [.slice a n c] h fun v h' => (n < 4 → v = .tuple #[.pointer none, .int .i64 3]) ∧ (4 ≤ n → v = .tuple #[.pointer (some ⟨h.size, 0, none⟩), .int .i64 0] ∧ h'.get h.size = some (rO a n c (newD bs))) ∧ Fm No h h' := by
  refine dioramaref13_NewDecoder_ok.snd hm rfl fun w => ?_
  rw [WF_eq, dioramaref13_NewDecoder]
  have hl := r.ilen
  by_cases h4 : n < 4
  · have : (n : Int) < 4 := by omega
    simp +contextual only [↓AM, ↓AV, AP, this]
    exact ⟨fun _ => trivial, fun h => by omega, Fm.refl⟩
  have : ¬ (n : Int) < 4 := by omega
  obtain ⟨b, off, sp, rfl, f1, r1⟩ := r.pos (by omega)
  simp +contextual only [↓AM, ↓AV, AP, this]
  have r4 : ∀ i, i < 4 → ∀ o, (h.new o).rd b (off + i) = some (.int .u8 (bs.getD i 0)) := by
    intro i hi o
    rw [rd_keep (get_new (rdN_wf w r1))]
    refine rdN_get r1 ?_
    rw [List.getElem?_map, List.getD_eq_getElem?_getD, List.getElem?_eq_getElem (by omega)]
    rfl
  refine WL.mk (fun k t h' => ∃ i : Nat, i ≤ 4 ∧ k = 4 - i ∧ h' = h.new (rO (some ⟨b, off, sp⟩) n c ⟨codeI bs i, 4294967295, 4⟩) ∧
    t = [(0, some (.slice (some ⟨b, off, sp⟩) n c)), (4, some (.pointer (some ⟨h.size, 0, none⟩))), (5, some (.int .i64 i))]) ⟨_, 0, by omega, rfl, rfl, rfl⟩ ?_
  rintro k t h1 ⟨i, hi, rfl, rfl, rfl⟩
  by_cases hi4 : i < 4
  · obtain ⟨q1, q2⟩ := codeI_le hb (by omega) i (by omega)
    have q3 : (256 : Int) ^ i ≤ 16777216 := by
      have : i = 0 ∨ i = 1 ∨ i = 2 ∨ i = 3 := by omega
      rcases this with h | h | h | h <;> subst h <;> decide
    have hy : 0 ≤ bs.getD i 0 ∧ bs.getD i 0 ≤ 255 := by
      rw [List.getD_eq_getElem?_getD, List.getElem?_eq_getElem (by omega)]
      exact hb _ (List.getElem_mem _)
    have e9 : IntKind.i64.wrap (codeI bs i * 256) = codeI bs i * 256 := i64 (by omega)
    have e10 : IntKind.i64.wrap (bs.getD i 0) = bs.getD i 0 := i64 (by omega)
    have e11 : IntKind.i64.wrap (codeI bs i * 256 + bs.getD i 0) = codeI bs i * 256 + bs.getD i 0 := i64 (by omega)
    have r5 := r4 i hi4 (rO (some ⟨b, off, sp⟩) n c ⟨codeI bs i, 4294967295, 4⟩)
    have hi4' : (i : Int) < 4 := by omega
    have hin : i < n := by omega
    simp only [rO] at r5
    simp +contextual only [↓AM, ↓AV, AP, hi4', hin, rO, f1, r5, e9, e10, e11]
    refine ⟨3 - i, by omega, i + 1, by omega, by omega, rfl, ?_⟩
    rw [i64 (by omega)]; rfl
  · have : i = 4 := by omega
    subst this
    have hi4' : ¬ ((4 : Nat) : Int) < 4 := by omega
    simp +contextual only [↓AM, ↓AV, AP, hi4', rO]
    exact ⟨fun h => absurd h h4, fun _ => by simp [newD, codeI], Fm.new Fm.refl⟩
end Go.Proofs.Ytholkooikmbamaa.Ar
