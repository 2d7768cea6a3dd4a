/- Tracks of codes made. Plain theorems over the abstract machine.
   Conditions: none. -/
import Derived.Test.YtnibipabfdalcaaMdD
namespace Go.Proofs.Ytnibipabfdalcaa.Md
open Go Go.RowKit Go.Proofs.Ytnibipabfdalcaa.Am Go.Proofs.Ytnibipabfdalcaa.Af
set_option linter.unusedVariables false
set_option linter.unusedSimpArgs false
set_option linter.defProp false
set_option maxRecDepth 20000
set_option maxHeartbeats 2000000

def zC : List Value := [.int .i64 0, .int .i64 0, .string ⟨#[]⟩, .int .i64 0, .slice none 0 0, .string ⟨#[]⟩, .string ⟨#[]⟩, .int .i64 0, .slice none 0 0, .slice none 0 0, .slice none 0 0]
def dayN (F : Int) (D : Bool) : Int := 144 * (600 * F - 9 * missN F D)
def gE (day : Int) : List Smp → Int
  | [] => 0
  | s :: ss => if s.dts < 0 ∨ day ≤ s.dts then 1 else if 0 < s.data.length then 4 else gE day ss
def xsOf (ss : List Smp) : List Sp := ss.map fun s => (s.pts, s.dur, s.dts)
def dropI (D : Bool) : Int := if D then 1 else 0
def TE (F : Int) (D : Bool) (id sc : Int) (ss : List Smp) : Int := if okR F D then (if gE (dayN F D) ss = 0 then trE id sc (xsOf ss) else gE (dayN F D) ss) else 1
def TrPost (F : Int) (D : Bool) (id sc : Int) (ss : List Smp) (h : Hp) (v : Value) (h' : Hp) : Prop :=
  ∃ cs e, v = .tuple #[.agg cs.toArray, .int .i64 e] ∧ e = TE F D id sc ss ∧ Fm No h h' ∧ (e ≠ 0 → cs = zC) ∧
    (e = 0 → ∃ sa qa qc qr, cs = trC id sc sa qa ss.length qc ∧ Rd h' 1 sa 2 ([F, dropI D].map (Value.int .u8)) ∧ Rd h' 6 qa ss.length qr ∧ AKd.Row (SpA h') (xsOf ss) qr)
theorem TrPost.no {F : Int} {D : Bool} {id sc : Int} {ss : List Smp} {h h' : Hp} {e : Int} (he : e = TE F D id sc ss) (hn : e ≠ 0) (fm : Fm No h h') : TrPost F D id sc ss h (.tuple #[.agg zC.toArray, .int .i64 e]) h' :=
  ⟨zC, e, rfl, he, fm, fun _ => rfl, fun h => absurd h hn⟩
def SpB (h : Hp) (oa : Option Addr) (x : Sp) (cs : List Value) : Prop := ∃ b, cs = spC x b ∧ h.get b = some ⟨(dataN x.2.2).map (Value.int .u8), .own⟩ ∧ ¬ At oa b
theorem SpB.a {h : Hp} {oa : Option Addr} {x : Sp} {cs : List Value} (a : SpB h oa x cs) : SpA h x cs := by
  obtain ⟨b, h1, h2, _⟩ := a
  exact ⟨b, h1, h2⟩
theorem gE_step {day : Int} {ss : List Smp} {i : Nat} {s : Smp} (h : ss[i]? = some s) : gE day (ss.drop i) = if s.dts < 0 ∨ day ≤ s.dts then 1 else if 0 < s.data.length then 4 else gE day (ss.drop (i + 1)) := by
  rw [drop_el h]; rfl
theorem shr_24 {n : Int} (h : 0 ≤ n) : n.fdiv (2 ^ min 24 IntKind.i64.bits) = n / 16777216 := by
  show n.fdiv 16777216 = _
  rw [Int.fdiv_eq_ediv_of_nonneg _ (by omega)]
theorem shr_16 {n : Int} (h : 0 ≤ n) : n.fdiv (2 ^ min 16 IntKind.i64.bits) = n / 65536 := by
  show n.fdiv 65536 = _
  rw [Int.fdiv_eq_ediv_of_nonneg _ (by omega)]
theorem shr_8 {n : Int} (h : 0 ≤ n) : n.fdiv (2 ^ min 8 IntKind.i64.bits) = n / 256 := by
  show n.fdiv 256 = _
  rw [Int.fdiv_eq_ediv_of_nonneg _ (by omega)]
theorem u8_mod {v : Int} : IntKind.u8.wrap v = v % 256 := by rw [IntKind.wrap_u8]
theorem rdp_n11 {h : Hp} {p : Nat} {a b c d e f g i j k l : Value} {md : Md} : (h.put p ⟨[a, b, c, d, e, f, g, i, j, k, l], md⟩).rdN p 0 11 = some [a, b, c, d, e, f, g, i, j, k, l] := by
  rw [rdN_mk gput (Nat.le_refl 11)]; rfl
theorem c_Track {h : Hp} {F : Int} {D : Bool} {id sc : Int} {a : Option Addr} {n c : Nat} {ss : List Smp} {r : List Value} (rd : Rd h 6 a n r) (row : AKd.Row (smpK.A h) ss r) (hl : ss.length = n) (hn : n ≤ 1000) :
    ACalls Try.prog 7 [rateV F D, .int .i64 id, .int .i64 sc, .slice a n c] h fun v h' => TrPost F D id sc ss h v h' := by
  refine code_Track_ok.snd hm rfl fun w => ?_
  rw [WF_eq, code_Track, rateV]
  obtain ⟨p8, hp8⟩ : ∃ p, (h.new ⟨[.int .i64 F, .bool D], .own⟩).size = p := ⟨_, rfl⟩
  have h8 : h.size ≤ p8 := by rw [← hp8]; exact Nat.le_succ _
  have h48 : h.size ≠ p8 := by rw [← hp8]; exact Nat.ne_of_lt (Nat.lt_succ_self _)
  have rd_b : ((h.new ⟨[.int .i64 F, .bool D], .own⟩).new ⟨zC, .own⟩).rdN h.size 0 2 = some [.int .i64 F, .bool D] := by
    rw [rdN_keep (get_new (Nat.lt_succ_self _))]; exact rdN_new rfl
  simp only [zC] at rd_b
  simp +contextual (disch := omega) only [↓AM, ↓AV, AP, CQ, i64, hp8, rd_b]
  refine c_chk.use ?_
  rintro _ h1 w1 ⟨rfl, fm1⟩
  have fm : Fm No h h1 := (Fm.new (Fm.new Fm.refl)).trans fm1 fun _ _ f => f
  have g4 := fm1.keep w.new.new ((get_new (Nat.lt_succ_self _)).trans gnew) (fun f => f)
  have g8 := fm1.keep w.new.new gnew (fun f => f)
  rw [hp8] at g8
  have s8 := w1.lt g8
  clear rd_b
  by_cases hok : okR F D
  case neg =>
    have e1 : chkR F D = 1 := if_neg hok
    simp +contextual (disch := omega) only [↓AM, ↓AV, AP, CQ, i64, hp8, e1, g8, rdp_n11]
    exact TrPost.no (by simp [TE, hok]) (by decide) (fm.put fun hlt => absurd hlt (by omega))
  have e1 : chkR F D = 0 := if_pos hok
  have hF := hok.1
  have r4 := rd_mk g4 (i := 0)
  have r4' := rd_mk g4 (i := 1)
  have eF : IntKind.u8.wrap F = F := u8 (by omega)
  simp only [List.getElem?_cons_zero, List.getElem?_cons_succ] at r4 r4'
  simp +contextual (disch := omega) only [↓AM, ↓AV, AP, CQ, i64, hp8, e1]
  refine WC.mk (fun t' h' => h' = h1 ∧ t' = [(1, some (.int .i64 id)), (2, some (.int .i64 sc)), (3, some (.slice a n c)), (4, some (.pointer (some ⟨h.size, 0, none⟩))), (8, some (.pointer (some ⟨p8, 0, none⟩))), (11, some (.int .u8 (dropI D)))]) ?_ ?_
  · cases D <;> simp +contextual (disch := omega) only [↓AM, ↓AV, AP, CQ, i64, hp8, r4'] <;> rfl
  rintro t hA ⟨rfl, rfl⟩
  obtain ⟨p12, hp12⟩ : ∃ p, (hA.new ⟨[.int .u8 F, .int .u8 (dropI D)], .own⟩).size = p := ⟨_, rfl⟩
  simp +contextual (disch := omega) only [↓AM, ↓AV, AP, CQ, i64, hp8, r4, eF]
  simp only [hp12]
  have hday : ∀ x, x < h.size → ¬ At (none : Option Addr) x := fun x _ => At.none
  have sA : hA.size < p12 := by rw [← hp12]; exact Nat.lt_succ_self _
  have g12 : ((hA.new ⟨[.int .u8 F, .int .u8 (dropI D)], .own⟩).new ⟨trC id sc (some ⟨hA.size, 0, none⟩) none 0 0, .own⟩).get p12 = some ⟨trC id sc (some ⟨hA.size, 0, none⟩) none 0 0, .own⟩ := by rw [← hp12]; exact gnew
  have gk : ∀ x o o', x < hA.size → ((hA.new o).new o').get x = hA.get x := fun x o o' hx => (get_new (Nat.lt_succ_of_lt hx)).trans (get_new hx)
  refine WL.mk (fun k t h' => Wf h' ∧ Fm No h h' ∧ h'.get h.size = some ⟨[.int .i64 F, .bool D], .own⟩ ∧ h'.get p8 = some ⟨zC, .own⟩ ∧ h'.get hA.size = some ⟨[F, dropI D].map (Value.int .u8), .own⟩ ∧
      ∃ i : Nat, i ≤ n ∧ k = n - i ∧ gE (dayN F D) ss = gE (dayN F D) (ss.drop i) ∧ ∃ qa qc qr, h'.get p12 = some ⟨trC id sc (some ⟨hA.size, 0, none⟩) qa i qc, .own⟩ ∧ (∀ x, At qa x → p12 < x) ∧ Ow h' 6 qa i qc qr ∧ AKd.Row (SpB h' qa) ((xsOf ss).take i) qr ∧
      t = [(4, some (.pointer (some ⟨h.size, 0, none⟩))), (8, some (.pointer (some ⟨p8, 0, none⟩))), (12, some (.pointer (some ⟨p12, 0, none⟩))), (33, some (.slice a n c)), (34, some (.int .i64 (n : Int))), (35, some (.int .i64 i))])
    ⟨n, w1.new.new, fm.new.new, (gk _ _ _ (by omega)).trans g4, (gk _ _ _ s8).trans g8, (get_new (Nat.lt_succ_self _)).trans gnew, 0, by omega, rfl, rfl, none, 0, [], g12, fun x hx => absurd hx At.none, Ow.mk0, rfl, rfl⟩ ?_
  rintro k t hL ⟨wL, fmL, g4, g8, gS, i, hi, rfl, hgE, qa, qc, qr, g12, hq, ow, rows, rfl⟩
  have l4 := wL.lt g4
  have l8 := wL.lt g8
  have l12 := wL.lt g12
  have g8n : ∀ o, (hL.new o).get p8 = some ⟨zC, .own⟩ := fun o => (get_new l8).trans g8
  have r4n : ∀ o, (hL.new o).rdN h.size 0 2 = some [.int .i64 F, .bool D] := fun o => by rw [rdN_keep (get_new l4)]; exact rdN_mk g4 (Nat.le_refl 2)
  simp only [zC] at g8n
  by_cases hin : i < n
  · obtain ⟨b1, o1, s1, y, cy, rfl, f1, hy, ay, r1, r2⟩ := row_el (A := smpK.A h) (z := 6) (fun x cs a => smpK.alen a) (rd.keepW w fmL nNo) row hl hin
    obtain ⟨pa, pc, da, dc, rfl, -, -, -, -⟩ := smp_open ay
    rw [gE_step hy] at hgE
    by_cases hneg : y.dts < 0
    · simp +contextual (disch := omega) only [↓AM, ↓AV, AP, CQ, CR, i64, hin, f1, r1, hneg, g8n, rdp_n11]
      rw [if_pos (Or.inl hneg)] at hgE
      exact TrPost.no (by simp [TE, hok, hgE]) (by decide) (fmL.new.put fun hlt => absurd hlt (by omega))
    simp +contextual (disch := omega) only [↓AM, ↓AV, AP, CQ, CR, i64, hin, f1, r1, hneg, r4n]
    refine (c_day hF).use ?_
    rintro _ h3 w3 ⟨rfl, fm3⟩
    rw [show 144 * (600 * F - 9 * missN F D) = dayN F D from rfl]
    have g14 := fm3.keep wL.new gnew (fun f => f)
    have g8' := fm3.keep wL.new (g8n _) (fun f => f)
    have fmh3 : Fm No h h3 := fmL.new.trans fm3 fun _ _ f => f
    by_cases hbig : dayN F D ≤ y.dts
    · simp +contextual (disch := omega) only [↓AM, ↓AV, AP, CQ, CR, i64, hbig, g8', rdp_n11]
      rw [if_pos (Or.inr hbig)] at hgE
      exact TrPost.no (by simp [TE, hok, hgE]) (by decide) (fmh3.put fun hlt => absurd hlt (by omega))
    have q5 := rd_mk g14 (i := 5)
    have q1 := rd_mk g14 (i := 1)
    have q2 := rd_mk g14 (i := 2)
    simp only [List.getElem?_cons_zero, List.getElem?_cons_succ] at q5 q1 q2
    by_cases hdat : (0 : Int) < (y.data.length : Int)
    · simp +contextual (disch := omega) only [↓AM, ↓AV, AP, CQ, CR, i64, hbig, hdat, q5, g8', rdp_n11]
      rw [if_neg (by omega), if_pos (by omega)] at hgE
      exact TrPost.no (by simp [TE, hok, hgE]) (by decide) (fmh3.put fun hlt => absurd hlt (by omega))
    rw [if_neg (by omega), if_neg (by omega)] at hgE
    have fm3L : Fm No hL h3 := (Fm.new Fm.refl).trans fm3 fun _ _ f => f
    have g12' := fm3L.keep wL g12 (fun f => f)
    have q10 := rd_mk g12' (i := 10)
    simp only [trC, List.getElem?_cons_zero, List.getElem?_cons_succ] at q10
    simp +contextual (disch := omega) only [↓AM, ↓AV, AP, CQ, CR, i64, hbig, hdat, q5, q1, q2, q10, shr_24, shr_16, shr_8, u8_mod]
    have gD : ∀ v : List Value, (h3.new ⟨v, .own⟩).get h3.size = some ⟨v, .own⟩ := fun v => gnew
    have s3 : hL.size ≤ h3.size := fm3L.size
    refine (ow.keep (F := No) wL fm3L.new (fun _ _ f => f)).push (m := 1) w3.new rfl ?_ fun oa' cap' h6 o6 w6 f6 n6 => ?_
    · omega
    have nq : ∀ x, x ≤ p12 → ¬ At qa x := fun x hx ha => absurd (hq x ha) (by omega)
    have g12n := f6.keep w3.new ((get_new (by omega)).trans g12') (nq _ (Nat.le_refl _))
    simp only [trC] at g12n
    simp +contextual (disch := omega) only [↓AM, ↓AV, AP, CQ, CR, i64, g12n]
    have fmK : ∀ x o, x < hL.size → ¬ At qa x → x ≠ p12 → hL.get x = some o → ∀ o', (h6.put p12 o').get x = some o := fun x o hx ha hp hg o' =>
      (get_put hp).trans (f6.keep w3.new ((get_new (by omega)).trans (fm3L.keep wL hg (fun f => f))) ha)
    have nq' : ∀ x, At oa' x → At qa x ∨ h3.size < x := fun x hx => (n6 x hx).imp (fun f => f) fun hs => hs
    refine ⟨_, by omega, w6.put (w6.lt g12n), ?_, fmK _ _ l4 (nq _ (by omega)) (by omega) g4 _, fmK _ _ l8 (nq _ (by omega)) (by omega) g8 _, fmK _ _ (wL.lt gS) (nq _ (by omega)) (by omega) gS _, i + 1, by omega, rfl, hgE, oa', cap', qr ++ spC (y.pts, y.dur, y.dts) h3.size, rfl, ?_, ?_, ?_, rfl⟩
    · exact ((fmh3.new).trans f6 fun x hx ha => absurd ha (nq x (by omega))).put fun hlt => absurd hlt (by omega)
    · intro x hx
      rcases nq' x hx with ha | hs
      · exact hq x ha
      · omega
    · refine o6.keep (F := fun x => x = p12) w6 (Fm.put Fm.refl fun _ => rfl) ?_
      rintro x hx rfl
      rcases nq' _ hx with ha | hs
      · exact nq _ (Nat.le_refl _) ha
      · omega
    · have hxs : (xsOf ss).take (i + 1) = (xsOf ss).take i ++ [(y.pts, y.dur, y.dts)] := by
        rw [List.take_add_one]; simp [xsOf, hy]
      rw [hxs]
      refine row_snoc (rows.mono ?_) ?_
      · rintro x cs ⟨b, rfl, hb, hnb⟩
        have hlt := wL.lt hb
        refine ⟨b, rfl, fmK b _ hlt hnb ?_ hb _, ?_⟩
        · rintro rfl
          rw [g12] at hb
          cases hb
        · intro hx
          rcases nq' b hx with ha | hs
          · exact hnb ha
          · omega
      · refine ⟨h3.size, rfl, (get_put (by omega)).trans (f6.keep w3.new gnew ?_), ?_⟩
        · intro ha
          have := ow.lt wL _ ha
          omega
        · intro hx
          rcases nq' _ hx with ha | hs
          · have := ow.lt wL _ ha
            omega
          · omega
  · have r12 := rdN_mk g12 (off := 0) (m := 11) (Nat.le_refl 11)
    have r12 : hL.rdN p12 0 11 = some (trC id sc (some ⟨hA.size, 0, none⟩) qa i qc) := r12
    have : i = n := by omega
    subst this
    have hx : (xsOf ss).take i = xsOf ss := List.take_of_length_le (by simp [xsOf]; omega)
    rw [hx] at rows
    simp only [trC] at r12
    simp +contextual (disch := omega) only [↓AM, ↓AV, AP, CQ, CR, i64, hin, r12]
    refine (c_mtrack ow.rd (rows.mono fun x cs a => a.a) (by simp [xsOf]; omega) (by omega)).use ?_
    rintro _ h4 w4 ⟨rfl, fm4⟩
    have g8' := fm4.keep wL g8 (fun f => f)
    have g12' := fm4.keep wL g12 (fun f => f)
    simp only [zC] at g8'
    have fmh := fmL.trans fm4 fun _ _ f => f
    have hTE : trE id sc (xsOf ss) = TE F D id sc ss := by
      rw [List.drop_eq_nil_of_le (by omega)] at hgE
      simp only [TE, if_pos hok, hgE]
      rfl
    by_cases he : trE id sc (xsOf ss) = 0
    · have r12' : h4.rdN p12 0 11 = some (trC id sc (some ⟨hA.size, 0, none⟩) qa i qc) := rdN_mk g12' (off := 0) (m := 11) (Nat.le_refl 11)
      simp only [trC] at r12'
      simp +contextual (disch := omega) only [↓AM, ↓AV, AP, CQ, CR, i64, he, r12', g8', rdp_n11]
      have fmF := fmh.put (o := ⟨trC id sc (some ⟨hA.size, 0, none⟩) qa i qc, .own⟩) (b := p8) fun hlt => absurd hlt (by omega)
      have keepA : ∀ {x o}, hL.get x = some o → x ≠ p8 → ∀ o', (h4.put p8 o').get x = some o := fun hg hx o' => (get_put hx).trans (fm4.keep wL hg (fun f => f))
      refine ⟨trC id sc (some ⟨hA.size, 0, none⟩) qa i qc, 0, rfl, by rw [← hTE, he], fmF, fun h => absurd rfl h, fun _ => ⟨some ⟨hA.size, 0, none⟩, qa, qc, qr, by rw [hl], ?_, ?_, ?_⟩⟩
      · exact Rd.of rfl (rdN_mk (keepA gS (by omega) _) (Nat.le_refl 2))
      · rw [hl]
        refine (ow.rd.keepW wL fm4 nNo).keep (F := fun x => x = p8) w4 (Fm.put Fm.refl fun _ => rfl) ?_
        rintro x hx rfl
        have := hq _ hx
        omega
      · refine rows.mono ?_
        rintro x cs ⟨b, rfl, hb, _⟩
        refine ⟨b, rfl, keepA hb ?_ _⟩
        rintro rfl
        rw [g8] at hb
        cases hb
    · have he' : EqI (trE id sc (xsOf ss)) 0 = False := eq_false he
      simp +contextual (disch := omega) only [↓AM, ↓AV, AP, CQ, CR, i64, he', g8', rdp_n11]
      exact TrPost.no hTE he (fmh.put fun hlt => absurd hlt (by omega))
end Go.Proofs.Ytnibipabfdalcaa.Md
