/- The reference's encoder: a bit. Plain theorems over the abstract machine.
   Conditions: none. -/
import Derived.Test.YtholkooikmbamaaArG
namespace Go.Proofs.Ytholkooikmbamaa.Ar
open Go Go.RowKit Go.Proofs.Ytholkooikmbamaa.Am Go.Proofs.Ytholkooikmbamaa.Af
set_option linter.unusedVariables false
set_option linter.unusedSimpArgs false
set_option maxRecDepth 20000

/-- Ahead of the carry. -/
def bit0 (e : En) (p b : Int) : En := if b = 0 then ⟨e.low, e.span / 4096 * p, e.out, e.n⟩ else ⟨e.low + e.span / 4096 * p, e.span - e.span / 4096 * p, e.out, e.n⟩
theorem bit1_0 {e : En} {p b : Int} (h : e.low ≤ 4294967295) : bit1 e p b = if 4294967296 ≤ (bit0 e p b).low then ⟨(bit0 e p b).low - 4294967296, (bit0 e p b).span, carryL (bit0 e p b).out, e.n⟩ else bit0 e p b := by
  unfold bit1 bit0
  by_cases hb : b = 0
  · simp only [if_pos hb]
    rw [if_neg (by omega)]
  · simp only [if_neg hb]
theorem c_rput {h : Hp} {b : Nat} {oa : Option Addr} {e : En} {p bt : Int} (he : EncAt .i64 h b oa e) (g : Gd e) (hp : St p) (hb : bt = 0 ∨ bt = 1) (hl : e.out.length ≤ 100000000) (hn : e.n ≤ 100000000) :
    ACalls Try.prog 70 [.pointer (some ⟨b, 0, none⟩), .int .i64 p, .int .i64 bt] h fun v h' => ∃ oa', EncAt .i64 h' b oa' (put e p bt) ∧ Fm (Ft b oa) h h' ∧ ∀ x, At oa' x → At oa x ∨ h.size ≤ x := by
  refine dioramaref13_Encoder__put_ok.snd hm rfl fun w => ?_
  rw [WF_eq, dioramaref13_Encoder__put]
  have he0 := he
  obtain ⟨ln, cap, hg, ow, hna⟩ := he
  have la := ow.rd.ilen
  have hs := g.span
  have hlo := g.low
  have hp' := hp
  obtain ⟨hp1, hp2⟩ := hp'
  have hbd := bound_le g.span hp
  have hmid := bit1_gd (b := bt) g hp
  have e1 : IntKind.i64.wrap (e.span.tdiv 4096) = e.span / 4096 := IntWalk.i64_quo _ _ (by omega)
  have e3 : IntKind.i64.wrap (e.span / 4096 * p) = e.span / 4096 * p := i64 (by omega)
  have e4 : IntKind.i64.wrap (e.low + e.span / 4096 * p) = e.low + e.span / 4096 * p := i64 (by omega)
  have e5 : IntKind.i64.wrap (e.span - e.span / 4096 * p) = e.span - e.span / 4096 * p := i64 (by omega)
  simp +contextual only [↓AM, ↓AV, AP, rd_mk hg, hg, show (4096 : Int) ≠ 0 by decide]
  have b10 := bit1_0 (e := e) (p := p) (b := bt) hlo.2
  refine WC.mk (fun t h' => t = [(0, some (.pointer (some ⟨b, 0, none⟩)))] ∧ Wf h' ∧ Fm (Ft b oa) h h' ∧ EncAt .i64 h' b oa (bit0 e p bt)) ?_ ?_
  · simp +contextual only [↓AM, ↓AV, AP, rd_mk hg, hg, e1, e3, e4, e5]
    refine ⟨fun (hb0 : bt = 0) => ⟨w.put (w.lt hg), Fm.ft Fm.refl, ?_⟩, fun (hb0 : ¬ bt = 0) => ⟨w.put (w.lt hg), Fm.ft Fm.refl, ?_⟩⟩
    · have := EncAt.st (k := .i64) (e := bit0 e p bt) w hg (by rw [bit0, if_pos hb0]; exact ow) hna
      rw [bit0, if_pos hb0] at this ⊢
      exact this
    · have := EncAt.st (k := .i64) (e := bit0 e p bt) w hg (by rw [bit0, if_neg hb0]; exact ow) hna
      rw [bit0, if_neg hb0] at this ⊢
      exact this
  rintro t h1 ⟨rfl, w1, fm1, he1⟩
  have h0n : (bit0 e p bt).n = e.n := by unfold bit0; split <;> rfl
  have h0o : (bit0 e p bt).out = e.out := by unfold bit0; split <;> rfl
  have h0l : (bit0 e p bt).low ≤ 8589934591 := by
    unfold bit0
    split
    · show e.low ≤ _; omega
    · show e.low + _ ≤ _; omega
  have hmn : (bit1 e p bt).n = e.n := by unfold bit1; split; rfl; split <;> rfl
  have hml : (bit1 e p bt).out.length = e.out.length := by
    unfold bit1
    split
    · rfl
    · split
      · exact carry_len _
      · rfl
  have hput : put e p bt = ⟨(norm (bit1 e p bt)).low, (norm (bit1 e p bt)).span, (norm (bit1 e p bt)).out, e.n + 1⟩ := rfl
  rw [hput]
  obtain ⟨ln1, cap1, hg1, ow1, hna1⟩ := he1
  rw [h0n] at hg1
  rw [h0o] at ow1
  have la1 := ow1.rd.ilen
  simp +contextual only [↓AM, ↓AV, AP]
  refine WC.mk (fun t h' => t = [(0, some (.pointer (some ⟨b, 0, none⟩)))] ∧ Wf h' ∧ Fm (Ft b oa) h h' ∧ EncAt .i64 h' b oa (bit1 e p bt)) ?_ ?_
  · by_cases hbig : 4294967296 ≤ (bit0 e p bt).low
    · rw [b10, if_pos hbig, h0o]
      have e6 : IntKind.i64.wrap ((bit0 e p bt).low - 4294967296) = (bit0 e p bt).low - 4294967296 := i64 (by omega)
      have e7 : IntKind.i64.wrap ((ln1 : Int) - 1) = (ln1 : Int) - 1 := i64 (by omega)
      simp +contextual only [↓AM, ↓AV, AP, rd_mk hg1, hg1, hbig, e6, e7]
      have hw2 := w1.put (o := ⟨[.int .i64 ((bit0 e p bt).low - 4294967296), .int .i64 (bit0 e p bt).span, .slice oa ln1 cap1, .int .i64 e.n], .own⟩) (w1.lt hg1)
      have f2 : Fm (fun x => x = b) h1 (h1.put b ⟨[.int .i64 ((bit0 e p bt).low - 4294967296), .int .i64 (bit0 e p bt).span, .slice oa ln1 cap1, .int .i64 e.n], .own⟩) := Fm.put Fm.refl fun _ => rfl
      have ow2 := ow1.keep w1 f2 (fun x hx hb => hna1 (hb ▸ hx))
      have fm2 := Fm.ft (o := ⟨[.int .i64 ((bit0 e p bt).low - 4294967296), .int .i64 (bit0 e p bt).span, .slice oa ln1 cap1, .int .i64 e.n], .own⟩) fm1
      have hg2 := gput (h := h1) (b := b) (o := ⟨[.int .i64 ((bit0 e p bt).low - 4294967296), .int .i64 (bit0 e p bt).span, .slice oa ln1 cap1, .int .i64 e.n], .own⟩)
      generalize h1.put b ⟨[.int .i64 ((bit0 e p bt).low - 4294967296), .int .i64 (bit0 e p bt).span, .slice oa ln1 cap1, .int .i64 e.n], .own⟩ = k2 at hw2 ow2 fm2 hg2
      refine WL.mk (fun m t h' => Wf h' ∧ Fm (Ft b oa) h h' ∧ h'.get b = some ⟨[.int .i64 ((bit0 e p bt).low - 4294967296), .int .i64 (bit0 e p bt).span, .slice oa ln1 cap1, .int .i64 e.n], .own⟩ ∧
        ∃ i : Int, -1 ≤ i ∧ i < ln1 ∧ m = (i + 1).toNat ∧ ∃ ys, Ow h' 1 oa ln1 cap1 (ys.map (Value.int .u8)) ∧ carryL e.out = carryL (e.out.take (i + 1).toNat) ++ ys.drop (i + 1).toNat ∧ ys.take (i + 1).toNat = e.out.take (i + 1).toNat ∧
        t = [(0, some (.pointer (some ⟨b, 0, none⟩))), (7, some (.int .i64 i))])
        ⟨ln1, hw2, fm2, hg2, (ln1 : Int) - 1, by omega, by omega, by omega, e.out, ow2, ?_, rfl, rfl⟩ ?_
      · rw [show ((ln1 : Int) - 1 + 1).toNat = e.out.length by omega]; simp
      clear hw2 ow2 fm2 hg2
      rintro m t k2 ⟨w2, fm2, hg2, i, hi, hi2, rfl, ys, ow2, hc, ht, rfl⟩
      by_cases hi0 : 0 ≤ i
      · obtain ⟨j, rfl⟩ : ∃ j : Nat, i = j := ⟨i.toNat, by omega⟩
        have hj : j < ln1 := by omega
        have ly := ow2.rd.ilen
        obtain ⟨b1, s1, ob, v, rfl, f1, hgo, hmd, hle, hv, r1, hput1⟩ := ow2.cell w2 hj
        rw [List.getElem?_map] at hv
        obtain ⟨u, hu, rfl⟩ : ∃ u, ys[j]? = some u ∧ Value.int .u8 u = v := by
          cases hy : ys[j]? with
          | none => rw [hy] at hv; cases hv
          | some u => rw [hy] at hv; exact ⟨u, rfl, by simpa using hv⟩
        have ej : ((j : Int) + 1).toNat = j + 1 := rfl
        rw [ej] at hc ht
        have hxj : e.out[j]? = some u := by
          have := congrArg (·[j]?) ht
          simpa [List.getElem?_take, hu] using this.symm
        have hub := g.out u (List.mem_of_getElem? hxj)
        have htk : e.out.take (j + 1) = e.out.take j ++ [u] := by rw [List.take_add_one, hxj]; rfl
        have hyj : j < ys.length := by omega
        have hbb : b ≠ b1 := fun h => hna1 ⟨_, rfl, h.symm⟩
        have hset : ∀ z : Int, (ys.map (Value.int .u8)).set j (.int .u8 z) = (ys.set j z).map (Value.int .u8) := fun z => by rw [List.map_set]
        by_cases hu255 : u = 255
        · subst hu255
          obtain ⟨p1, p2, p3, p4⟩ := hput1 (.int .u8 0)
          rw [hset] at p2
          simp +contextual only [↓AM, ↓AV, AP, f1, r1, hj, hgo, hmd, hle, p1, rd_mk hg2]
          refine ⟨_, ?_, p3, fm2.trans p4 (fun _ _ h => .inr h), p4.keep w2 hg2 (fun h => hna1 h), (j : Int) - 1, by omega, by omega, rfl, _, p2, ?_, ?_, ?_⟩
          · omega
          · rw [show ((j : Int) - 1 + 1).toNat = j by omega, hc, htk, carry_255, List.append_assoc]
            congr 1
            rw [List.drop_eq_getElem_cons (l := ys.set j 0) (by simpa using hyj), List.getElem_set_self, List.drop_set_of_lt (by omega)]
            rfl
          · rw [show ((j : Int) - 1 + 1).toNat = j by omega]
            have := congrArg (List.take j) ht
            rw [List.take_set, List.set_eq_of_length_le (by simp; omega)]
            simpa [List.take_take] using this
          · rw [i64 (by omega)]
        · have hne : EqI u 255 = False := by simp [EqI, hu255]
          obtain ⟨p1, p2, p3, p4⟩ := hput1 (.int .u8 (IntKind.u8.wrap (u + 1)))
          rw [hset] at p2
          simp +contextual only [↓AM, ↓AV, AP, f1, r1, hj, hgo, hmd, hle, p1, rd_mk hg2, hne]
          refine ⟨p3, fm2.trans p4 (fun _ _ h => .inr h), ln1, cap1, p4.keep w2 hg2 (fun h => hna1 h), ?_, hna1⟩
          rw [u8 (by omega)] at p2 ⊢
          rw [hc, htk, carry_ne _ hu255]
          have : ys.set j (u + 1) = (List.take j e.out ++ [u + 1]) ++ ys.drop (j + 1) := by
            have h2 : ys.take j = e.out.take j := by
              have := congrArg (List.take j) ht
              simpa [List.take_take] using this
            rw [← h2, List.set_eq_take_append_cons_drop, if_pos hyj]
            simp
          rw [← this]
          exact p2
      · have : i = -1 := by omega
        subst this
        simp +contextual only [↓AM, ↓AV, AP, hi0]
        simp at hc
        rw [hc]
        exact ⟨w2, fm2, ln1, cap1, hg2, ow2, hna1⟩
    · rw [b10, if_neg hbig]
      simp +contextual only [↓AM, ↓AV, AP, rd_mk hg1, hg1, hbig]
      exact ⟨w1, fm1, ln1, cap1, by rw [h0n]; exact hg1, by rw [h0o]; exact ow1, hna1⟩
  rintro t k1 ⟨rfl, wk1, fmk1, hek1⟩
  clear b10 hg1 ow1 la1 fm1 w1
  generalize bit1 e p bt = m at hmn hml hek1 hmid ⊢
  simp +contextual only [↓AM, ↓AV, AP]
  refine WL.mk (fun k t h' => t = [(0, some (.pointer (some ⟨b, 0, none⟩)))] ∧ Wf h' ∧ Fm (Ft b oa) h h' ∧ ∃ oa', (∀ x, At oa' x → At oa x ∨ h.size ≤ x) ∧ ((k = 1 ∧ EncAt .i64 h' b oa' m) ∨ (k = 0 ∧ EncAt .i64 h' b oa' (norm m) ∧ 16777216 ≤ (norm m).span)))
    ⟨1, rfl, wk1, fmk1, oa, fun x hx => .inl hx, .inl ⟨rfl, hek1⟩⟩ ?_
  have hnn := g.n
  have hn1 : (norm m).n = m.n := by unfold norm; split <;> rfl
  rintro k t h2 ⟨rfl, w2, fm2, oa2, nx, ⟨rfl, he2⟩ | ⟨rfl, he2, hsp⟩⟩
  · obtain ⟨l, c, hg2, ow2, hna2⟩ := he2
    have la2 := ow2.rd.ilen
    by_cases hsm : m.span < 16777216
    · have e8 : norm m = ⟨m.low % 16777216 * 256, m.span * 256, m.out ++ [m.low / 16777216], m.n⟩ := by rw [norm, if_pos hsm]
      have e9 : m.low.fdiv (2 ^ min 24 IntKind.i64.bits) = m.low / 16777216 := shr_u (k := 24) (by omega)
      have e10 : IntKind.u8.wrap (m.low / 16777216) = m.low / 16777216 := u8 (by omega)
      have e11 : m.low.tmod 16777216 = m.low % 16777216 := Int.tmod_eq_emod_of_nonneg (by omega)
      have e12 : IntKind.i64.wrap (m.low % 16777216 * 256) = m.low % 16777216 * 256 := i64 (by omega)
      have e13 : IntKind.i64.wrap (m.span * 256) = m.span * 256 := i64 (by omega)
      simp +contextual only [↓AM, ↓AV, AP, rd_mk hg2, hg2, hsm, src_new, e9, e10]
      refine ow2.push (m := 1) w2 rfl (by omega) fun oa3 c3 h3 ow3 w3 fm3 nx3 => ?_
      have hg3 := fm3.keep w2 hg2 hna2
      have hna3 : ¬ At oa3 b := fun hx => (nx3 b hx).elim hna2 fun hs => by have := w2.lt hg2; omega
      simp +contextual only [↓AM, ↓AV, AP, rd_mk hg3, hg3, e11, e12, e13, show (16777216 : Int) ≠ 0 by decide]
      refine ⟨0, by omega, w3.put (w3.lt hg3), Fm.ft (fm2.trans fm3 fun x hx ha => ?_), oa3, ?_, ?_⟩
      · rcases nx x ha with h | h
        · exact .inr h
        · omega
      · intro x hx
        rcases nx3 x hx with h | h
        · exact nx x h
        · exact .inr (Nat.le_trans fm2.size h)
      · refine .inr ⟨rfl, ?_, ?_⟩
        · have := EncAt.st (k := .i64) (e := norm m) w3 hg3 (by rw [e8, List.map_append]; exact ow3) hna3
          rw [e8] at this ⊢
          exact this
        · rw [e8]; show _ ≤ m.span * 256; omega
    · have e8 : norm m = m := by rw [norm, if_neg hsm]
      simp +contextual only [↓AM, ↓AV, AP, rd_mk hg2, hg2, hsm]
      rw [e8, hmn, i64 (by omega)]
      exact ⟨oa2, EncAt.st (e := ⟨m.low, m.span, m.out, e.n + 1⟩) w2 hg2 ow2 hna2, Fm.ft fm2, nx⟩
  · obtain ⟨l, c, hg2, ow2, hna2⟩ := he2
    have hsm : ¬ (norm m).span < 16777216 := by omega
    simp +contextual only [↓AM, ↓AV, AP, rd_mk hg2, hg2, hsm]
    rw [hn1, hmn, i64 (by omega)]
    exact ⟨oa2, EncAt.st (e := ⟨(norm m).low, (norm m).span, (norm m).out, e.n + 1⟩) w2 hg2 ow2 hna2, Fm.ft fm2, nx⟩
end Go.Proofs.Ytholkooikmbamaa.Ar
