/- The reference's signed numbers; a call of either encoder. Plain theorems over the abstract machine.
   Conditions: none. -/
import Derived.Test.YtholkooikmbamaaArJ
namespace Go.Proofs.Ytholkooikmbamaa.Ar
open Go Go.RowKit Go.Proofs.Ytholkooikmbamaa.Am Go.Proofs.Ytholkooikmbamaa.Af
set_option linter.unusedVariables false
set_option linter.unusedSimpArgs false
set_option maxRecDepth 20000

theorem c_rSigned {h : Hp} {b n c : Nat} {oa a : Option Addr} {e : En} {l : List Int} {s : Int} (he : EncAt .i64 h b oa e) (g : Fit e) (hl : Rd h 1 a n (l.map (Value.int .i64))) (hn : 8 * n ≤ 140737488351232) (hs : -9223372036854775808 ≤ s ∧ s ≤ 9223372036854775807) :
    ACalls Try.prog 52 [.pointer (some ⟨b, 0, none⟩), .slice a n c, .int .i64 s] h (NumPost .i64 h b oa (numI e l (foldI s)) (numE e l (foldI s)) (numL e l (foldI s))) := by
  refine dioramaref13_Encoder__Signed_ok.snd hm rfl fun w => ?_
  rw [WF_eq, dioramaref13_Encoder__Signed]
  simp +contextual only [↓AM, ↓AV, AP]
  refine (c_good hl (by omega)).use ?_
  rintro _ h w1 ⟨rfl, rfl⟩
  by_cases hg : goodB l = true
  case neg =>
    have hI : numI e l (foldI s) = 130 := by rw [numI_good, if_neg hg]
    have hg : goodB l = false := by simpa using hg
    simp +contextual only [↓AM, ↓AV, AP, hg]
    rw [numE, numL, hI]
    exact NumPost.err he Fm.refl
  by_cases hr : -524288 ≤ s ∧ s < 524288
  case neg =>
    have hf : foldI s = -1 := by
      unfold foldI
      rw [if_neg (by omega), if_neg (by omega)]
    have hI : numI e l (foldI s) = 1 := by rw [numI_good, if_pos hg, hf, if_neg (by omega)]
    have fin : NumPost .i64 h b oa (numI e l (foldI s)) (numE e l (foldI s)) (numL e l (foldI s)) (.tuple #[.slice none 0 0, .int .i64 1]) h := by
      rw [numE, numL, hI]
      exact NumPost.err he Fm.refl
    simp +contextual only [↓AM, ↓AV, AP, hg]
    refine ⟨fun hv0 => fin, fun hv0 => ⟨fun hv1 => fin, fun hv1 => by omega⟩⟩
  have hf : (if s < 0 then -2 * s - 1 else 2 * s) = foldI s := by
    unfold foldI
    split
    · rw [if_neg (by omega), if_pos (by omega)]
    · rw [if_pos (by omega)]
  have h1 : ¬ s < -524288 := by omega
  have h2 : ¬ 524288 ≤ s := by omega
  simp +contextual only [↓AM, ↓AV, AP, hg, h1, h2]
  refine (c_Fold (s := s) (by omega)).use ?_
  rintro _ h w1 ⟨rfl, rfl⟩
  rw [hf]
  simp +contextual only [↓AM, ↓AV, AP]
  have hf : -9223372036854775808 ≤ foldI s ∧ foldI s ≤ 9223372036854775807 := by
    unfold foldI
    split
    · omega
    · split <;> omega
  refine (c_rNumber he g hl hn hf).use ?_
  rintro r h1 w1 hq
  have hq' := hq
  obtain ⟨oa', os, cap, rfl, _⟩ := hq'
  simp +contextual only [↓AM, ↓AV, AP]
  exact hq
/-- A call of an encoder: its error, the encoder and the states behind it. -/
def opI (e : En) (d : Int) (l : List Int) (v : Int) : Int := if d = 0 then (bitI e (l.getD 0 0) v).2 else if d = 1 then numI e l v else numI e l (foldI v)
def opE (e : En) (d : Int) (l : List Int) (v : Int) : En := if d = 0 then bitE e (l.getD 0 0) v else if d = 1 then numE e l v else numE e l (foldI v)
def opL (e : En) (d : Int) (l : List Int) (v : Int) : List Int := if d = 0 then [(bitI e (l.getD 0 0) v).1] else if d = 1 then numL e l v else numL e l (foldI v)
theorem NumPost.one {k : IntKind} {h h1 : Hp} {b : Nat} {oa oa' : Option Addr} {e' : En} {x : Int × Int} (w : Wf h1) (he : EncAt k h1 b oa' e') (fm : Fm (Ft b oa) h h1) (nx : ∀ x, At oa' x → At oa x ∨ h.size ≤ x) :
    NumPost k h b oa x.2 e' [x.1] (.tuple #[.slice (some ⟨h1.size, 0, none⟩) 1 1, .int .i64 x.2]) (h1.new ⟨[.int .i64 x.1], .own⟩) := by
  refine ⟨oa', some ⟨h1.size, 0, none⟩, 1, rfl, he.keep w (Fm.new Fm.refl : Fm No h1 _) (fun _ _ => id), ?_, ?_, ?_, fm.new, nx⟩
  · exact Ow.new (n := 1) (m := 1) rfl (by omega)
  · intro x hx
    rw [At.some] at hx
    subst hx
    exact fm.size
  · intro x hx hF
    rw [At.some] at hx
    subst hx
    exact Nat.lt_irrefl _ (he.lt w _ hF)
theorem rd_lt {h : Hp} (w : Wf h) {b i : Nat} {v : Value} (e : h.rd b i = some v) : b < h.size := by
  unfold Hp.rd at e
  cases hg : h.get b with
  | none => rw [hg] at e; cases e
  | some o => exact w.lt hg
theorem eqI_of {a b : Int} (h : ¬ a = b) : EqI a b = False := by simp [EqI, h]
theorem c_write {h : Hp} {b n c sn sc : Nat} {oa a sa : Option Addr} {e : En} {l : List Int} {d ctx v : Int} (he : EncAt .u64 h b oa e) (g : Fit e) (hl : Rd h 1 a n (l.map (Value.int .i64))) (hd : ∀ x, At a x → ¬ Ft b oa x) (hn : 8 * n ≤ 140737488351232) (hn0 : 0 < n) (hv : -9223372036854775808 ≤ v ∧ v ≤ 9223372036854775807) :
    ACalls Try.prog 17 [.pointer (some ⟨b, 0, none⟩), .agg #[.int .i64 d, .int .i64 ctx, .int .i64 v, .slice sa sn sc], .slice a n c] h (NumPost .u64 h b oa (opI e d l v) (opE e d l v) (opL e d l v)) := by
  refine dioramalaw13_write_ok.snd hm rfl fun w => ?_
  rw [WF_eq, dioramalaw13_write]
  have fm0 : Fm No h (h.new ⟨[.int .i64 d, .int .i64 ctx, .int .i64 v, .slice sa sn sc], .own⟩) := Fm.new Fm.refl
  have he0 := he.keep w fm0 (fun _ _ => id)
  have hl0 := hl.keep w fm0 (fun _ _ => id)
  have hbx : (h.new ⟨[.int .i64 d, .int .i64 ctx, .int .i64 v, .slice sa sn sc], .own⟩).get h.size = some ⟨[.int .i64 d, .int .i64 ctx, .int .i64 v, .slice sa sn sc], .own⟩ := gnew
  have wn := w.new (o := ⟨[.int .i64 d, .int .i64 ctx, .int .i64 v, .slice sa sn sc], .own⟩)
  have hnF : ¬ Ft b oa h.size := fun hF => Nat.lt_irrefl _ (he.lt w _ hF)
  have hl1 := hl.ilen
  have out : ∀ {err : Int} {e' : En} {l' : List Int} {r : Value} {h' : Hp}, NumPost .u64 (h.new ⟨[.int .i64 d, .int .i64 ctx, .int .i64 v, .slice sa sn sc], .own⟩) b oa err e' l' r h' → NumPost .u64 h b oa err e' l' r h' := by
    rintro err e' l' r h' ⟨oa', os, cap, q1, q2, q3, q4, q5, q6, q7⟩
    exact ⟨oa', os, cap, q1, q2, q3, fun x hx => Nat.le_trans fm0.size (q4 x hx), q5, (fm0.mono fun _ _ h => h.elim).trans q6 fun _ _ => id, fun x hx => (q7 x hx).imp id fun h => Nat.le_trans fm0.size h⟩
  by_cases hd0 : d = 0
  · subst hd0
    have h1 : opI e 0 l v = (bitI e (l.getD 0 0) v).2 := rfl
    have h2 : opE e 0 l v = bitE e (l.getD 0 0) v := rfl
    have h3 : opL e 0 l v = [(bitI e (l.getD 0 0) v).1] := rfl
    rw [h1, h2, h3]
    obtain ⟨bb, off, sp, rfl, f1, x, hx, r1⟩ := hl0.int hn0
    have hbb : ¬ Ft b oa bb := hd _ (At.some.2 rfl)
    simp only [Nat.add_zero] at r1
    have hg0 : l.getD 0 0 = x := by rw [List.getD_eq_getElem?_getD, hx]; rfl
    rw [← hg0] at r1
    simp +contextual only [↓AM, ↓AV, AP, f1, hn0, r1]
    refine ⟨by omega, (c_Bit he0 g).use ?_⟩
    rintro _ h1 w1 ⟨rfl, oa', he1, fm1, nx1⟩
    have hbx1 := fm1.keep wn hbx hnF
    have r2 : h1.rd bb off = some (.int .i64 (l.getD 0 0)) := by
      rw [← r1]
      refine rd_keep (fm1.get bb ?_ hbb)
      exact rd_lt wn r1
    simp +contextual only [↓AM, ↓AV, AP, r2, rd_mk hbx1, pairV]
    exact out (NumPost.one w1 he1 fm1 nx1)
  by_cases hd1 : d = 1
  · subst hd1
    have h1 : opI e 1 l v = numI e l v := rfl
    have h2 : opE e 1 l v = numE e l v := rfl
    have h3 : opL e 1 l v = numL e l v := rfl
    rw [h1, h2, h3]
    simp +contextual only [↓AM, ↓AV, AP]
    refine (c_Number he0 g hl0 (by omega) hv).use ?_
    rintro r h1 w1 hq
    have hq' := hq
    obtain ⟨oa', os, cap, rfl, _⟩ := hq'
    simp +contextual only [↓AM, ↓AV, AP]
    exact out hq
  · have h1 : opI e d l v = numI e l (foldI v) := by rw [opI, if_neg hd0, if_neg hd1]
    have h2 : opE e d l v = numE e l (foldI v) := by rw [opE, if_neg hd0, if_neg hd1]
    have h3 : opL e d l v = numL e l (foldI v) := by rw [opL, if_neg hd0, if_neg hd1]
    rw [h1, h2, h3]
    have e0 := eqI_of hd0
    have e1 := eqI_of hd1
    simp +contextual only [↓AM, ↓AV, AP, e0, e1]
    refine (c_Signed he0 g hl0 (by omega) hv).use ?_
    rintro r h1 w1 hq
    have hq' := hq
    obtain ⟨oa', os, cap, rfl, _⟩ := hq'
    simp +contextual only [↓AM, ↓AV, AP]
    exact out hq
theorem c_written {h : Hp} {b n c sn sc : Nat} {oa a sa : Option Addr} {e : En} {l : List Int} {d ctx v : Int} (he : EncAt .i64 h b oa e) (g : Fit e) (hl : Rd h 1 a n (l.map (Value.int .i64))) (hd : ∀ x, At a x → ¬ Ft b oa x) (hn : 8 * n ≤ 140737488351232) (hn0 : 0 < n) (hv : -9223372036854775808 ≤ v ∧ v ≤ 9223372036854775807) :
    ACalls Try.prog 19 [.pointer (some ⟨b, 0, none⟩), .agg #[.int .i64 d, .int .i64 ctx, .int .i64 v, .slice sa sn sc], .slice a n c] h (NumPost .i64 h b oa (opI e d l v) (opE e d l v) (opL e d l v)) := by
  refine dioramalaw13_written_ok.snd hm rfl fun w => ?_
  rw [WF_eq, dioramalaw13_written]
  have fm0 : Fm No h (h.new ⟨[.int .i64 d, .int .i64 ctx, .int .i64 v, .slice sa sn sc], .own⟩) := Fm.new Fm.refl
  have he0 := he.keep w fm0 (fun _ _ => id)
  have hl0 := hl.keep w fm0 (fun _ _ => id)
  have hbx : (h.new ⟨[.int .i64 d, .int .i64 ctx, .int .i64 v, .slice sa sn sc], .own⟩).get h.size = some ⟨[.int .i64 d, .int .i64 ctx, .int .i64 v, .slice sa sn sc], .own⟩ := gnew
  have wn := w.new (o := ⟨[.int .i64 d, .int .i64 ctx, .int .i64 v, .slice sa sn sc], .own⟩)
  have hnF : ¬ Ft b oa h.size := fun hF => Nat.lt_irrefl _ (he.lt w _ hF)
  have hl1 := hl.ilen
  have out : ∀ {err : Int} {e' : En} {l' : List Int} {r : Value} {h' : Hp}, NumPost .i64 (h.new ⟨[.int .i64 d, .int .i64 ctx, .int .i64 v, .slice sa sn sc], .own⟩) b oa err e' l' r h' → NumPost .i64 h b oa err e' l' r h' := by
    rintro err e' l' r h' ⟨oa', os, cap, q1, q2, q3, q4, q5, q6, q7⟩
    exact ⟨oa', os, cap, q1, q2, q3, fun x hx => Nat.le_trans fm0.size (q4 x hx), q5, (fm0.mono fun _ _ h => h.elim).trans q6 fun _ _ => id, fun x hx => (q7 x hx).imp id fun h => Nat.le_trans fm0.size h⟩
  by_cases hd0 : d = 0
  · subst hd0
    have h1 : opI e 0 l v = (bitI e (l.getD 0 0) v).2 := rfl
    have h2 : opE e 0 l v = bitE e (l.getD 0 0) v := rfl
    have h3 : opL e 0 l v = [(bitI e (l.getD 0 0) v).1] := rfl
    rw [h1, h2, h3]
    obtain ⟨bb, off, sp, rfl, f1, x, hx, r1⟩ := hl0.int hn0
    have hbb : ¬ Ft b oa bb := hd _ (At.some.2 rfl)
    simp only [Nat.add_zero] at r1
    have hg0 : l.getD 0 0 = x := by rw [List.getD_eq_getElem?_getD, hx]; rfl
    rw [← hg0] at r1
    simp +contextual only [↓AM, ↓AV, AP, f1, hn0, r1]
    refine ⟨by omega, (c_rBit he0 g).use ?_⟩
    rintro _ h1 w1 ⟨rfl, oa', he1, fm1, nx1⟩
    have hbx1 := fm1.keep wn hbx hnF
    have r2 : h1.rd bb off = some (.int .i64 (l.getD 0 0)) := by
      rw [← r1]
      refine rd_keep (fm1.get bb ?_ hbb)
      exact rd_lt wn r1
    simp +contextual only [↓AM, ↓AV, AP, r2, rd_mk hbx1, pairV]
    exact out (NumPost.one w1 he1 fm1 nx1)
  by_cases hd1 : d = 1
  · subst hd1
    have h1 : opI e 1 l v = numI e l v := rfl
    have h2 : opE e 1 l v = numE e l v := rfl
    have h3 : opL e 1 l v = numL e l v := rfl
    rw [h1, h2, h3]
    simp +contextual only [↓AM, ↓AV, AP]
    refine (c_rNumber he0 g hl0 (by omega) hv).use ?_
    rintro r h1 w1 hq
    have hq' := hq
    obtain ⟨oa', os, cap, rfl, _⟩ := hq'
    simp +contextual only [↓AM, ↓AV, AP]
    exact out hq
  · have h1 : opI e d l v = numI e l (foldI v) := by rw [opI, if_neg hd0, if_neg hd1]
    have h2 : opE e d l v = numE e l (foldI v) := by rw [opE, if_neg hd0, if_neg hd1]
    have h3 : opL e d l v = numL e l (foldI v) := by rw [opL, if_neg hd0, if_neg hd1]
    rw [h1, h2, h3]
    have e0 := eqI_of hd0
    have e1 := eqI_of hd1
    simp +contextual only [↓AM, ↓AV, AP, e0, e1]
    refine (c_rSigned he0 g hl0 (by omega) hv).use ?_
    rintro r h1 w1 hq
    have hq' := hq
    obtain ⟨oa', os, cap, rfl, _⟩ := hq'
    simp +contextual only [↓AM, ↓AV, AP]
    exact out hq
end Go.Proofs.Ytholkooikmbamaa.Ar
