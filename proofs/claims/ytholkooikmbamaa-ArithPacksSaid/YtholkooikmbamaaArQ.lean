/- The decoders' numbers. Plain theorems over the abstract machine.
   Conditions: none. -/
import Derived.Test.YtholkooikmbamaaArP
import Derived.Test.YtholkooikmbamaaArI
namespace Go.Proofs.Ytholkooikmbamaa.Ar
open Go Go.RowKit Go.Proofs.Ytholkooikmbamaa.Am Go.Proofs.Ytholkooikmbamaa.Af
set_option linter.unusedVariables false
set_option linter.unusedSimpArgs false
set_option maxRecDepth 20000

def numR (bs : List Int) (s : De) (l : List Int) : Except Int (Int × De × List Int) := if goodB l = true then numD bs (s, l) else .error 130
/-- What a call that reads a number leaves. -/
def NPost (O : De → Ob) (m : Nat) (h : Hp) (d : Nat) (s : De) (R : Except Int (Int × De × List Int)) (v : Value) (h' : Hp) : Prop :=
  (∀ e, R = .error e → v = .tuple #[.int .i64 0, .slice none 0 0, .int .i64 e] ∧ h'.get d = some (O s)) ∧
  (∀ w y, R = .ok (w, y) → ∃ os cap, v = .tuple #[.int .i64 w, .slice os 32 cap, .int .i64 0] ∧ h'.get d = some (O y.1) ∧ Ow h' 1 os 32 cap (y.2.map (Value.int .i64)) ∧ Nw h os ∧ DGd y.1 m ∧ SOk y.2) ∧ Fm (fun x => x = d) h h'
theorem NPost.err {O : De → Ob} {m : Nat} {h h' : Hp} {d : Nat} {s : De} {R : Except Int (Int × De × List Int)} {e : Int} (hR : R = .error e) (hd : h'.get d = some (O s)) (fm : Fm (fun x => x = d) h h') : NPost O m h d s R (.tuple #[.int .i64 0, .slice none 0 0, .int .i64 e]) h' :=
  ⟨fun e' he => (by rw [hR] at he; cases he; exact ⟨rfl, hd⟩), fun w y he => (by rw [hR] at he; cases he), fm⟩
theorem goodB_iff {l : List Int} : goodB l = true ↔ SOk l := by
  unfold goodB
  constructor
  · intro h
    simp only [Bool.and_eq_true, decide_eq_true_eq] at h
    refine ⟨h.2, fun x hx => ?_⟩
    have h1 : ∀ x ∈ l, St x := by simpa using h.1
    exact h1 x hx
  · intro o
    simp only [Bool.and_eq_true, decide_eq_true_eq]
    refine ⟨?_, o.len⟩
    have := o.st
    simpa using this
theorem ups_err {bs : List Int} : ∀ {f j : Nat} {x : De × List Int} {e : Int}, ups bs f j x = .error e → e = 3 ∨ e = 4
  | 0, j, x, e, h => by rw [ups] at h; cases h; exact .inr rfl
  | f + 1, j, x, e, h => by
    rw [ups] at h
    split at h
    · split at h
      · cases h
      · exact ups_err h
    · cases h; exact .inl rfl
theorem downs_err {bs : List Int} {n : Nat} : ∀ {r c : Nat} {w : Int} {x : De × List Int} {e : Int}, downs bs n r c w x = .error e → e = 3
  | 0, c, w, x, e, h => by rw [downs] at h; cases h
  | r + 1, c, w, x, e, h => by
    rw [downs] at h
    split at h
    · split at h
      · exact downs_err h
      · cases h; rfl
    · split at h
      · exact downs_err h
      · cases h; rfl
theorem endD_err {bs : List Int} {n r c : Nat} {w : Int} {x : De × List Int} {e : Int} (h : endD (downs bs n r c w x) = .error e) : e = 3 ∨ e = 4 := by
  unfold endD at h
  cases hd : downs bs n r c w x with
  | error e' => rw [hd] at h; cases h; exact .inl (downs_err hd)
  | ok q =>
    rw [hd] at h
    simp only at h
    split at h
    · cases h; exact .inr rfl
    · cases h
theorem numD_err {bs : List Int} {x : De × List Int} {e : Int} (h : numD bs x = .error e) : e = 3 ∨ e = 4 := by
  unfold numD at h
  cases hu : ups bs 21 0 x with
  | error e' => rw [hu] at h; cases h; exact ups_err hu
  | ok q => rw [hu] at h; exact endD_err h
theorem c_Number1 {h : Hp} {p : Int} : ACalls Try.prog 66 [.int .i64 p] h fun v h' => v = .bool (!decide (St p)) ∧ h' = h := by
  refine arith_Decoder__Number_1_ok.snd hm rfl fun w => ?_
  rw [WF_eq, arith_Decoder__Number_1]
  simp +contextual only [↓AM, ↓AV, AP]
  refine c_isState.use ?_
  rintro _ h w1 ⟨rfl, rfl⟩
  simp +contextual only [↓AM, ↓AV, AP]
theorem c_DNumber {h : Hp} {d n c m lc : Nat} {a la : Option Addr} {bs l : List Int} {s : De} (hd : h.get d = some (pO a n c s)) (r : Rd h 1 a n (bs.map (Value.int .u8))) (hb : Bytes bs) (hn : n ≤ 140737488351232) (hn0 : 0 < n)
    (d6 : ¬ At a d) (g : DGd s bs.length) (hl : Rd h 1 la m (l.map (Value.int .i64))) (hm' : m ≤ 140737488351232) :
    ACalls Try.prog 41 [.pointer (some ⟨d, 0, none⟩), .slice la m lc] h (NPost (pO a n c) bs.length h d s (numR bs s l)) := by
  refine arith_Decoder__Number_ok.snd hm rfl fun w => ?_
  rw [WF_eq, arith_Decoder__Number]
  have ll := hl.ilen
  by_cases h32 : m = 32
  case neg =>
    have hne : EqI (m : Int) 32 = False := by simp [EqI]; omega
    have hg : ¬ goodB l = true := fun h => h32 (by rw [← ll]; exact (goodB_iff.1 h).len)
    simp +contextual only [↓AM, ↓AV, AP, isNilV, Option.isNone, hne]
    exact NPost.err (if_neg hg) hd Fm.refl
  subst h32
  have h3232 : EqI ((32 : Nat) : Int) 32 = True := by simp [EqI]
  simp +contextual only [↓AM, ↓AV, AP, isNilV, Option.isNone, h3232]
  refine (c_ContainsFunc hl hm' (by kernel_rfl) (p := fun p => !decide (St p)) (fun x _ => c_Number1)).use ?_
  rintro _ h w1 ⟨rfl, rfl⟩
  generalize hav : (l.any fun p => !decide (St p)) = av
  by_cases hg : goodB l = true
  case neg =>
    have hany : av = true := by
      unfold goodB at hg
      rw [hav] at hg
      simpa [ll] using hg
    subst hany
    simp +contextual only [↓AM, ↓AV, AP]
    exact NPost.err (if_neg hg) hd Fm.refl
  have o := goodB_iff.1 hg
  have hany : av = false := by
    rw [← hav]
    have := o.st
    simpa using this
  subst hany
  have hR : numR bs s l = numD bs (s, l) := if_pos hg
  rw [hR]
  have rN : ∀ k : Hp, k.get d = some (pO a n c s) → k.rdN d 0 4 = some [.slice a n c, .int .i64 s.pos, .int .u64 s.code, .int .u64 s.span] := fun k hk => rdN_mk hk (by simp [pO])
  have hdl := w1.lt hd
  have rN0 := rN h hd
  have e0 : (⟨[.slice a n c, .int .i64 s.pos, .int .u64 s.code, .int .u64 s.span], .own⟩ : Ob) = pO a n c s := rfl
  have hif : (if (32 : Nat) = 0 then (0 : Nat) else 0) = 0 := rfl
  have hmin : Nat.min 32 32 = 32 := rfl
  have fm1 : Fm No h (h.new (pO a n c s)) := Fm.new Fm.refl
  have w2 := w1.new (o := pO a n c s)
  have hd1 := fm1.keep w1 hd id
  have hd1' : (h.new (pO a n c s)).get h.size = some (pO a n c s) := gnew
  have r1 := r.keep w1 fm1 (fun _ _ => id)
  have hl1 := hl.keep w1 fm1 (fun _ _ => id)
  have hsz : h.size < (h.new (pO a n c s)).size := Nat.lt_succ_self _
  have hsrc := (hl1.keep w2 (Fm.new Fm.refl : Fm No (h.new (pO a n c s)) ((h.new (pO a n c s)).new ⟨List.replicate 32 (.int .i64 0), .own⟩)) (fun _ _ => id)).src (c := lc)
  have hspl : spl (List.replicate 32 (.int .i64 0)) 0 (l.map (Value.int .i64)) = l.map (Value.int .i64) := by
    unfold spl
    rw [List.drop_of_length_le (by simp; omega)]
    simp
  rw [← e0] at hsrc
  simp +contextual only [↓AM, ↓AV, AP, rN0, bnds, hif, hmin, hsrc, hspl]
  rw [e0]
  rw [show ((h.new ⟨[.slice none 0 0, .int .i64 0, .int .u64 0, .int .u64 0], .own⟩).put h.size (pO a n c s)).size = (h.new (pO a n c s)).size from rfl]
  generalize hsze : h.size = bw at hd1' hsz
  generalize h.new (pO a n c s) = h1 at fm1 w2 hd1 hd1' r1 hl1 hsz
  refine ⟨by simp, ?_⟩
  have fm2 : Fm No h1 (h1.new ⟨l.map (Value.int .i64), .own⟩) := Fm.new Fm.refl
  have hane : ¬ At a h1.size := fun hx => Nat.lt_irrefl _ (Rd.lt r1 w2 hn0 hx)
  refine (c_number (x := (s, l)) (fm2.keep w2 hd1 id) gnew (r1.keep w2 fm2 (fun _ _ => id)) hb hn (by have := w2.lt hd1; omega) d6 hane g o).use ?_
  rintro v k w3 ⟨he, hk, fm3⟩
  have fm4 : Fm (fun x => x = d) h k := ((fm1.trans fm2 fun _ _ => id).mono fun _ _ h => h.elim).trans fm3 fun x hx hF => hF.elim id fun e => by have := fm1.size; omega
  cases hN : numD bs (s, l) with
  | error e =>
    obtain ⟨rfl, s', hd3⟩ := he e hN
    have hbw : k.get bw = some (pO a n c s) := fm3.keep (w2.new) (fm2.keep w2 hd1' id) (fun hF => hF.elim (fun e => by omega) (fun e => by omega))
    have rN3 : k.rdN bw 0 4 = some [.slice a n c, .int .i64 s.pos, .int .u64 s.code, .int .u64 s.span] := rdN_mk hbw (by simp [pO])
    simp only [pO] at hd3
    have e30 : EqI e 0 = False := eq_false fun h => by have := numD_err hN; have h : e = 0 := h; omega
    simp +contextual only [↓AM, ↓AV, AP, e30, rN3, hd3]
    exact NPost.err rfl gput (fm4.put fun _ => rfl)
  | ok q =>
    obtain ⟨u, y⟩ := q
    obtain ⟨rfl, hd3, ha3, g3, o3⟩ := hk u y hN
    simp +contextual only [↓AM, ↓AV, AP, bnds, hif]
    refine ⟨fun e he => (by cases he), fun u' y' he => ?_, fm4⟩
    cases he
    refine ⟨_, _, rfl, hd3, ⟨by simp [o3.len], by omega, (fun e => by cases e), fun a e => by cases e; exact ⟨rfl, _, ha3, by simp, by simp [o3.len], List.take_of_length_le (by simp [o3.len]), .inl rfl⟩⟩, fun x hx => ?_, g3, o3⟩
    rw [At.some] at hx
    subst hx
    exact fm1.size
end Go.Proofs.Ytholkooikmbamaa.Ar
