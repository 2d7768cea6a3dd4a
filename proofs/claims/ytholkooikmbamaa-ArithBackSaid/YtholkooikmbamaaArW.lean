/- The memory of a history: the pool, the calls done, and the states behind them. Plain theorems over the abstract machine.
   Conditions: none. -/
import Derived.Test.YtholkooikmbamaaArV
namespace Go.Proofs.Ytholkooikmbamaa.Ar
open Go Go.RowKit Go.Proofs.Ytholkooikmbamaa.Am Go.Proofs.Ytholkooikmbamaa.Af
set_option linter.unusedVariables false
set_option linter.unusedSimpArgs false
set_option maxRecDepth 20000

/-- Slices of numbers, none of them in G. -/
def Sls (h : Hp) (G : Nat → Prop) (vs : List Value) (ns : List (List Int)) : Prop :=
  vs.length = ns.length ∧ ∀ (k : Nat) (v : Value) (l : List Int), vs[k]? = some v → ns[k]? = some l → ∃ a c, v = .slice a l.length c ∧ Rd h 1 a l.length (l.map (Value.int .i64)) ∧ (∀ x, At a x → x < h.size ∧ ¬ G x) ∧ l.length ≤ 32
theorem Sls.keep {h h' : Hp} {G G' F : Nat → Prop} {vs : List Value} {ns : List (List Int)} (w : Wf h) (N : Sls h G vs ns) (fm : Fm F h h') (hF : ∀ x, x < h.size → F x → G x) (hG : ∀ x, G' x → G x ∨ h.size ≤ x) : Sls h' G' vs ns := by
  refine ⟨N.1, fun k v l hv hl => ?_⟩
  obtain ⟨a, c, e, r, d, hl32⟩ := N.2 k v l hv hl
  refine ⟨a, c, e, r.keep w (fm.mono hF) fun x hx hF => (d x hx).2 hF, fun x hx => ⟨Nat.lt_of_lt_of_le (d x hx).1 fm.size, fun hq => ?_⟩, hl32⟩
  rcases hG x hq with h | h
  · exact (d x hx).2 h
  · exact absurd (d x hx).1 (Nat.not_lt_of_le h)
theorem Sls.snoc {h : Hp} {G : Nat → Prop} {vs : List Value} {ns : List (List Int)} (N : Sls h G vs ns) {a : Option Addr} {c : Nat} {l : List Int} (r : Rd h 1 a l.length (l.map (Value.int .i64))) (d : ∀ x, At a x → x < h.size ∧ ¬ G x) (h32 : l.length ≤ 32) : Sls h G (vs ++ [.slice a l.length c]) (ns ++ [l]) := by
  have hl := N.1
  refine ⟨by simp [hl], fun k v l' hv hl' => ?_⟩
  rcases Nat.lt_trichotomy k vs.length with h1 | h1 | h1
  · rw [List.getElem?_append_left h1] at hv
    rw [List.getElem?_append_left (by omega)] at hl'
    exact N.2 k v l' hv hl'
  · rw [List.getElem?_append_right (by omega), h1, Nat.sub_self] at hv
    rw [List.getElem?_append_right (by omega), h1, hl, Nat.sub_self] at hl'
    cases hv
    cases hl'
    exact ⟨a, c, rfl, r, d, h32⟩
  · rw [List.getElem?_eq_none (by simp; omega)] at hv
    cases hv
/-- The cells of calls. -/
def opV (x : Op4) (sa : Option Addr) (sc : Nat) : List Value := [.int .i64 x.1, .int .i64 x.2.1, .int .i64 x.2.2.1, .slice sa x.2.2.2.length sc]
def OpC (h0 : Hp) (x : Op4) (cs : List Value) : Prop := ∃ sa sc, cs = opV x sa sc ∧ Rd h0 1 sa x.2.2.2.length (x.2.2.2.map (Value.int .i64)) ∧ 8 * x.2.2.2.length ≤ 140737488351232 ∧ -9223372036854775808 ≤ x.2.2.1 ∧ x.2.2.1 ≤ 9223372036854775807
def Dcs (h0 : Hp) (ops : List Op4) (cells : List Value) : Prop := cells.length = ops.length * 4 ∧ ∀ (j : Nat) (x : Op4), ops[j]? = some x → OpC h0 x ((cells.drop (j * 4)).take 4)
theorem Dcs.snoc {h0 : Hp} {ops : List Op4} {cells : List Value} (D : Dcs h0 ops cells) {x : Op4} {cs : List Value} (hx : OpC h0 x cs) : Dcs h0 (ops ++ [x]) (cells ++ cs) := by
  have hl := D.1
  have hc : cs.length = 4 := by
    obtain ⟨sa, sc, rfl, _⟩ := hx
    rfl
  refine ⟨by simp [hl, hc]; omega, fun j y hy => ?_⟩
  rcases Nat.lt_trichotomy j ops.length with h1 | h1 | h1
  · rw [List.getElem?_append_left h1] at hy
    rw [List.drop_append_of_le_length (by omega), List.take_append_of_le_length (by simp; omega)]
    exact D.2 j y hy
  · rw [List.getElem?_append_right (by omega), h1, Nat.sub_self] at hy
    cases hy
    rw [h1, ← hl, List.drop_left' rfl, List.take_of_length_le (by omega)]
    exact hx
  · rw [List.getElem?_eq_none (by simp; omega)] at hy
    cases hy
theorem Dcs.ops {h0 h : Hp} {ops : List Op4} {cells : List Value} {od : Option Addr} (D : Dcs h0 ops cells) (r : Rd h 4 od ops.length cells) (e : Ex h0 h) : OpsAt h od ops := by
  intro j x hx
  have hj := (List.getElem?_eq_some_iff.1 hx).1
  obtain ⟨b, off, sp, rfl, f1, r1⟩ := Rd.sub r hj
  obtain ⟨sa, sc, h1, h2, h3⟩ := D.2 j x hx
  exact ⟨b, off, sp, sa, sc, rfl, f1, by rw [r1, h1]; rfl, h2.ex e, h3⟩
/-- The states behind each call. -/
def BehOk (ops : List Op4) (behs : List (List Int)) : Prop := behs.length = ops.length ∧ ∀ (j : Nat) (x : Op4), ops[j]? = some x → behs[j]? = some ((run (ops.take j)).L x)
theorem BehOk.snoc {ops : List Op4} {behs : List (List Int)} (b : BehOk ops behs) (o : Op4) : BehOk (ops ++ [o]) (behs ++ [(run ops).L o]) := by
  have hl := b.1
  refine ⟨by simp [hl], fun j x hx => ?_⟩
  rcases Nat.lt_trichotomy j ops.length with h1 | h1 | h1
  · rw [List.getElem?_append_left h1] at hx
    rw [List.getElem?_append_left (by omega), List.take_append_of_le_length (by omega)]
    exact b.2 j x hx
  · rw [List.getElem?_append_right (by omega), h1, Nat.sub_self] at hx
    cases hx
    rw [List.getElem?_append_right (by omega), h1, hl, Nat.sub_self, List.take_append_of_le_length (by omega), List.take_of_length_le (by omega)]
    rfl
  · rw [List.getElem?_eq_none (by simp; omega)] at hx
    cases hx
/-- While calls are written: A is the encoder's memory. -/
structure Bk (h0 h : Hp) (p : Nat) (ob on od oh : Option Addr) (cd ch : Nat) (A : Nat → Prop) (bs : List Int) (ns : List (List Int)) (ops : List Op4) (behs : List (List Int)) : Prop where
  wf : Wf h
  fm : Fm No h0 h
  hp : PoolAt h p ob on bs ns (fun y => A y ∨ At od y ∨ At oh y) 4
  dn : ∃ cells, Ow h 4 od ops.length cd cells ∧ Dcs h0 ops cells
  bh : ∃ vs, Ow h 1 oh behs.length ch vs ∧ Sls h (fun y => A y ∨ At od y ∨ At oh y ∨ PlF ob on y) vs behs
  d1 : ∀ y, At od y → ¬ A y
  d2 : ∀ y, At oh y → ¬ A y
  d3 : ∀ y, At od y → ¬ At oh y
  lA : ∀ y, A y → y < h.size
  nA : ∀ y, A y → h0.size ≤ y
  nd : ∀ y, At od y → h0.size ≤ y
  nh : ∀ y, At oh y → h0.size ≤ y
  np : ∀ y, PlF ob on y → h0.size ≤ y
theorem Bk.new {h0 h h' : Hp} {p cd ch : Nat} {ob on od oh : Option Addr} {A : Nat → Prop} {bs : List Int} {ns : List (List Int)} {ops : List Op4} {behs : List (List Int)} (T : Bk h0 h p ob on od oh cd ch A bs ns ops behs) (w : Wf h') (fm : Fm No h h') : Bk h0 h' p ob on od oh cd ch A bs ns ops behs := by
  obtain ⟨cells, q1, q2⟩ := T.dn
  obtain ⟨vs, q3, q4⟩ := T.bh
  exact ⟨w, T.fm.trans fm fun _ _ => id, T.hp.keep T.wf fm (fun _ _ h => h.elim) (fun _ => .inl), ⟨cells, q1.keep T.wf fm (fun _ _ => id), q2⟩, ⟨vs, q3.keep T.wf fm (fun _ _ => id), q4.keep T.wf fm (fun _ _ h => h.elim) (fun _ => .inl)⟩, T.d1, T.d2, T.d3, fun y hy => Nat.lt_of_lt_of_le (T.lA y hy) fm.size, T.nA, T.nd, T.nh, T.np⟩
theorem Bk.stepA {h0 h h' : Hp} {p cd ch : Nat} {ob on od oh : Option Addr} {A A' : Nat → Prop} {bs : List Int} {ns : List (List Int)} {ops : List Op4} {behs : List (List Int)} (T : Bk h0 h p ob on od oh cd ch A bs ns ops behs) (w : Wf h') (fm : Fm A h h') (hA : ∀ y, A' y → (A y ∨ h.size ≤ y) ∧ y < h'.size) : Bk h0 h' p ob on od oh cd ch A' bs ns ops behs := by
  obtain ⟨cells, q1, q2⟩ := T.dn
  obtain ⟨vs, q3, q4⟩ := T.bh
  have hs := T.fm.size
  have ld := q1.lt T.wf
  have lh := q3.lt T.wf
  refine ⟨w, T.fm.trans fm fun y hy h => by have := T.nA y h; omega, T.hp.keep T.wf fm (fun y _ h => .inl h) (fun y hy => ?_), ⟨cells, q1.keep T.wf fm T.d1, q2⟩, ⟨vs, q3.keep T.wf fm T.d2, q4.keep T.wf fm (fun y _ h => .inl h) (fun y hy => ?_)⟩, fun y hy h => ?_, fun y hy h => ?_, T.d3, fun y hy => (hA y hy).2, fun y hy => ?_, T.nd, T.nh, T.np⟩
  · rcases hy with h | h
    · exact (hA y h).1.imp .inl id
    · exact .inl (.inr h)
  · rcases hy with h | h
    · exact (hA y h).1.imp .inl id
    · exact .inl (.inr h)
  · rcases (hA y h).1 with h1 | h1
    · exact T.d1 y hy h1
    · have := ld y hy; omega
  · rcases (hA y h).1 with h1 | h1
    · exact T.d2 y hy h1
    · have := lh y hy; omega
  · rcases (hA y hy).1 with h1 | h1
    · exact T.nA y h1
    · omega
theorem Bk.stepP {h0 h h' : Hp} {p cd ch : Nat} {ob on od oh : Option Addr} {A : Nat → Prop} {bs bs' : List Int} {ns ns' : List (List Int)} {ops : List Op4} {behs : List (List Int)} (T : Bk h0 h p ob on od oh cd ch A bs ns ops behs) (w : Wf h') (P : PoolAt h' p ob on bs' ns' (fun y => A y ∨ At od y ∨ At oh y) 4) (fm : Fm (PlF ob on) h h') : Bk h0 h' p ob on od oh cd ch A bs' ns' ops behs := by
  obtain ⟨cells, q1, q2⟩ := T.dn
  obtain ⟨vs, q3, q4⟩ := T.bh
  have hs := T.fm.size
  have hd : ∀ y, PlF ob on y → ¬ (A y ∨ At od y ∨ At oh y) := fun y hy => hy.elim (T.hp.bF y) (T.hp.nF y)
  exact ⟨w, T.fm.trans fm fun y hy h => by have := T.np y h; omega, P, ⟨cells, q1.keep T.wf fm (fun y hy h => hd y h (.inr (.inl hy))), q2⟩, ⟨vs, q3.keep T.wf fm (fun y hy h => hd y h (.inr (.inr hy))), q4.keep T.wf fm (fun y _ h => .inr (.inr (.inr h))) (fun _ => .inl)⟩, T.d1, T.d2, T.d3, fun y hy => Nat.lt_of_lt_of_le (T.lA y hy) fm.size, T.nA, T.nd, T.nh, T.np⟩
theorem Bk.stepD {h0 h h' : Hp} {p cd ch cd' : Nat} {ob on od oh od' : Option Addr} {A : Nat → Prop} {bs : List Int} {ns : List (List Int)} {ops : List Op4} {behs : List (List Int)} {x : Op4} {cs cells : List Value} (T : Bk h0 h p ob on od oh cd ch A bs ns ops behs) (D : Dcs h0 ops cells) (hx : OpC h0 x cs) (w : Wf h') (o : Ow h' 4 od' (ops.length + 1) cd' (cells ++ cs)) (fm : Fm (At od) h h') (nx : ∀ y, At od' y → At od y ∨ h.size ≤ y) :
    Bk h0 h' p ob on od' oh cd' ch A bs ns (ops ++ [x]) behs := by
  obtain ⟨vs, q3, q4⟩ := T.bh
  have hs := T.fm.size
  have lh := q3.lt T.wf
  refine ⟨w, T.fm.trans fm fun y hy h => by have := T.nd y h; omega, T.hp.keep T.wf fm (fun y _ h => .inr (.inl h)) (fun y hy => ?_), ⟨_, by rw [List.length_append]; exact o, D.snoc hx⟩, ⟨vs, q3.keep T.wf fm (fun y hy h => T.d3 y h hy), q4.keep T.wf fm (fun y _ h => .inr (.inl h)) (fun y hy => ?_)⟩, fun y hy h => ?_, T.d2, fun y hy h => ?_, fun y hy => Nat.lt_of_lt_of_le (T.lA y hy) fm.size, T.nA, fun y hy => ?_, T.nh, T.np⟩
  · rcases hy with h | h | h
    · exact .inl (.inl h)
    · exact (nx y h).imp (fun h => .inr (.inl h)) id
    · exact .inl (.inr (.inr h))
  · rcases hy with h | h | h
    · exact .inl (.inl h)
    · exact (nx y h).imp (fun h => .inr (.inl h)) id
    · exact .inl (.inr (.inr h))
  · rcases nx y hy with h1 | h1
    · exact T.d1 y h1 h
    · have := T.lA y h; omega
  · rcases nx y hy with h1 | h1
    · exact T.d3 y h1 h
    · have := lh y h; omega
  · rcases nx y hy with h1 | h1
    · exact T.nd y h1
    · omega
theorem Bk.stepH {h0 h h' : Hp} {p cd ch ch' c : Nat} {ob on od oh oh' a : Option Addr} {A : Nat → Prop} {bs : List Int} {ns : List (List Int)} {ops : List Op4} {behs : List (List Int)} {l : List Int} {vs : List Value} (T : Bk h0 h p ob on od oh cd ch A bs ns ops behs)
    (S : Sls h (fun y => A y ∨ At od y ∨ At oh y ∨ PlF ob on y) vs behs) (r : Rd h 1 a l.length (l.map (Value.int .i64))) (hr : ∀ y, At a y → y < h.size ∧ ¬ (A y ∨ At od y ∨ At oh y ∨ PlF ob on y)) (h32 : l.length ≤ 32)
    (w : Wf h') (o : Ow h' 1 oh' (behs.length + 1) ch' (vs ++ [.slice a l.length c])) (fm : Fm (At oh) h h') (nx : ∀ y, At oh' y → At oh y ∨ h.size ≤ y) :
    Bk h0 h' p ob on od oh' cd ch' A bs ns ops (behs ++ [l]) := by
  obtain ⟨cells, q1, q2⟩ := T.dn
  have hs := T.fm.size
  have ld := q1.lt T.wf
  have hG : ∀ y, (A y ∨ At od y ∨ At oh' y ∨ PlF ob on y) → (A y ∨ At od y ∨ At oh y ∨ PlF ob on y) ∨ h.size ≤ y := by
    rintro y (h | h | h | h)
    · exact .inl (.inl h)
    · exact .inl (.inr (.inl h))
    · exact (nx y h).imp (fun h => .inr (.inr (.inl h))) id
    · exact .inl (.inr (.inr (.inr h)))
  refine ⟨w, T.fm.trans fm fun y hy h => by have := T.nh y h; omega, T.hp.keep T.wf fm (fun y _ h => .inr (.inr h)) (fun y hy => ?_), ⟨cells, q1.keep T.wf fm (fun y hy h => T.d3 y hy h), q2⟩, ⟨_, by rw [List.length_append]; exact o, (S.keep T.wf fm (fun y _ h => .inr (.inr (.inl h))) hG).snoc (r.keep T.wf fm (fun y hy h => (hr y hy).2 (.inr (.inr (.inl h))))) (fun y hy => ⟨Nat.lt_of_lt_of_le (hr y hy).1 fm.size, fun hq => ?_⟩) h32⟩, T.d1, fun y hy h => ?_, fun y hy h => ?_, fun y hy => Nat.lt_of_lt_of_le (T.lA y hy) fm.size, T.nA, T.nd, fun y hy => ?_, T.np⟩
  · rcases hy with h | h | h
    · exact .inl (.inl h)
    · exact .inl (.inr (.inl h))
    · exact (nx y h).imp (fun h => .inr (.inr h)) id
  · rcases hG y hq with h | h
    · exact (hr y hy).2 h
    · have := (hr y hy).1; omega
  · rcases nx y hy with h1 | h1
    · exact T.d2 y h1 h
    · have := T.lA y h; omega
  · rcases nx y h with h1 | h1
    · exact T.d3 y hy h1
    · have := ld y hy; omega
  · rcases nx y hy with h1 | h1
    · exact T.nh y h1
    · omega
end Go.Proofs.Ytholkooikmbamaa.Ar
