/- Packing: contexts. Plain theorems over the abstract machine.
   Conditions: none. -/
import Derived.Test.YtholkooikmbamaaArU
import Derived.Test.YtholkooikmbamaaArI
import Derived.Test.YtholkooikmbamaaArD
import Derived.Test.YtholkooikmbamaaArE
namespace Go.Proofs.Ytholkooikmbamaa.Ar
open Go Go.RowKit Go.Proofs.Ytholkooikmbamaa.Am Go.Proofs.Ytholkooikmbamaa.Af
set_option linter.unusedVariables false
set_option linter.unusedSimpArgs false
set_option maxRecDepth 20000

def Cx (c : Int) : Prop := 0 ≤ c ∧ c ≤ 99
instance (c : Int) : Decidable (Cx c) := inferInstanceAs (Decidable (_ ∧ _))
theorem c_isContext {h : Hp} {p : Int} : ACalls Try.prog 59 [.int .i64 p] h fun v h' => v = .bool (decide (Cx p)) ∧ h' = h := by
  refine arith_isContext_ok.snd hm rfl fun w => ?_
  rw [WF_eq, arith_isContext]
  by_cases h0 : 0 ≤ p <;> by_cases h1 : p ≤ 99 <;> simp +contextual only [↓AM, ↓AV, AP, h0, h1] <;> simp [Cx, h0, h1]
theorem c_Unpack1 {h : Hp} {p : Int} : ACalls Try.prog 62 [.int .i64 p] h fun v h' => v = .bool (!decide (Cx p)) ∧ h' = h := by
  refine arith_Unpack_1_ok.snd hm rfl fun w => ?_
  rw [WF_eq, arith_Unpack_1]
  simp +contextual only [↓AM, ↓AV, AP]
  refine c_isContext.use ?_
  rintro _ h w1 ⟨rfl, rfl⟩
  simp +contextual only [↓AM, ↓AV, AP]
def ctxB (l : List Int) : Bool := l.all fun c => decide (Cx c)
theorem ctx_at {l : List Int} (h : ctxB l = true) {i : Nat} (hi : i < l.length) : 0 ≤ l.getD i 0 ∧ l.getD i 0 ≤ 99 := by
  have h : ∀ x ∈ l, Cx x := by simpa [ctxB] using h
  rw [List.getD_eq_getElem?_getD, List.getElem?_eq_getElem hi]
  exact h _ (List.getElem_mem hi)
theorem _root_.Go.Proofs.Ytholkooikmbamaa.Am.Rd.at {h : Hp} {oa : Option Addr} {n : Nat} {k : IntKind} {xs : List Int} (r : Rd h 1 oa n (xs.map (Value.int k))) {i : Nat} (hi : i < n) : ∃ b off sp, oa = some ⟨b, off, sp⟩ ∧ flagOk sp = true ∧ h.rd b (off + i) = some (.int k (xs.getD i 0)) := by
  obtain ⟨b, off, sp, e, f1, x, hx, r1⟩ := r.int hi
  exact ⟨b, off, sp, e, f1, by rw [r1, List.getD_eq_getElem?_getD, hx]; rfl⟩
theorem c_contexts {h : Hp} {a : Option Addr} {n c : Nat} {l : List Int} (r : Rd h 1 a n (l.map (Value.int .i64))) (hn : n ≤ 140737488351232) : ACalls Try.prog 60 [.slice a n c] h fun v h' => v = .bool (ctxB l) ∧ h' = h := by
  refine dioramaref13_contexts_ok.snd hm rfl fun w => ?_
  rw [WF_eq, dioramaref13_contexts]
  have hl := r.ilen
  simp +contextual only [↓AM, ↓AV, AP]
  refine WL.mk (fun m t h' => h' = h ∧ ∃ i : Nat, i ≤ n ∧ m = n - i ∧ ctxB l = ctxB (l.drop i) ∧ t = [(0, some (.slice a n c)), (3, some (.int .i64 i))]) ⟨_, rfl, 0, Nat.zero_le _, rfl, rfl, rfl⟩ ?_
  rintro m t h ⟨rfl, i, hi, rfl, he, rfl⟩
  by_cases hlt : i < n
  · obtain ⟨b, off, sp, rfl, f1, r1⟩ := r.at hlt
    have hd : l.drop i = l.getD i 0 :: l.drop (i + 1) := by
      rw [List.getD_eq_getElem?_getD, List.getElem?_eq_getElem (by omega)]
      exact List.drop_eq_getElem_cons (by omega)
    rw [hd] at he
    generalize l.getD i 0 = x at he r1
    by_cases h0 : x < 0
    · have hx : ¬ Cx x := fun h => by have := h.1; omega
      have hf : ctxB l = false := by rw [he]; simp [ctxB, hx]
      simp +contextual only [↓AM, ↓AV, AP, hlt, f1, r1, h0, hf]
    · by_cases h1 : 99 < x
      · have hx : ¬ Cx x := fun h => by have := h.2; omega
        have hf : ctxB l = false := by rw [he]; simp [ctxB, hx]
        simp +contextual only [↓AM, ↓AV, AP, hlt, f1, r1, h0, h1, hf]
      · have hx : Cx x := ⟨by omega, by omega⟩
        simp +contextual only [↓AM, ↓AV, AP, hlt, f1, r1, h0, h1]
        refine ⟨_, by omega, i + 1, hlt, rfl, by rw [he]; simp [ctxB, hx], ?_⟩
        rw [i64 (by omega)]; rfl
  · have hf : ctxB l = true := by rw [he, List.drop_of_length_le (by omega)]; rfl
    simp +contextual only [↓AM, ↓AV, AP, hlt, hf]
/-- States of a hundred contexts. -/
structure S100 (l : List Int) : Prop where
  len : l.length = 100
  st : ∀ x ∈ l, St x
theorem S100.at {l : List Int} (h : S100 l) {k : Nat} (hk : k < 100) : St (l.getD k 0) := by
  rw [List.getD_eq_getElem?_getD, List.getElem?_eq_getElem (by rw [h.len]; exact hk)]
  exact h.st _ (List.getElem_mem _)
theorem S100.set {l : List Int} (h : S100 l) {k : Nat} {x : Int} (hx : St x) : S100 (l.set k x) :=
  ⟨by rw [List.length_set]; exact h.len, fun y hy => (List.mem_or_eq_of_mem_set hy).elim (h.st y) fun e => e ▸ hx⟩
theorem s100_0 : S100 (List.replicate 100 2048) := ⟨by simp, fun x hx => by rw [List.eq_of_mem_replicate hx]; exact st2048⟩
/-- Behind i bits. -/
def pkS (bits cs : List Int) : Nat → En × List Int
  | 0 => (new, List.replicate 100 2048)
  | i + 1 => bitS (pkS bits cs i) (cs.getD i 0).toNat (bits.getD i 0)
theorem pkS_ok {bits cs : List Int} (hc : ctxB cs = true) : ∀ i, i ≤ cs.length → Gd (pkS bits cs i).1 ∧ S100 (pkS bits cs i).2 ∧ (pkS bits cs i).1.n = i ∧ Wd (pkS bits cs i).1
  | 0, _ => ⟨new_gd, s100_0, rfl, new_wd⟩
  | i + 1, hi => by
    obtain ⟨g, s, n, wd⟩ := pkS_ok hc i (by omega)
    obtain ⟨c1, c2⟩ := ctx_at hc (i := i) (by omega)
    have hs := s.at (k := (cs.getD i 0).toNat) (by omega)
    exact ⟨put_gd g hs, s.set (step_st hs), by show (pkS bits cs i).1.n + 1 = _; rw [n]; rfl, put_wd g hs wd⟩
def bitsB (l : List Int) : Bool := l.all fun b => decide (b = 0 ∨ b = 1)
theorem bits_at {l : List Int} (h : bitsB l = true) {i : Nat} (hi : i < l.length) : l.getD i 0 = 0 ∨ l.getD i 0 = 1 := by
  have h : ∀ x ∈ l, x = 0 ∨ x = 1 := by simpa [bitsB] using h
  rw [List.getD_eq_getElem?_getD, List.getElem?_eq_getElem hi]
  exact h _ (List.getElem_mem hi)
def packB (bits cs : List Int) : Bool := decide (bits.length = cs.length) && (bitsB bits && ctxB cs)
/-- What packing leaves. -/
def KPost (h : Hp) (bits cs : List Int) (v : Value) (h' : Hp) : Prop :=
  (packB bits cs = true → ∃ os n cap, v = .tuple #[.slice os n cap, .int .i64 0] ∧ Ow h' 1 os n cap ((closed (pkS bits cs bits.length).1).map (Value.int .u8)) ∧ Nw h os) ∧ (packB bits cs = false → v = .tuple #[.slice none 0 0, .int .i64 1]) ∧ Fm No h h'
/-- The encoder and its states. -/
structure KAt (k : IntKind) (h0 h : Hp) (b : Nat) (oa os : Option Addr) (cap : Nat) (s : En × List Int) : Prop where
  wf : Wf h
  fm : Fm No h0 h
  enc : EncAt k h b oa s.1
  st : Ow h 1 os 100 cap (s.2.map (Value.int .i64))
  d : ∀ x, At os x → ¬ Ft b oa x
  ne : ∀ x, Ft b oa x → h0.size ≤ x
  ns : Nw h0 os
theorem KAt.put {k : IntKind} {h0 h h1 : Hp} {b cap : Nat} {oa oa1 os : Option Addr} {s : En × List Int} {e : En} (x : KAt k h0 h b oa os cap s) (w : Wf h1) (he : EncAt k h1 b oa1 e) (fm : Fm (Ft b oa) h h1) (nx : ∀ y, At oa1 y → At oa y ∨ h.size ≤ y) : KAt k h0 h1 b oa1 os cap (e, s.2) := by
  have hf : ∀ y, Ft b oa1 y → Ft b oa y ∨ h.size ≤ y := fun y hy => hy.elim (fun h => .inl (.inl h)) (fun h => (nx y h).imp .inr id)
  have hs := x.fm.size
  have hl := x.st.lt x.wf
  refine ⟨w, x.fm.trans fm fun y hy h => by have := x.ne y h; omega, he, x.st.keep x.wf fm x.d, fun y hy hF => ?_, fun y hy => ?_, x.ns⟩
  · rcases hf y hF with h | h
    · exact x.d y hy h
    · have := hl y hy; omega
  · rcases hf y hy with h | h
    · exact x.ne y h
    · omega
theorem KAt.cell {kk : IntKind} {h0 h : Hp} {b cap k : Nat} {oa os : Option Addr} {s : En × List Int} (x : KAt kk h0 h b oa os cap s) (o : S100 s.2) (hk : k < 100) :
    ∃ bb sp ob, os = some ⟨bb, 0, sp⟩ ∧ flagOk sp = true ∧ h.get bb = some ob ∧ (ob.md = .ro) = False ∧ leIs (k + 1) ob.cs = true ∧ h.rd bb k = some (.int .i64 (s.2.getD k 0)) ∧
      ∀ u, KAt kk h0 (h.put bb ⟨spl ob.cs k [.int .i64 u], ob.md⟩) b oa os cap (s.1, s.2.set k u) := by
  obtain ⟨bb, sp, ob, v, rfl, f1, hg, hmd, hle, hv, r1, hput⟩ := x.st.cell x.wf hk
  have hl := o.len
  have : v = .int .i64 (s.2.getD k 0) := by
    rw [List.getElem?_map, List.getElem?_eq_getElem (by omega)] at hv
    rw [List.getD_eq_getElem?_getD, List.getElem?_eq_getElem (by omega)]
    simpa using hv.symm
  subst this
  refine ⟨bb, sp, ob, rfl, f1, hg, hmd, hle, r1, fun u => ?_⟩
  obtain ⟨_, p2, p3, p4⟩ := hput (.int .i64 u)
  exact ⟨p3, x.fm.trans p4 fun y hy h => by have := x.ns y h; omega, x.enc.keep x.wf p4 (fun y hy hA => x.d y hA hy), by rw [List.map_set]; exact p2, x.d, x.ne, x.ns⟩
end Go.Proofs.Ytholkooikmbamaa.Ar
