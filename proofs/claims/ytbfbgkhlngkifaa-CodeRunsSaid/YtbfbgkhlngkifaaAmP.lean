/- A region whose order is drawn, over the abstract heap. Plain theorems.
   Conditions: none. -/
import Derived.Test.YtbfbgkhlngkifaaAmO
namespace Go.Proofs.Ytbfbgkhlngkifaa.Am
open Go Go.RowKit
set_option linter.unusedVariables false
set_option linter.unusedSimpArgs false

/-- A step of a drawn region: its number, its kind (0 computes, 1 loads, 2 makes a block, 3 makes a block whenever, 4 any other), what it waits for. -/
structure DO where
  i : Nat
  kind : Nat
  b : Nat
  o : AO
/-- A load that was taken ahead. -/
structure Pd where
  i : Nat
  ad : Value
  z : Option Nat
  v : Value
def ldOk (h : Hp) (p : Pd) : Prop := match p.ad, p.z with
  | .pointer (some ⟨b, off, none⟩), none => h.rd b off = some p.v
  | .pointer (some ⟨b, off, none⟩), some z => ∃ cs, h.rdN b off z = some cs ∧ p.v = .agg cs.toArray
  | _, _ => False
def WChk : List Pd → Hp → Prop → Prop
  | [], _, K => K
  | p :: r, h, K => ldOk h p ∧ WChk r h K
def flt (b : Nat) (ps : List Pd) : List Pd := ps.filter fun p => !b.testBit p.i
def pdOf (d : DO) (t t' : Tm) : List Pd := match d.o.k, d.o.d with
  | .ld1 a, some dd => match ev t a, tget t' dd with
    | some ad, some v => [⟨d.i, ad, none, v⟩]
    | _, _ => []
  | .ldN z a, some dd => match ev t a, tget t' dd with
    | some ad, some v => [⟨d.i, ad, some z, v⟩]
    | _, _ => []
  | _, _ => []
/-- What a block that is made whenever is filled with must be there. -/
def prOk (o : AO) (t : Tm) : Prop := match o.k with
  | .bslice z m qs => match fillA t z qs with
    | some _ => True
    | none => False
  | _ => True
def PR : List DO → Tm → Prop
  | [], _ => True
  | d :: r, t => match d.kind with
    | 3 => prOk d.o t ∧ PR r t
    | _ => PR r t
def Wd (P : Program) : List DO → Tm → Hp → List Pd → (Tm → Hp → Prop) → Prop
  | [], t, h, _, K => K t h
  | d :: r, t, h, ps, K => match d.kind with
    | 0 => d.o.go P t h fun t' h' => Wd P r t' h' ps K
    | 1 => d.o.go P t h fun t' h' => Wd P r t' h' (pdOf d t t' ++ ps) K
    | 2 => d.o.go P t h fun t' h' => Wd P r t' h' (flt d.b ps) K
    | 3 => d.o.go P t h fun t' h' => Wd P r t' h' ps K
    | 6 => PR r t ∧ d.o.go P t h fun t' h' => WChk (flt d.b ps) h' (Wd P r t' h' (flt d.b ps) K)
    | _ => d.o.go P t h fun t' h' => WChk (flt d.b ps) h' (Wd P r t' h' (flt d.b ps) K)
def forget : List DO → Tm → Tm
  | [], t => t
  | d :: r, t => match d.kind with
    | 3 => forget r (tput t d.o.d none)
    | _ => forget r t

def AK.isLd : AK → Bool
  | .ld1 _ | .ldN .. => true
  | _ => false
def AK.isAlloc : AK → Bool
  | .box _ | .alloc _ | .bslice .. | .mks .. | .sob _ => true
  | _ => false
def subM (a b : Nat) : Bool := Nat.beq (a &&& b) a
def dmask (o : Oper) : Nat := orAll ((depsOf o).map fun d => 2 ^ d)
def apartB (ops : Array Oper) (i j : Nat) : Bool := match ops[i]?, ops[j]? with
  | some a, some b => a.apart ops b
  | _, _ => false
def isBs (ops : Array Oper) (j : Nat) : Bool := match ops[j]? with
  | some o => match o.op with
    | .buildSlice _ _ _ => true
    | _ => false
  | none => false
def chkD (ops : Array Oper) (dms : List Nat) (N F : Nat) : List DO → Nat → Bool
  | [], m => (List.range N).all fun i => m.testBit i
  | d :: r, m => Nat.blt d.i N && !m.testBit d.i && subM (dms.getD d.i 0) m && (match d.kind with
      | 0 | 1 => !F.testBit d.i && (List.range N).all fun j => m.testBit j || Nat.beq j d.i || (dms.getD j 0).testBit d.i || apartB ops d.i j
      | 3 => (F.testBit d.i && (List.range N).all fun j => m.testBit j || F.testBit j || !subM (dms.getD j 0) (m ||| F) || (dms.getD j 0).testBit d.i) && (List.range N).all fun j => !F.testBit j || m.testBit j || Nat.beq j d.i || !isBs ops j
      | 6 => !F.testBit d.i && (List.range N).all fun j => m.testBit j || F.testBit j || !subM (dms.getD j 0) (m ||| F) || Nat.beq j d.i
      | _ => (!F.testBit d.i && (List.range N).all fun j => m.testBit j || F.testBit j || !subM (dms.getD j 0) (m ||| F) || Nat.beq j d.i) && (List.range N).all fun j => !F.testBit j || m.testBit j || !isBs ops j) &&
    chkD ops dms N F r (m ||| 2 ^ d.i)
def kindOk (kind : Nat) (o : AO) : Bool := match kind with
  | 0 => o.k.isPure
  | 1 => o.k.isLd && o.d.isSome
  | 2 => o.k.isAlloc
  | 3 => match o.k, o.g, o.d with
    | .alloc _, none, some _ => true
    | .bslice (_ :: _) _ _, none, some _ => true
    | _, _, _ => false
  | _ => true
def usesT (o : Oper) (a : Nat) : Bool := o.op.operands.toList.any fun
  | .tmp x => Nat.beq x a
  | _ => false
/-- A block that is made whenever: nobody else writes its place, it waits for nothing. -/
def floatOk (ops : Array Oper) (f : Nat) : Bool := match ops[f]? with
  | some o => ((Nat.beq (depsOf o).length 0 || isBs ops f) && (List.range ops.size).all fun j => Nat.beq j f || match ops[j]? with
    | some oj => match oj.dst, o.dst with
      | some a, some b => !(Nat.beq a b)
      | _, _ => true
    | none => true) && (List.range ops.size).all fun j => match ops[j]? with
    | some oj => match oj.dst with
      | some a => !(usesT o a) || (dmask o).testBit j
      | none => true
    | none => true
  | none => false
def floatsM : List DO → Nat
  | [] => 0
  | d :: r => match d.kind with
    | 3 => 2 ^ d.i ||| floatsM r
    | _ => floatsM r
def cD1 (P : Program) (n : Nat) (ops : Array Oper) (af : List Nat) : List DO → Option (List DO)
  | [] => some []
  | d :: r => match ops[d.i]? with
    | some o => match cO P n ops o with
      | some ao => match kindOk d.kind ao, cD1 P n ops af r with
        | true, some l => some (⟨d.i, d.kind, af.getD d.i 0, ao⟩ :: l)
        | _, _ => none
      | none => none
    | none => none
def cDraw (P : Program) (n : Nat) (ops : Array Oper) (sk : List DO) : Option (List DO) := match cD1 P n ops (afOf ops) sk with
  | some l => match Region.noSelect ops && l.all (fun d => !(Nat.beq d.kind 3) || floatOk ops d.i) && chkD ops (ops.toList.map dmask) ops.size (floatsM l) l 0 with
    | true => some l
    | false => none
  | none => none

section
variable {P : Program} {n base : Nat} {w0 : World} {ops : Array Oper}

theorem subM_bit {a b i : Nat} (h : subM a b = true) (hi : a.testBit i = true) : b.testBit i = true := by
  have e := Nat.eq_of_beq_eq_true h
  have := congrArg (fun x => x.testBit i) e
  simp only [Nat.testBit_and, hi, Bool.true_and] at this
  exact this
theorem subM_of {a b : Nat} (h : ∀ i, a.testBit i = true → b.testBit i = true) : subM a b = true := by
  have : a &&& b = a := by
    apply Nat.eq_of_testBit_eq
    intro i
    rw [Nat.testBit_and]
    cases ha : a.testBit i
    · rfl
    · rw [h i ha]; rfl
  unfold subM
  rw [this]
  exact Nat.beq_refl a
theorem dmask_bit {o : Oper} {d : Nat} : (dmask o).testBit d = true ↔ d ∈ depsOf o := by
  constructor
  · intro h
    obtain ⟨x, hx, hb⟩ := orAll_bit h
    obtain ⟨y, hy, rfl⟩ := List.mem_map.1 hx
    rw [Nat.testBit_two_pow] at hb
    have : y = d := by simpa using hb
    exact this ▸ hy
  · intro h
    have : ∀ l : List Nat, d ∈ l → (orAll (l.map fun d => 2 ^ d)).testBit d = true := by
      intro l
      induction l with
      | nil => intro h; cases h
      | cons x l ih =>
        intro h
        simp only [List.map_cons, orAll, Nat.testBit_or, Bool.or_eq_true]
        rcases List.mem_cons.1 h with rfl | h
        · left; simp [Nat.testBit_two_pow]
        · exact .inr (ih h)
    exact this _ h
theorem dms_at {j : Nat} {o : Oper} (ho : ops[j]? = some o) : (ops.toList.map dmask).getD j 0 = dmask o := by
  have : ops.toList[j]? = some o := by simpa using ho
  simp [List.getD, List.getElem?_map, this]
theorem bit_or_pow {m i j : Nat} : (m ||| 2 ^ i).testBit j = true ↔ m.testBit j = true ∨ j = i := by
  rw [Nat.testBit_or, Nat.testBit_two_pow, Bool.or_eq_true, decide_eq_true_eq]
  exact ⟨fun h => h.imp id Eq.symm, fun h => h.imp id Eq.symm⟩

/-! ### what only computes, what loads -/
theorem pure_go {o : Oper} {ao : AO} {γ : Gam} {h : Hp} {t : Tm} {a : Act} (hc : cO P n ops o = some ao) (hp : ao.k.isPure = true) (r : TRel γ n t a) {K : Tm → Hp → Prop} (hg : ao.go P t h K) :
    ∃ v' rv, YieldsIf P ops (fun _ => True) o v' a ∧ K (tput t ao.d rv) h ∧ TRel γ n (tput t ao.d rv) (a.put o.dst v') ∧ ao.d = o.dst := by
  have runIt : ∀ (k : AK) (g : Option (Nat × Bool)), cK P n o.op = some k → k.isPure = true → okD n o.dst = true → Region.wanted o (yielded ops a.tmps) = true → AO.run P ⟨o.dst, g, k⟩ t h K →
      ∃ v' rv, YieldsIf P ops (fun _ => True) o v' a ∧ K (tput t o.dst rv) h ∧ TRel γ n (tput t o.dst rv) (a.put o.dst v') := by
    intro k g hk hpk hd hw hrun
    have hstep : k.step t h fun v h' => K (tput t o.dst v) h' := by
      unfold AO.run at hrun
      split at hrun
      · rename_i f args hkk; simp only at hkk; subst hkk; cases hpk
      · rename_i x args hkk; simp only at hkk; subst hkk; cases hpk
      · rename_i rows x args hkk; simp only at hkk; subst hkk; cases hpk
      · exact hrun
    obtain ⟨v', hr, rv, hK, hv⟩ := ((cK_sound (h := h) r hk).pure hpk _ hstep).out
    exact ⟨v', rv, .inl ⟨hw, fun w _ => hr w⟩, hK, r.put (okD_lt hd) hv⟩
  unfold cO at hc
  split at hc
  · rename_i k hk hd
    split at hc
    · rename_i hgd
      cases hc
      obtain ⟨v', rv, h1, h2, h3⟩ := runIt k none hk hp hd (by simp [Region.wanted, hgd]) hg
      exact ⟨v', rv, h1, h2, h3, rfl⟩
    · rename_i j want hgd
      split at hc
      · rename_i tj htj
        cases hc
        simp only [AO.go] at hg
        split at hg
        · rename_i b hb
          obtain ⟨v', hv, hr⟩ := r.get tj _ hb
          cases hr
          have hy : yielded ops a.tmps j = some b := by
            unfold yielded
            rw [htj]
            simp [hv]
          have hw : Region.wanted o (yielded ops a.tmps) = (b == want) := by simp [Region.wanted, hgd, hy]
          split at hg
          · rename_i hbw
            subst hbw
            obtain ⟨v', rv, h1, h2, h3⟩ := runIt k (some (tj, b)) hk hp hd (by rw [hw]; simp) hg
            exact ⟨v', rv, h1, h2, h3, rfl⟩
          · rename_i hbw
            exact ⟨undef, skipV k, .inr ⟨by rw [hw]; simpa using hbw, rfl⟩, hg, r.put (okD_lt hd) (fun u hu => skipV_rel hu), rfl⟩
        · rename_i xs hb
          obtain ⟨v', hv, hr⟩ := r.get tj _ hb
          cases hr
          have hy : yielded ops a.tmps j = none := by
            unfold yielded
            rw [htj]
            simp [hv]
          have hw : Region.wanted o (yielded ops a.tmps) = false := by simp [Region.wanted, hgd, hy]
          exact ⟨undef, skipV k, .inr ⟨by rw [hw], rfl⟩, hg, r.put (okD_lt hd) (fun u hu => skipV_rel hu), rfl⟩
        · exact hg.elim
      · cases hc
  · cases hc

theorem ld1_inv {op : Op} {x : Operand} (hc : cK P n op = some (.ld1 x)) : ∃ ty d, op = .load ty x ∧ P.underlying ty = some d ∧ aggD d = false ∧ okO n x = true := by
  replace hc := (cK_of hc).resolve_right (by intro h0; cases h0)
  cases op <;> simp only [cK0] at hc
  case load ty y =>
    split at hc
    · rename_i d ti hd hi
      split at hc
      · obtain ⟨_, h2⟩ := gd_some hc; cases h2
      · rename_i hagg
        obtain ⟨hok, h2⟩ := gd_some hc
        cases h2
        exact ⟨_, _, rfl, hd, hagg, hok⟩
    · cases hc
  case call c =>
    unfold cCall at hc
    (repeat' split at hc) <;> first | (obtain ⟨_, h2⟩ := gd_some hc; cases h2; done) | cases hc
  case build => unfold cBuild at hc; (repeat' split at hc) <;> first | (obtain ⟨_, h2⟩ := gd_some hc; cases h2; done) | cases hc
  case buildSlice => unfold cBslice at hc; (repeat' split at hc) <;> first | (obtain ⟨_, h2⟩ := gd_some hc; cases h2; done) | cases hc
  case binOp => unfold cBin at hc; (repeat' split at hc) <;> first | (obtain ⟨_, h2⟩ := gd_some hc; cases h2; done) | cases hc
  case convert => unfold cConv at hc; (repeat' split at hc) <;> first | (obtain ⟨_, h2⟩ := gd_some hc; cases h2; done) | cases hc
  case slice => unfold cSlice at hc; (repeat' split at hc) <;> first | (obtain ⟨_, h2⟩ := gd_some hc; cases h2; done) | cases hc
  case field => unfold cField at hc; (repeat' split at hc) <;> first | (obtain ⟨_, h2⟩ := gd_some hc; cases h2; done) | cases hc
  case index => unfold cIndex at hc; (repeat' split at hc) <;> first | (obtain ⟨_, h2⟩ := gd_some hc; cases h2; done) | cases hc
  case mapUpdate => simp only [cUpd, cMap] at hc; (repeat' split at hc) <;> first | (obtain ⟨_, h2⟩ := gd_some hc; cases h2; done) | cases hc
  case insert => simp only [cUpd, cMap] at hc; (repeat' split at hc) <;> first | (obtain ⟨_, h2⟩ := gd_some hc; cases h2; done) | cases hc
  case lookup => simp only [cLkp, cMap] at hc; (repeat' split at hc) <;> first | (obtain ⟨_, h2⟩ := gd_some hc; cases h2; done) | cases hc
  case typeAssert => simp only [cTas] at hc; (repeat' split at hc) <;> first | (obtain ⟨_, h2⟩ := gd_some hc; cases h2; done) | cases hc
  case makeFunc fn us vs => cases fn <;> simp only [cK0] at hc <;> first | (obtain ⟨_, h2⟩ := gd_some hc; cases h2; done) | cases hc
  all_goals (repeat' split at hc) <;> first | (obtain ⟨_, h2⟩ := gd_some hc; cases h2; done) | cases hc
theorem ldN_inv {op : Op} {z : Nat} {x : Operand} (hc : cK P n op = some (.ldN z x)) : ∃ ty d ti, op = .load ty x ∧ P.underlying ty = some d ∧ aggD d = true ∧ P.info? ty = some ti ∧ ti.size = z ∧ okO n x = true := by
  replace hc := (cK_of hc).resolve_right (by intro h0; cases h0)
  cases op <;> simp only [cK0] at hc
  case load ty y =>
    split at hc
    · rename_i d ti hd hi
      split at hc
      · rename_i hagg
        obtain ⟨hok, h2⟩ := gd_some hc
        cases h2
        exact ⟨_, _, _, rfl, hd, hagg, hi, rfl, hok⟩
      · obtain ⟨_, h2⟩ := gd_some hc; cases h2
    · cases hc
  case call c =>
    unfold cCall at hc
    (repeat' split at hc) <;> first | (obtain ⟨_, h2⟩ := gd_some hc; cases h2; done) | cases hc
  case build => unfold cBuild at hc; (repeat' split at hc) <;> first | (obtain ⟨_, h2⟩ := gd_some hc; cases h2; done) | cases hc
  case buildSlice => unfold cBslice at hc; (repeat' split at hc) <;> first | (obtain ⟨_, h2⟩ := gd_some hc; cases h2; done) | cases hc
  case binOp => unfold cBin at hc; (repeat' split at hc) <;> first | (obtain ⟨_, h2⟩ := gd_some hc; cases h2; done) | cases hc
  case convert => unfold cConv at hc; (repeat' split at hc) <;> first | (obtain ⟨_, h2⟩ := gd_some hc; cases h2; done) | cases hc
  case slice => unfold cSlice at hc; (repeat' split at hc) <;> first | (obtain ⟨_, h2⟩ := gd_some hc; cases h2; done) | cases hc
  case field => unfold cField at hc; (repeat' split at hc) <;> first | (obtain ⟨_, h2⟩ := gd_some hc; cases h2; done) | cases hc
  case index => unfold cIndex at hc; (repeat' split at hc) <;> first | (obtain ⟨_, h2⟩ := gd_some hc; cases h2; done) | cases hc
  case mapUpdate => simp only [cUpd, cMap] at hc; (repeat' split at hc) <;> first | (obtain ⟨_, h2⟩ := gd_some hc; cases h2; done) | cases hc
  case insert => simp only [cUpd, cMap] at hc; (repeat' split at hc) <;> first | (obtain ⟨_, h2⟩ := gd_some hc; cases h2; done) | cases hc
  case lookup => simp only [cLkp, cMap] at hc; (repeat' split at hc) <;> first | (obtain ⟨_, h2⟩ := gd_some hc; cases h2; done) | cases hc
  case typeAssert => simp only [cTas] at hc; (repeat' split at hc) <;> first | (obtain ⟨_, h2⟩ := gd_some hc; cases h2; done) | cases hc
  case makeFunc fn us vs => cases fn <;> simp only [cK0] at hc <;> first | (obtain ⟨_, h2⟩ := gd_some hc; cases h2; done) | cases hc
  all_goals (repeat' split at hc) <;> first | (obtain ⟨_, h2⟩ := gd_some hc; cases h2; done) | cases hc

/-- A load reads the same in every world whose heap holds it. -/
theorem ld1_run {o : Oper} {γ : Gam} {t : Tm} {a : Act} {x : Operand} {h : Hp} {w : World} (hc : cK P n o.op = some (.ld1 x)) (r : TRel γ n t a) {b off : Nat} {v : Value} (hv : ev t x = some (.pointer (some ⟨b, off, none⟩))) {γ2 : Gam} (hs : Sub γ γ2)
    (s : Sim base w0 γ2 h w) (hrd : h.rd b off = some v) : ∃ v', (execOp a.eval o).run P w = .ok (.value v') w ∧ VRel γ2 v v' := by
  obtain ⟨ty, d, ho, hd, hagg, hok⟩ := ld1_inv hc
  obtain ⟨c, σ, E, hgb, hax⟩ := ptr_of ((r.mono hs).ev hok hv)
  unfold Hp.rd at hrd
  cases hget : h.get b with
  | none => rw [hget] at hrd; cases hrd
  | some ob =>
    rw [hget] at hrd
    obtain ⟨C, e, lo, hi', l⟩ := s.at hgb hget
    obtain ⟨v', hcell, rv'⟩ := l.cell hrd
    refine ⟨v', ?_, rv'⟩
    simp [execOp, ho, hax, Instr.loadAt, Instr.sureAddr, loadVar, Sem.run_bind, run_isAgg_true hd hagg, run_load, hcell]
theorem ldN_run {o : Oper} {γ : Gam} {t : Tm} {a : Act} {z : Nat} {x : Operand} {h : Hp} {w : World} (hc : cK P n o.op = some (.ldN z x)) (r : TRel γ n t a) {b off : Nat} {cs : List Value} (hv : ev t x = some (.pointer (some ⟨b, off, none⟩))) {γ2 : Gam}
    (hs : Sub γ γ2) (s : Sim base w0 γ2 h w) (hrd : h.rdN b off z = some cs) : ∃ v', (execOp a.eval o).run P w = .ok (.value v') w ∧ VRel γ2 (.agg cs.toArray) v' := by
  obtain ⟨ty, d, ti, ho, hd, hagg, hi, hz, hok⟩ := ldN_inv hc
  obtain ⟨c, σ, E, hg, hax⟩ := ptr_of ((r.mono hs).ev hok hv)
  obtain ⟨ob, hget, hle, rfl⟩ := rdN_of hrd
  obtain ⟨C, e, lo, hi', l⟩ := s.at hg hget
  obtain ⟨ys, hrel, _, _, hrun⟩ := l.run (P := P) hle
  refine ⟨_, ?_, VRel.agg_of hrel⟩
  simp [execOp, ho, hax, Instr.loadAt, Instr.sureAddr, loadVar, Sem.run_bind, run_isAgg_true hd hagg, run_size hi, hz, hrun]

/-- What is known of a load that was taken ahead: in whatever world whose heap holds it still, S. -/
def Link (base : Nat) (w0 : World) (γ : Gam) (p : Pd) (S : World → Prop) : Prop := ∀ γ2 h2 w2, Sub γ γ2 → Sim base w0 γ2 h2 w2 → ldOk h2 p → S w2

theorem tget_put_self {t : Tm} {i : Nat} {v : Option Value} : tget (tput t (some i) v) i = v := by
  simp only [tput, tget, show Nat.beq i i = true from Nat.beq_refl i]

theorem load_go {d : DO} {o : Oper} {γ : Gam} {h : Hp} {w : World} {t : Tm} {a : Act} (hc : cO P n ops o = some d.o) (hp : d.o.k.isLd = true) (hds : d.o.d.isSome = true) (r : TRel γ n t a) (s : Sim base w0 γ h w) {K : Tm → Hp → Prop} (hg : d.o.go P t h K) :
    ∃ v' rv, ∃ S : World → Prop, YieldsIf P ops S o v' a ∧ S w ∧ K (tput t d.o.d rv) h ∧ TRel γ n (tput t d.o.d rv) (a.put o.dst v') ∧ d.o.d = o.dst ∧
      ((∀ w, S w) ∨ ∃ p ∈ pdOf d t (tput t d.o.d rv), p.i = d.i ∧ Link base w0 γ p S) ∧ ∀ p ∈ pdOf d t (tput t d.o.d rv), ldOk h p := by
  obtain ⟨di, dk, db, ao⟩ := d
  obtain ⟨dd, g, k⟩ := ao
  simp only at hc hp hds hg ⊢
  obtain ⟨d1, rfl⟩ := Option.isSome_iff_exists.1 hds
  have hck : cK P n o.op = some k ∧ okD n o.dst = true ∧ o.dst = some d1 ∧ (o.guard = none → g = none) ∧ ∀ j want, o.guard = some (j, want) → ∃ tj, (ops[j]?).bind (·.dst) = some tj ∧ g = some (tj, want) := by
    unfold cO at hc
    split at hc
    · rename_i k' hk hd
      split at hc
      · rename_i hgd
        simp only [Option.some.injEq, AO.mk.injEq] at hc
        obtain ⟨h1, rfl, rfl⟩ := hc
        exact ⟨hk, hd, h1, fun _ => rfl, fun j want h => by rw [hgd] at h; cases h⟩
      · rename_i j want hgd
        split at hc
        · rename_i tj htj
          simp only [Option.some.injEq, AO.mk.injEq] at hc
          obtain ⟨h1, rfl, rfl⟩ := hc
          exact ⟨hk, hd, h1, (fun h => by rw [hgd] at h; cases h), fun j' want' h => by rw [hgd] at h; cases h; exact ⟨tj, htj, rfl⟩⟩
        · cases hc
    · cases hc
  obtain ⟨hk, hd, hdst, hg0, hg1⟩ := hck
  have runIt : Region.wanted o (yielded ops a.tmps) = true → AO.run P ⟨some d1, g, k⟩ t h K → ∃ v' rv, ∃ S : World → Prop, YieldsIf P ops S o v' a ∧ S w ∧ K (tput t (some d1) rv) h ∧ TRel γ n (tput t (some d1) rv) (a.put o.dst v') ∧ some d1 = o.dst ∧
      ((∀ w, S w) ∨ ∃ p ∈ pdOf ⟨di, dk, db, ⟨some d1, g, k⟩⟩ t (tput t (some d1) rv), p.i = di ∧ Link base w0 γ p S) ∧ ∀ p ∈ pdOf ⟨di, dk, db, ⟨some d1, g, k⟩⟩ t (tput t (some d1) rv), ldOk h p := by
    intro hw hrun
    cases k <;> simp only [AK.isLd, Bool.false_eq_true] at hp
    case ld1 x =>
      simp only [AO.run, AK.step] at hrun
      split at hrun
      · rename_i b i hv
        obtain ⟨v, hrd, hK⟩ := hrun
        obtain ⟨v', hr, hvr⟩ := ld1_run (P := P) hk r hv (Sub.refl γ) s hrd
        refine ⟨v', some v, fun w2 => (execOp a.eval o).run P w2 = .ok (.value v') w2, .inl ⟨hw, fun w2 h2 => h2⟩, hr, hK, hdst ▸ r.put (okD_lt (hdst ▸ hd)) (fun u hu => by cases hu; exact hvr), hdst.symm, .inr ?_, ?_⟩
        · simp only [pdOf, hv, tget_put_self, List.mem_singleton, exists_eq_left, true_and]
          intro γ2 h2 w2 hs2 s2 hl
          obtain ⟨v'', hr2, hvr2⟩ := ld1_run (P := P) hk r hv hs2 s2 hl
          rw [hvr2.fn (hvr.mono hs2)] at hr2
          exact hr2
        · simp only [pdOf, hv, tget_put_self, List.mem_singleton, forall_eq]
          exact hrd
      · exact hrun.elim
    case ldN z x =>
      simp only [AO.run, AK.step] at hrun
      split at hrun
      · rename_i b i hv
        obtain ⟨cs, hrd, hK⟩ := hrun
        obtain ⟨v', hr, hvr⟩ := ldN_run (P := P) hk r hv (Sub.refl γ) s hrd
        refine ⟨v', some (.agg cs.toArray), fun w2 => (execOp a.eval o).run P w2 = .ok (.value v') w2, .inl ⟨hw, fun w2 h2 => h2⟩, hr, hK, hdst ▸ r.put (okD_lt (hdst ▸ hd)) (fun u hu => by cases hu; exact hvr), hdst.symm, .inr ?_, ?_⟩
        · simp only [pdOf, hv, tget_put_self, List.mem_singleton, exists_eq_left, true_and]
          intro γ2 h2 w2 hs2 s2 hl
          obtain ⟨cs2, hrd2, he⟩ := hl
          have : cs2 = cs := by
            simp only [Value.agg.injEq] at he
            exact (congrArg Array.toList he).symm
          subst this
          obtain ⟨v'', hr2, hvr2⟩ := ldN_run (P := P) hk r hv hs2 s2 hrd2
          rw [hvr2.fn (hvr.mono hs2)] at hr2
          exact hr2
        · simp only [pdOf, hv, tget_put_self, List.mem_singleton, forall_eq]
          exact ⟨cs, hrd, rfl⟩
      · exact hrun.elim
  cases hgd : o.guard with
  | none =>
    have := hg0 hgd
    subst this
    exact runIt (by simp [Region.wanted, hgd]) hg
  | some jw =>
    obtain ⟨j, want⟩ := jw
    obtain ⟨tj, htj, rfl⟩ := hg1 j want hgd
    have hsk : skipV k = none := by
      cases k <;> first | rfl | (simp only [AK.isLd, Bool.false_eq_true] at hp)
    have hpd : pdOf ⟨di, dk, db, ⟨some d1, some (tj, want), k⟩⟩ t (tput t (some d1) none) = [] := by
      cases k <;> simp only [pdOf, tget_put_self] <;> split <;> first | rfl | (rename_i h; cases h) | skip
    simp only [AO.go, hsk] at hg
    split at hg
    · rename_i b hb
      obtain ⟨v', hv, hr⟩ := r.get tj _ hb
      cases hr
      have hy : yielded ops a.tmps j = some b := by
        unfold yielded
        rw [htj]
        simp [hv]
      have hw : Region.wanted o (yielded ops a.tmps) = (b == want) := by simp [Region.wanted, hgd, hy]
      split at hg
      · rename_i hbw
        subst hbw
        exact runIt (by rw [hw]; simp) hg
      · rename_i hbw
        refine ⟨undef, none, fun _ => True, .inr ⟨by rw [hw]; simpa using hbw, rfl⟩, trivial, hg, hdst ▸ r.put (okD_lt (hdst ▸ hd)) (fun u hu => by cases hu), hdst.symm, .inl fun _ => trivial, ?_⟩
        rw [hpd]
        simp
    · rename_i xs hb
      obtain ⟨v', hv, hr⟩ := r.get tj _ hb
      cases hr
      have hy : yielded ops a.tmps j = none := by
        unfold yielded
        rw [htj]
        simp [hv]
      have hw : Region.wanted o (yielded ops a.tmps) = false := by simp [Region.wanted, hgd, hy]
      refine ⟨undef, none, fun _ => True, .inr ⟨hw, rfl⟩, trivial, hg, hdst ▸ r.put (okD_lt (hdst ▸ hd)) (fun u hu => by cases hu), hdst.symm, .inl fun _ => trivial, ?_⟩
      rw [hpd]
      simp
    · exact hg.elim
end
end Go.Proofs.Ytbfbgkhlngkifaa.Am
