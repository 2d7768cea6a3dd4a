/- A number read by the program. Plain theorems over the abstract machine.
   Conditions: none. -/
import Derived.Test.YtholkooikmbamaaArO
import Derived.Test.YtholkooikmbamaaArC
namespace Go.Proofs.Ytholkooikmbamaa.Ar
open Go Go.RowKit Go.Proofs.Ytholkooikmbamaa.Am Go.Proofs.Ytholkooikmbamaa.Af
set_option linter.unusedVariables false
set_option linter.unusedSimpArgs false
set_option maxRecDepth 20000

/-- A bit read with the k-th state. -/
def rbit (bs : List Int) (x : De × List Int) (k : Nat) : De × List Int := (gst bs x.1 (x.2.getD k 0), x.2.set k (stepI (x.2.getD k 0) (gbit x.1 (x.2.getD k 0))))
theorem rbit_ok {bs : List Int} {x : De × List Int} {k : Nat} (g : DGd x.1 bs.length) (hb : Bytes bs) (o : SOk x.2) (hk : k < 32) (ok : gok bs x.1 (x.2.getD k 0) = true) : DGd (rbit bs x k).1 bs.length ∧ SOk (rbit bs x k).2 :=
  ⟨gst_gd g hb (o.at hk) ok, by
    have := (bitS_ok (s := (⟨0, 4294967295, [], 0⟩, x.2)) new_gd o hk (gbit x.1 (x.2.getD k 0))).2.1
    exact this⟩
def ups (bs : List Int) : Nat → Nat → De × List Int → Except Int (Nat × De × List Int)
  | 0, _, _ => .error 4
  | f + 1, j, x => if gok bs x.1 (x.2.getD (min j 15) 0) = true then if gbit x.1 (x.2.getD (min j 15) 0) = 0 then .ok (j + 1, rbit bs x (min j 15)) else ups bs f (j + 1) (rbit bs x (min j 15)) else .error 3
def downs (bs : List Int) (n : Nat) : Nat → Nat → Int → De × List Int → Except Int (Int × De × List Int)
  | 0, _, w, x => .ok (w, x)
  | r + 1, c, w, x => if c = 0 then
      if gok bs x.1 (x.2.getD (16 + min (n - 1) 15) 0) = true then downs bs n r (c + 1) (2 * w + gbit x.1 (x.2.getD (16 + min (n - 1) 15) 0)) (rbit bs x (16 + min (n - 1) 15)) else .error 3
    else if gok bs x.1 2048 = true then downs bs n r (c + 1) (2 * w + gbit x.1 2048) (gst bs x.1 2048, x.2) else .error 3
def endD (r : Except Int (Int × De × List Int)) : Except Int (Int × De × List Int) := match r with
  | .error e => .error e
  | .ok (w, x) => if 1048576 < w then .error 4 else .ok (w - 1, x)
def numD (bs : List Int) (x : De × List Int) : Except Int (Int × De × List Int) := match ups bs 21 0 x with
  | .error e => .error e
  | .ok (n, x) => endD (downs bs n (n - 1) 0 1 x)
/-- The decoder and the array of states, in memory. -/
structure NDAt (h : Hp) (xd xs d ba : Nat) (a : Option Addr) (n c : Nat) (bs : List Int) (x : De × List Int) : Prop where
  bd : h.get xd = some ⟨[.pointer (some ⟨d, 0, none⟩)], .own⟩
  bt : h.get xs = some ⟨[.pointer (some ⟨ba, 0, none⟩)], .own⟩
  arr : h.get ba = some ⟨x.2.map (Value.int .i64), .own⟩
  dec : h.get d = some (pO a n c x.1)
  rd : Rd h 1 a n (bs.map (Value.int .u8))
  d1 : d ≠ ba
  d2 : xd ≠ d
  d3 : xd ≠ ba
  d4 : xs ≠ d
  d5 : xs ≠ ba
  d6 : ¬ At a d
  d7 : ¬ At a ba
theorem NDAt.putD {h : Hp} {xd xs d ba : Nat} {a : Option Addr} {n c : Nat} {bs : List Int} {x : De × List Int} (w : Wf h) (X : NDAt h xd xs d ba a n c bs x) (s : De) : NDAt (h.put d (pO a n c s)) xd xs d ba a n c bs (s, x.2) :=
  have fm : Fm (fun y => y = d) h (h.put d (pO a n c s)) := Fm.put Fm.refl fun _ => rfl
  ⟨fm.keep w X.bd X.d2, fm.keep w X.bt X.d4, fm.keep w X.arr (fun e => X.d1 e.symm), gput, X.rd.keep w fm (fun y hy e => X.d6 (e ▸ hy)), X.d1, X.d2, X.d3, X.d4, X.d5, X.d6, X.d7⟩
theorem NDAt.putA {h : Hp} {xd xs d ba : Nat} {a : Option Addr} {n c : Nat} {bs : List Int} {x : De × List Int} (w : Wf h) (X : NDAt h xd xs d ba a n c bs x) {k : Nat} (hk : k < x.2.length) (u : Int) :
    NDAt (h.put ba ⟨spl (x.2.map (Value.int .i64)) k [.int .i64 u], .own⟩) xd xs d ba a n c bs (x.1, x.2.set k u) := by
  have fm : Fm (fun y => y = ba) h (h.put ba ⟨spl (x.2.map (Value.int .i64)) k [.int .i64 u], .own⟩) := Fm.put Fm.refl fun _ => rfl
  refine ⟨fm.keep w X.bd X.d3, fm.keep w X.bt X.d5, ?_, fm.keep w X.dec X.d1, X.rd.keep w fm (fun y hy e => X.d7 (e ▸ hy)), X.d1, X.d2, X.d3, X.d4, X.d5, X.d6, X.d7⟩
  rw [gput, spl_one _ _ _ (by simpa using hk), List.map_set]
def NF (d ba : Nat) : Nat → Prop := fun y => y = d ∨ y = ba
theorem c_D1 {h : Hp} {xd xs d ba n c i : Nat} {a : Option Addr} {bs : List Int} {x : De × List Int} (X : NDAt h xd xs d ba a n c bs x) (hb : Bytes bs) (hn : n ≤ 140737488351232) (g : DGd x.1 bs.length) (o : SOk x.2) (hi : i < 32) :
    ACalls Try.prog 79 [.int .i64 i, .pointer (some ⟨xd, 0, none⟩), .pointer (some ⟨xs, 0, none⟩)] h fun v h' =>
      (gok bs x.1 (x.2.getD i 0) = true → v = .tuple #[.int .i64 (gbit x.1 (x.2.getD i 0)), .int .i64 0] ∧ NDAt h' xd xs d ba a n c bs (rbit bs x i)) ∧
      (¬ gok bs x.1 (x.2.getD i 0) = true → v = .tuple #[.int .i64 0, .int .i64 3] ∧ NDAt h' xd xs d ba a n c bs (gst bs x.1 (x.2.getD i 0), x.2)) ∧ Fm (NF d ba) h h' := by
  refine arith_Decoder__number_1_ok.snd hm rfl fun w => ?_
  rw [WF_eq, arith_Decoder__number_1]
  have hlen := o.len
  have hst := o.at hi
  have hget : (x.2.map (Value.int .i64))[i]? = some (.int .i64 (x.2.getD i 0)) := by
    rw [List.getElem?_map, List.getD_eq_getElem?_getD, List.getElem?_eq_getElem (by omega)]; rfl
  have hi32 : (i : Int) < ((32 : Nat) : Int) := by omega
  simp +contextual only [↓AM, ↓AV, AP, rd_mk X.bd, rd_mk X.bt, rd_mk X.arr, hget, hi32, hi]
  refine (c_get X.dec X.rd hb hn X.d6 g hst).use ?_
  rintro _ h1 w1 ⟨rfl, e⟩
  subst e
  have X1 := X.putD w (gst bs x.1 (x.2.getD i 0))
  have fm1 : Fm (NF d ba) h (h.put d (pO a n c (gst bs x.1 (x.2.getD i 0)))) := Fm.put Fm.refl fun _ => .inl rfl
  generalize h.put d (pO a n c (gst bs x.1 (x.2.getD i 0))) = h1 at X1 w1 fm1
  have hle : leIs (i + 1) (x.2.map (Value.int .i64)) = true := by rw [← leIs_p]; simp; omega
  by_cases ok : gok bs x.1 (x.2.getD i 0) = true
  · simp +contextual only [↓AM, ↓AV, AP, ok, rd_mk X1.bd, rd_mk X1.bt, rd_mk X1.arr, hget, hi32, hi]
    refine (c_step hst).use ?_
    rintro _ h1 w2 ⟨rfl, e⟩
    subst e
    simp +contextual only [↓AM, ↓AV, AP, rd_mk X1.bd, rd_mk X1.bt, X1.arr, rd_mk X1.arr, hget, hi32, hi, hle]
    exact ⟨fun _ => X1.putA w2 (by show i < x.2.length; omega) _, fun h => absurd ok h, fm1.put fun _ => .inr rfl⟩
  · have ok' : gok bs x.1 (x.2.getD i 0) = false := by simpa using ok
    simp +contextual only [↓AM, ↓AV, AP, ok', e3_0]
    exact ⟨X1, fm1⟩
def contU (bs : List Int) (r : Except Int (Nat × De × List Int)) : Except Int (Int × De × List Int) := match r with
  | .error e => .error e
  | .ok (n, x) => endD (downs bs n (n - 1) 0 1 x)
theorem numD_U (bs : List Int) (x : De × List Int) : numD bs x = contU bs (ups bs 21 0 x) := by
  unfold numD contU
  cases ups bs 21 0 x <;> rfl
theorem or_bit {w : Nat} {b : Int} (hw : w < 4194304) (hb : b = 0 ∨ b = 1) : IntKind.i64.wrap ((BitVec.ofInt IntKind.i64.bits ((w : Int) * 2) ||| BitVec.ofInt IntKind.i64.bits b).toNat : Int) = 2 * w + b := by
  obtain ⟨n, rfl⟩ : ∃ n : Nat, b = n := ⟨b.toNat, by omega⟩
  have e : (BitVec.ofInt IntKind.i64.bits ((w : Int) * 2) ||| BitVec.ofInt IntKind.i64.bits (n : Int)).toNat = w * 2 + n := by
    show (BitVec.ofInt 64 ((w : Int) * 2) ||| BitVec.ofInt 64 (n : Int)).toNat = _
    rw [BitVec.toNat_or]
    have h1 : (BitVec.ofInt 64 ((w : Int) * 2)).toNat = w <<< 1 := by
      rw [Nat.shiftLeft_eq, BitVec.toNat_ofInt]; omega
    have h2 : (BitVec.ofInt 64 (n : Int)).toNat = n := by simp [BitVec.toNat_ofInt]; omega
    rw [h1, h2, ← Nat.shiftLeft_add_eq_or_of_lt (by omega), Nat.shiftLeft_eq]
  rw [e, i64 (by omega)]
  omega
/-- What reading a number leaves: the answer, the decoder and the states. -/
def DPost (d ba : Nat) (a : Option Addr) (n c : Nat) (bs : List Int) (h : Hp) (R : Except Int (Int × De × List Int)) (v : Value) (h' : Hp) : Prop :=
  (∀ e, R = .error e → v = .tuple #[.int .i64 0, .int .i64 e] ∧ ∃ s, h'.get d = some (pO a n c s)) ∧
  (∀ w y, R = .ok (w, y) → v = .tuple #[.int .i64 w, .int .i64 0] ∧ h'.get d = some (pO a n c y.1) ∧ h'.get ba = some ⟨y.2.map (Value.int .i64), .own⟩ ∧ DGd y.1 bs.length ∧ SOk y.2) ∧ Fm (NF d ba) h h'
theorem DPost.err {d ba n c : Nat} {a : Option Addr} {bs : List Int} {h h' : Hp} {R : Except Int (Int × De × List Int)} {e : Int} (hR : .error e = R) {s : De} (hd : h'.get d = some (pO a n c s)) (fm : Fm (NF d ba) h h') : DPost d ba a n c bs h R (.tuple #[.int .i64 0, .int .i64 e]) h' :=
  ⟨fun e' he => (by rw [← hR] at he; cases he; exact ⟨rfl, s, hd⟩), fun w y he => (by rw [← hR] at he; cases he), fm⟩
theorem c_number {h : Hp} {d ba n c : Nat} {a : Option Addr} {bs : List Int} {x : De × List Int} (hd : h.get d = some (pO a n c x.1)) (hba : h.get ba = some ⟨x.2.map (Value.int .i64), .own⟩) (r : Rd h 1 a n (bs.map (Value.int .u8))) (hb : Bytes bs) (hn : n ≤ 140737488351232)
    (d1 : d ≠ ba) (d6 : ¬ At a d) (d7 : ¬ At a ba) (g : DGd x.1 bs.length) (o : SOk x.2) :
    ACalls Try.prog 67 [.pointer (some ⟨d, 0, none⟩), .pointer (some ⟨ba, 0, none⟩)] h (DPost d ba a n c bs h (numD bs x)) := by
  refine arith_Decoder__number_ok.snd hm rfl fun w => ?_
  rw [WF_eq, arith_Decoder__number]
  have hdl := w.lt hd
  have hbl := w.lt hba
  rw [numD_U]
  generalize hR : contU bs (ups bs 21 0 x) = R
  simp +contextual only [↓AM, ↓AV, AP]
  have f1 : Fm No h (h.new ⟨[.pointer (some ⟨d, 0, none⟩)], .own⟩) := Fm.new Fm.refl
  have f2 : Fm No h ((h.new ⟨[.pointer (some ⟨d, 0, none⟩)], .own⟩).new ⟨[.pointer (some ⟨ba, 0, none⟩)], .own⟩) := f1.new
  have w2 := (w.new (o := ⟨[.pointer (some ⟨d, 0, none⟩)], .own⟩)).new (o := ⟨[.pointer (some ⟨ba, 0, none⟩)], .own⟩)
  have X0 : NDAt ((h.new ⟨[.pointer (some ⟨d, 0, none⟩)], .own⟩).new ⟨[.pointer (some ⟨ba, 0, none⟩)], .own⟩) h.size (h.new ⟨[.pointer (some ⟨d, 0, none⟩)], .own⟩).size d ba a n c bs x :=
    ⟨(get_new (Nat.lt_succ_self _)).trans gnew, gnew, f2.keep w hba id, f2.keep w hd id, r.keep w f2 (fun _ _ => id), d1, by omega, by omega, by show h.size + 1 ≠ d; omega, by show h.size + 1 ≠ ba; omega, d6, d7⟩
  have fm0 : Fm (NF d ba) h ((h.new ⟨[.pointer (some ⟨d, 0, none⟩)], .own⟩).new ⟨[.pointer (some ⟨ba, 0, none⟩)], .own⟩) := f2.mono fun _ _ h => h.elim
  generalize h.size = xd at X0
  generalize (h.new ⟨[.pointer (some ⟨d, 0, none⟩)], .own⟩).size = xs at X0
  generalize (h.new ⟨[.pointer (some ⟨d, 0, none⟩)], .own⟩).new ⟨[.pointer (some ⟨ba, 0, none⟩)], .own⟩ = h2 at X0 w2 fm0
  have mn15 : ∀ i : Nat, intMin [.int .i64 (i : Int), .int .i64 15] = some (.int .i64 (min i 15 : Nat)) := by
    intro i
    have hm : (if (15 : Int) < (i : Int) then (15 : Int) else (i : Int)) = ((min i 15 : Nat) : Int) := by split <;> omega
    simp only [intMin, if_true]
    rw [hm]
  refine WL.mk (fun m t h' => Wf h' ∧ Fm (NF d ba) h h' ∧ ∃ j y, j ≤ 20 ∧ m = 21 - j ∧ contU bs (ups bs (21 - j) j y) = R ∧ NDAt h' xd xs d ba a n c bs y ∧ DGd y.1 bs.length ∧ SOk y.2 ∧
    t = [(2, some (.pointer (some ⟨xd, 0, none⟩))), (6, some (.func (.func 79) #[] #[.pointer (some ⟨xd, 0, none⟩), .pointer (some ⟨xs, 0, none⟩)])), (7, some (.int .i64 ((j : Int) + 1)))])
    ⟨_, w2, fm0, 0, x, by omega, rfl, hR, X0, g, o, rfl⟩ ?_
  clear X0 w2 fm0 hR f1 f2
  rintro m t k1 ⟨w1, fm1, j, y, hj, rfl, hR, X, g, o, rfl⟩
  have e1 : IntKind.i64.wrap ((j : Int) + 1 - 1) = (j : Nat) := by rw [i64 (by omega)]; omega
  have e2 : IntKind.i64.wrap (0 + ((min j 15 : Nat) : Int)) = (min j 15 : Nat) := by rw [i64 (by omega)]; omega
  simp +contextual only [↓AM, ↓AV, AP, e1, mn15, e2]
  refine ⟨by kernel_rfl, (c_D1 X hb hn g o (i := min j 15) (by omega)).use ?_⟩
  rintro v k2 w2 ⟨hok, hno, fm2⟩
  have fm2 : Fm (NF d ba) h k2 := fm1.trans fm2 fun _ _ => id
  rw [show 21 - j = (20 - j) + 1 by omega, ups] at hR
  by_cases ok : gok bs y.1 (y.2.getD (min j 15) 0) = true
  case neg =>
    obtain ⟨rfl, X2⟩ := hno ok
    rw [if_neg ok] at hR
    simp +contextual only [↓AM, ↓AV, AP, e3_0]
    exact DPost.err hR X2.dec fm2
  obtain ⟨rfl, X2⟩ := hok ok
  obtain ⟨g2, o2⟩ := rbit_ok g hb o (k := min j 15) (by omega) ok
  rw [if_pos ok] at hR
  by_cases hz : gbit y.1 (y.2.getD (min j 15) 0) = 0
  case neg =>
    have e3 : EqI (gbit y.1 (y.2.getD (min j 15) 0)) 0 = False := eq_false hz
    have e4 : IntKind.i64.wrap ((j : Int) + 1 + 1) = ((j + 1 : Nat) : Int) + 1 := by rw [i64 (by omega)]; rfl
    rw [if_neg hz] at hR
    by_cases hj20 : j = 20
    · subst hj20
      have e5 : (21 : Int) < ((20 + 1 : Nat) : Int) + 1 := by omega
      simp +contextual only [↓AM, ↓AV, AP, e3, e4, e5]
      exact DPost.err hR X2.dec fm2
    · have e5 : ¬ (21 : Int) < ((j + 1 : Nat) : Int) + 1 := by omega
      simp +contextual only [↓AM, ↓AV, AP, e3, e4, e5]
      exact ⟨_, by omega, w2, fm2, j + 1, _, by omega, rfl, by rw [show 21 - (j + 1) = 20 - j by omega]; exact hR, X2, g2, o2, rfl⟩
  rw [if_pos hz] at hR
  have hR : endD (downs bs (j + 1) j 0 1 (rbit bs y (min j 15))) = R := hR
  rw [hz]
  generalize rbit bs y (min j 15) = z at hR X2 g2 o2
  clear hok hno X g o
  simp +contextual only [↓AM, ↓AV, AP, e1]
  refine WL.mk (fun m t h' => Wf h' ∧ Fm (NF d ba) h h' ∧ ∃ (i : Nat) (y : De × List Int) (w : Nat), i ≤ j ∧ m = j - i ∧ endD (downs bs (j + 1) (j - i) i w y) = R ∧ NDAt h' xd xs d ba a n c bs y ∧ DGd y.1 bs.length ∧ SOk y.2 ∧ w < 2 ^ (i + 1) ∧
    t = [(2, some (.pointer (some ⟨xd, 0, none⟩))), (6, some (.func (.func 79) #[] #[.pointer (some ⟨xd, 0, none⟩), .pointer (some ⟨xs, 0, none⟩)])), (7, some (.int .i64 ((j : Int) + 1))), (10, some (.int .i64 w)), (34, some (.int .i64 j)), (35, some (.int .i64 i))])
    ⟨_, w2, fm2, 0, z, 1, by omega, rfl, hR, X2, g2, o2, by decide, rfl⟩ ?_
  clear X2 g2 o2 hR w2 fm2
  rintro m t k3 ⟨w3, fm3, i, y, u, hi, rfl, hR, X, g, o, hu, rfl⟩
  have hp : 2 ^ (i + 1) ≤ 2 ^ 21 := Nat.pow_le_pow_right (by decide) (by omega)
  have hp2 : (2 : Nat) ^ 21 = 2097152 := by decide
  by_cases hij : i < j
  case neg =>
    have : i = j := by omega
    subst this
    rw [Nat.sub_self, downs, endD] at hR
    have e6 : IntKind.i64.wrap ((u : Int) - 1) = (u : Int) - 1 := i64 (by omega)
    by_cases hbig : 1048576 < u
    · have e7 : (1048576 : Int) ≤ (u : Int) - 1 := by omega
      rw [if_pos (by omega)] at hR
      simp +contextual only [↓AM, ↓AV, AP, hij, e6, e7]
      exact DPost.err hR X.dec fm3
    · have e7 : ¬ (1048576 : Int) ≤ (u : Int) - 1 := by omega
      rw [if_neg (by omega)] at hR
      simp +contextual only [↓AM, ↓AV, AP, hij, e6, e7]
      exact ⟨fun e he => (by rw [← hR] at he; cases he), fun w' y' he => (by rw [← hR] at he; cases he; exact ⟨rfl, X.dec, X.arr, g, o⟩), fm3⟩
  rw [show j - i = (j - (i + 1)) + 1 by omega, downs] at hR
  by_cases hi0 : i = 0
  · have e8 : EqI (i : Int) 0 = True := by simp [EqI, hi0]
    have e9 : IntKind.i64.wrap (16 + ((min j 15 : Nat) : Int)) = ((16 + min j 15 : Nat) : Int) := by rw [i64 (by omega)]; rfl
    rw [if_pos hi0, show j + 1 - 1 = j by omega] at hR
    simp +contextual only [↓AM, ↓AV, AP, hij, e8, e1, mn15, e9]
    refine ⟨by kernel_rfl, (c_D1 X hb hn g o (i := 16 + min j 15) (by omega)).use ?_⟩
    rintro v k2 w2 ⟨hok, hno, fm2⟩
    have fm2 : Fm (NF d ba) h k2 := fm3.trans fm2 fun _ _ => id
    by_cases ok : gok bs y.1 (y.2.getD (16 + min j 15) 0) = true
    case neg =>
      obtain ⟨rfl, X2⟩ := hno ok
      rw [if_neg ok] at hR
      simp +contextual only [↓AM, ↓AV, AP, e3_0]
      exact DPost.err hR X2.dec fm2
    obtain ⟨rfl, X2⟩ := hok ok
    obtain ⟨g2, o2⟩ := rbit_ok g hb o (k := 16 + min j 15) (by omega) ok
    rw [if_pos ok] at hR
    have hb01 := gbit_01 y.1 (y.2.getD (16 + min j 15) 0)
    generalize gbit y.1 (y.2.getD (16 + min j 15) 0) = bt at hR hb01
    have e10 : IntKind.i64.wrap ((u : Int) * 2 ^ min 1 IntKind.i64.bits) = (u : Int) * 2 := by
      show IntKind.i64.wrap ((u : Int) * 2) = _
      exact i64 (by omega)
    have e11 := or_bit (w := u) (b := bt) (by omega) hb01
    simp +contextual only [↓AM, ↓AV, AP, e10, e11]
    obtain ⟨q, hq, hq2⟩ : ∃ q : Nat, 2 * (u : Int) + bt = q ∧ q < 2 ^ (i + 1 + 1) := ⟨(2 * (u : Int) + bt).toNat, by omega, by rw [Nat.pow_succ]; omega⟩
    rw [hq] at hR ⊢
    refine ⟨_, by omega, w2, fm2, i + 1, _, q, by omega, rfl, hR, X2, g2, o2, hq2, ?_⟩
    rw [i64 (by omega)]; rfl
  · have e8 : EqI (i : Int) 0 = False := by simp [EqI, hi0]
    rw [if_neg hi0] at hR
    simp +contextual only [↓AM, ↓AV, AP, hij, e8, rd_mk X.bd]
    refine (c_get X.dec X.rd hb hn X.d6 g st2048).use ?_
    rintro _ k2 w2 ⟨rfl, e⟩
    subst e
    have X2 := X.putD w3 (gst bs y.1 2048)
    have fm2 : Fm (NF d ba) h (k3.put d (pO a n c (gst bs y.1 2048))) := fm3.put fun _ => .inl rfl
    generalize k3.put d (pO a n c (gst bs y.1 2048)) = k2 at X2 w2 fm2
    by_cases ok : gok bs y.1 2048 = true
    case neg =>
      have ok' : gok bs y.1 2048 = false := by simpa using ok
      rw [if_neg ok] at hR
      simp +contextual only [↓AM, ↓AV, AP, ok', e3_0]
      exact DPost.err hR X2.dec fm2
    have g2 := gst_gd g hb st2048 ok
    rw [if_pos ok] at hR
    have hb01 := gbit_01 y.1 2048
    have e10 : IntKind.i64.wrap ((u : Int) * 2 ^ min 1 IntKind.i64.bits) = (u : Int) * 2 := by
      show IntKind.i64.wrap ((u : Int) * 2) = _
      exact i64 (by omega)
    have e11 := or_bit (w := u) (b := gbit y.1 2048) (by omega) hb01
    simp +contextual only [↓AM, ↓AV, AP, ok, e10, e11]
    generalize gbit y.1 2048 = bt at hR hb01
    obtain ⟨q, hq, hq2⟩ : ∃ q : Nat, 2 * (u : Int) + bt = q ∧ q < 2 ^ (i + 1 + 1) := ⟨(2 * (u : Int) + bt).toNat, by omega, by rw [Nat.pow_succ]; omega⟩
    rw [hq] at hR ⊢
    refine ⟨_, by omega, w2, fm2, i + 1, _, q, by omega, rfl, hR, X2, g2, o, hq2, ?_⟩
    rw [i64 (by omega)]; rfl
end Go.Proofs.Ytholkooikmbamaa.Ar
