/- Tracks of codes checked. Plain theorems over the abstract machine.
   Conditions: none. -/
import Derived.Test.YtnibipabfdalcaaMdB
namespace Go.Proofs.Ytnibipabfdalcaa.Md
open Go Go.RowKit Go.Proofs.Ytnibipabfdalcaa.Am Go.Proofs.Ytnibipabfdalcaa.Af
set_option linter.unusedVariables false
set_option linter.unusedSimpArgs false
set_option linter.defProp false
set_option maxRecDepth 20000
set_option maxHeartbeats 1000000

def awakeTab : List (Nat × AF) := [(6, dioramalaw20_awake), (14, code_Add), (15, code_Check), (16, code_steps__day), (29, code_steps__code), (43, code_checked), (44, code_within), (45, code_steps__around), (46, code_steps__count), (47, code_steps__ten), (61, code_steps__dropped), (87, code_steps__right)]
theorem awakeTab_ok : TabL Try.prog awakeTab := ⟨dioramalaw20_awake_ok, code_Add_ok, code_Check_ok, code_steps__day_ok, code_steps__code_ok, code_checked_ok, code_within_ok, code_steps__around_ok, code_steps__count_ok, code_steps__ten_ok, code_steps__dropped_ok, code_steps__right_ok, trivial⟩
theorem awake_runs : xIs (xCall (tabOf awakeTab) 200 6 []) (.bool true) = true := by kernel_rfl
theorem c_awake {h : Hp} : ACalls Try.prog 6 [] h fun v h' => v = .bool true ∧ h' = h :=
  xCall_ok hm awakeTab_ok.tab awake_runs rfl rfl h
def lettersTab : List (Nat × AF) := [(49, model_letters), (50, model_isName), (90, dioramaref03_Letters), (91, dioramaref03_language), (92, dioramaref03_Name)]
theorem lettersTab_ok : TabL Try.prog lettersTab := ⟨model_letters_ok, model_isName_ok, dioramaref03_Letters_ok, dioramaref03_language_ok, dioramaref03_Name_ok, trivial⟩
abbrev tmc : Value := .string ⟨#[116, 109, 99, 49]⟩
abbrev und : Value := .string ⟨#[117, 110, 100]⟩
theorem c_l1 {h : Hp} : ACalls Try.prog 49 [.string ⟨#[116, 109, 99, 49]⟩, .int .i64 4, .bool true] h fun v h' => v = .bool true ∧ h' = h :=
  xCall_ok hm lettersTab_ok.tab (n := 200) (by kernel_rfl) rfl rfl h
theorem c_l2 {h : Hp} : ACalls Try.prog 49 [.string ⟨#[117, 110, 100]⟩, .int .i64 3, .bool false] h fun v h' => v = .bool true ∧ h' = h :=
  xCall_ok hm lettersTab_ok.tab (n := 200) (by kernel_rfl) rfl rfl h
theorem c_l3 {h : Hp} : ACalls Try.prog 50 [.string ⟨#[]⟩] h fun v h' => v = .bool true ∧ h' = h :=
  xCall_ok hm lettersTab_ok.tab (n := 200) (by kernel_rfl) rfl rfl h
theorem c_l4 {h : Hp} : ACalls Try.prog 90 [.string ⟨#[116, 109, 99, 49]⟩] h fun v h' => v = .bool true ∧ h' = h :=
  xCall_ok hm lettersTab_ok.tab (n := 200) (by kernel_rfl) rfl rfl h
theorem c_l5 {h : Hp} : ACalls Try.prog 91 [.string ⟨#[117, 110, 100]⟩] h fun v h' => v = .bool true ∧ h' = h :=
  xCall_ok hm lettersTab_ok.tab (n := 200) (by kernel_rfl) rfl rfl h
theorem c_l6 {h : Hp} : ACalls Try.prog 92 [.string ⟨#[]⟩] h fun v h' => v = .bool true ∧ h' = h :=
  xCall_ok hm lettersTab_ok.tab (n := 200) (by kernel_rfl) rfl rfl h

/-! ### samples of codes -/
/-- A sample: when, how long, and the number that it holds. -/
abbrev Sp := Int × Int × Int
def dataN (n : Int) : List Int := [n / 16777216 % 256, n / 65536 % 256, n / 256 % 256, n % 256]
def spC (x : Sp) (b : Nat) : List Value := [.int .i64 x.1, .int .i64 x.1, .int .i64 x.2.1, .bool true, .slice none 0 0, .slice (some ⟨b, 0, none⟩) 4 4]
def SpA (h : Hp) (x : Sp) (cs : List Value) : Prop := ∃ b, cs = spC x b ∧ h.get b = some ⟨(dataN x.2.2).map (Value.int .u8), .own⟩
theorem SpA.len {h : Hp} {x : Sp} {cs : List Value} (a : SpA h x cs) : cs.length = 6 := by obtain ⟨b, rfl, _⟩ := a; rfl
theorem row_el {α : Type} {A : α → List Value → Prop} {z : Nat} (hz : ∀ x cs, A x cs → cs.length = z) {h : Hp} {oa : Option Addr} {n : Nat} {r : List Value} {xs : List α} (rd : Rd h z oa n r) (row : AKd.Row A xs r) (hl : xs.length = n) {i : Nat} (hi : i < n) :
    ∃ b off sp x c, oa = some ⟨b, off, sp⟩ ∧ flagOk sp = true ∧ xs[i]? = some x ∧ A x c ∧ h.rdN b (off + i * z) z = some c ∧ ∀ j v, c[j]? = some v → h.rd b (off + i * z + j) = some v := by
  obtain ⟨b, off, sp, e, h1, h2⟩ := rd.pos (by omega)
  have hx : xs[i]? = some xs[i] := List.getElem?_eq_getElem (by omega)
  have hc := AKd.Row.get hz row hx
  have h3 := rdN_sub (k := i * z) (l := z) h2 (by rw [← Nat.succ_mul]; exact Nat.mul_le_mul_right _ hi)
  exact ⟨b, off, sp, _, _, e, h1, hx, hc, h3, fun j v hv => rdN_get h3 hv⟩
/-- The track that the samples make. -/
def trC (id sc : Int) (sa qa : Option Addr) (n qc : Nat) : List Value := [.int .i64 id, .int .i64 6, .string ⟨#[116, 109, 99, 49]⟩, .int .i64 sc, .slice sa 2 2, .string ⟨#[117, 110, 100]⟩, .string ⟨#[]⟩, .int .i64 0, .slice none 0 0, .slice none 0 0, .slice qa n qc]
def okX (x : Sp) : Prop := (-1099511627776 ≤ x.1 ∧ x.1 ≤ 1099511627776) ∧ (0 ≤ x.2.1 ∧ x.2.1 ≤ 1099511627776)
instance (x : Sp) : Decidable (okX x) := by unfold okX; infer_instance
def sE (p : Option Int) (x : Sp) : Int := if okX x then (match p with | none => 0 | some q => if x.1 ≤ q then 31 else 0) else 1
def wE : Option Int → List Sp → Int
  | _, [] => 0
  | p, x :: xs => if sE p x = 0 then wE (some x.1) xs else sE p x
def prevP (xs : List Sp) : Nat → Option Int
  | 0 => none
  | i + 1 => (xs[i]?).map (·.1)
def trE (id sc : Int) (xs : List Sp) : Int := if (1 ≤ id ∧ id ≤ 1000) ∧ (1 ≤ sc ∧ sc ≤ 1000000) then (if 400 < xs.length then 2 else wE none xs) else 1
theorem n65536 : ((65536 : Int) < ((4 : Nat) : Int)) = False := by simp
theorem n4 : ((4 : Int) < ((0 : Nat) : Int)) = False := by simp
theorem n1000 : ((1000 : Int) < ((2 : Nat) : Int)) = False := by simp
theorem n20 : ((20 : Int) < ((0 : Nat) : Int)) = False := by simp
theorem n8 : ((8 : Int) < ((0 : Nat) : Int)) = False := by simp
theorem rd_new2 {h : Hp} {o o' : Ob} {i : Nat} : ((h.new o).new o').rd h.size i = o.cs[i]? := by
  rw [rd_keep (get_new (Nat.lt_succ_self _)), rnew]
def CR := And.intro @rd_new2 <| And.intro @n65536 <| And.intro @n4 <| And.intro @n1000 <| And.intro @n20 @n8
theorem c_chkS {h : Hp} {id sc : Int} {sa qa : Option Addr} {n qc i b : Nat} {xs : List Sp} {qr : List Value} {x : Sp} (rd : Rd h 6 qa n qr) (row : AKd.Row (SpA h) xs qr) (hl : xs.length = n) (hi : xs[i]? = some x) (hn : n ≤ 1000000) :
    ACalls Try.prog 51 [.agg (trC id sc sa qa n qc).toArray, .int .i64 i, .agg (spC x b).toArray] h fun v h' => v = .int .i64 (sE (prevP xs i) x) ∧ Fm No h h' := by
  refine model_checkSample_ok.snd hm rfl fun w => ?_
  rw [WF_eq, model_checkSample, trC, spC]
  have hin : i < n := by have := (List.getElem?_eq_some_iff.1 hi).1; omega
  simp +contextual (disch := omega) only [↓AM, ↓AV, AP, CQ, i64]
  refine c_tick.use ?_
  rintro _ _ w1 ⟨rfl, rfl⟩
  have fm : Fm No h ((h.new ⟨trC id sc sa qa n qc, .own⟩).new ⟨spC x b, .own⟩) := Fm.new (Fm.new Fm.refl)
  by_cases h1 : -1099511627776 ≤ x.1 ∧ x.1 ≤ 1099511627776
  case neg =>
    simp +contextual (disch := omega) only [↓AM, ↓AV, AP, CQ, i64, h1]
    exact ⟨by simp [sE, okX, h1], fm⟩
  simp +contextual (disch := omega) only [↓AM, ↓AV, AP, CQ, i64, h1]
  refine c_tick.use ?_
  rintro _ _ w1 ⟨rfl, rfl⟩
  simp +contextual (disch := omega) only [↓AM, ↓AV, AP, CQ, i64, h1]
  refine c_mwithin.use ?_
  rintro _ _ w1 ⟨rfl, rfl⟩
  by_cases h2 : 0 ≤ x.2.1 ∧ x.2.1 ≤ 1099511627776
  case neg =>
    simp +contextual (disch := omega) only [↓AM, ↓AV, AP, CQ, i64, h2]
    exact ⟨by simp [sE, okX, h2], fm⟩
  have hok : okX x := ⟨h1, h2⟩
  cases i with
  | zero =>
    have e0 : ((0 : Int) < (((0 : Nat) : Int))) = False := by simp
    simp +contextual (disch := omega) only [↓AM, ↓AV, AP, CQ, CR, i64, h2, e0]
    refine WL.mk (fun k t h' => h' = (h.new ⟨trC id sc sa qa n qc, .own⟩).new ⟨spC x b, .own⟩ ∧ t = [(1, some (.int .i64 ((0 : Nat) : Int))), (7, some (.int .i64 (-1))), (63, some (.slice none 0 0)), (64, some (.int .i64 ((0 : Nat) : Int))), (65, some (.int .i64 0))])
      ⟨0, rfl, rfl⟩ ?_
    rintro k t _ ⟨rfl, rfl⟩
    simp +contextual (disch := omega) only [↓AM, ↓AV, AP, CQ, CR, i64, e0]
    exact ⟨by simp [sE, hok, prevP], fm⟩
  | succ i =>
    obtain ⟨b1, o1, s1, y, c, rfl, f1, hy, ⟨b2, rfl, g2⟩, r1, r2⟩ := row_el (A := SpA h) (fun x cs a => a.len) (rd.keepW w fm (fun _ _ f => f)) row hl (i := i) (by omega)
    have e0 : ((0 : Int) < ((((i + 1 : Nat)) : Int))) = True := by simp
    have hr := r2 0 (.int .i64 y.1) rfl
    simp only [trC, spC, Nat.add_zero] at hr
    have hp : prevP xs (i + 1) = some y.1 := by simp [prevP, hy]
    by_cases h3 : x.1 ≤ y.1
    · simp +contextual (disch := omega) only [↓AM, ↓AV, AP, CQ, CR, i64, h2, e0, f1, hr, h3]
      exact ⟨by omega, by simp [sE, hok, hp, h3], fm⟩
    · simp +contextual (disch := omega) only [↓AM, ↓AV, AP, CQ, CR, i64, h2, e0, f1, hr, h3]
      refine ⟨by omega, ?_⟩
      refine WL.mk (fun k t h' => h' = (h.new ⟨trC id sc sa (some ⟨b1, o1, s1⟩) n qc, .own⟩).new ⟨spC x b, .own⟩ ∧ t = [(1, some (.int .i64 ((i + 1 : Nat) : Int))), (7, some (.int .i64 (-1))), (63, some (.slice none 0 0)), (64, some (.int .i64 ((0 : Nat) : Int))), (65, some (.int .i64 0))])
        ⟨0, rfl, rfl⟩ ?_
      rintro k t _ ⟨rfl, rfl⟩
      have e0 : ((0 : Int) < (((0 : Nat) : Int))) = False := by simp
      simp +contextual (disch := omega) only [↓AM, ↓AV, AP, CQ, CR, i64, e0]
      exact ⟨by simp [sE, hok, hp, h3], fm⟩
theorem c_rsmp {h : Hp} {i b : Nat} {x : Sp} {q : Int} {p : Option Int} (hp : p = if i = 0 then none else some q) (hn : i ≤ 1000000) :
    ACalls Try.prog 55 [.agg (spC x b).toArray, .int .i64 i, .int .i64 q] h fun v h' => v = .int .i64 (sE p x) ∧ Fm No h h' := by
  refine dioramaref03_sample_ok.snd hm rfl fun w => ?_
  rw [WF_eq, dioramaref03_sample, spC]
  simp +contextual (disch := omega) only [↓AM, ↓AV, AP, CQ, i64]
  refine c_in03.use ?_
  rintro _ _ w1 ⟨rfl, rfl⟩
  have fm : Fm No h (h.new ⟨spC x b, .own⟩) := Fm.new Fm.refl
  by_cases h1 : -1099511627776 ≤ x.1 ∧ x.1 ≤ 1099511627776
  case neg =>
    simp +contextual (disch := omega) only [↓AM, ↓AV, AP, CQ, i64, h1]
    exact ⟨by simp [sE, okX, h1], fm⟩
  simp +contextual (disch := omega) only [↓AM, ↓AV, AP, CQ, i64, h1]
  refine c_in03.use ?_
  rintro _ _ w1 ⟨rfl, rfl⟩
  simp +contextual (disch := omega) only [↓AM, ↓AV, AP, CQ, i64, h1]
  refine c_in03.use ?_
  rintro _ _ w1 ⟨rfl, rfl⟩
  by_cases h2 : 0 ≤ x.2.1 ∧ x.2.1 ≤ 1099511627776
  case neg =>
    simp +contextual (disch := omega) only [↓AM, ↓AV, AP, CQ, i64, h2]
    exact ⟨by simp [sE, okX, h2], fm⟩
  have hok : okX x := ⟨h1, h2⟩
  have e00 : ((0 : Int) < (((0 : Nat) : Int))) = False := by simp
  have key : ∀ (e : (0 : Int) < (i : Int) → ¬ x.1 ≤ q), sE p x = 0 := by
    intro e
    by_cases h0 : i = 0
    · simp [sE, hok, hp, h0]
    · have := e (by omega)
      simp [sE, hok, hp, h0, this]
  by_cases h0 : (0 : Int) < (i : Int)
  · have hne : ¬ i = 0 := by omega
    by_cases h3 : x.1 ≤ q
    · simp +contextual (disch := omega) only [↓AM, ↓AV, AP, CQ, CR, i64, h2, h0, h3]
      exact ⟨by simp [sE, hok, hp, h3, hne], fm⟩
    · have key := key fun _ => h3
      simp +contextual (disch := omega) only [↓AM, ↓AV, AP, CQ, CR, i64, h2, h0, h3]
      refine WL.mk (fun k t h' => h' = h.new ⟨spC x b, .own⟩ ∧ t = [(1, some (.int .i64 (i : Int))), (3, some (.pointer (some ⟨h.size, 0, none⟩))), (7, some (.int .i64 0))])
        ⟨0, rfl, rfl⟩ ?_
      rintro k t _ ⟨rfl, rfl⟩
      simp +contextual (disch := omega) only [↓AM, ↓AV, AP, CQ, CR, i64, e00, spC]
      exact ⟨by rw [key], fm⟩
  · have key := key fun e => absurd e h0
    simp +contextual (disch := omega) only [↓AM, ↓AV, AP, CQ, CR, i64, h2, h0]
    refine WL.mk (fun k t h' => h' = h.new ⟨spC x b, .own⟩ ∧ t = [(1, some (.int .i64 (i : Int))), (3, some (.pointer (some ⟨h.size, 0, none⟩))), (7, some (.int .i64 0))])
      ⟨0, rfl, rfl⟩ ?_
    rintro k t _ ⟨rfl, rfl⟩
    simp +contextual (disch := omega) only [↓AM, ↓AV, AP, CQ, CR, i64, e00, spC]
    exact ⟨by rw [key], fm⟩
end Go.Proofs.Ytnibipabfdalcaa.Md
