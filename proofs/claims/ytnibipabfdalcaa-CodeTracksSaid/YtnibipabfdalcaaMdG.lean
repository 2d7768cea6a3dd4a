/- Tracks of codes compared. Plain theorems over the abstract machine.
   Conditions: none. -/
import Derived.Test.YtnibipabfdalcaaMdF
namespace Go.Proofs.Ytnibipabfdalcaa.Md
open Go Go.RowKit Go.Proofs.Ytnibipabfdalcaa.Am Go.Proofs.Ytnibipabfdalcaa.Af
set_option linter.unusedVariables false
set_option linter.unusedSimpArgs false
set_option linter.defProp false
set_option maxRecDepth 20000
set_option maxHeartbeats 2000000

theorem c_EqBytes {h : Hp} {a b : Option Addr} {n m c d : Nat} {xs ys : List Int} (ha : Rd h 1 a n (xs.map (Value.int .u8))) (hb : Rd h 1 b m (ys.map (Value.int .u8))) (hn : n ≤ 140737488351232) :
    ACalls Try.prog 21 [.slice a n c, .slice b m d] h fun v h' => v = .bool (decide (xs = ys)) ∧ h' = h := by
  refine dioramaref00_EqBytes_ok.snd hm rfl fun w => ?_
  rw [WF_eq, dioramaref00_EqBytes]
  simp +contextual only [↓AM, ↓AV, AP]
  have la := ha.ilen
  have lb := hb.ilen
  refine ⟨fun hne => ?_, fun hm => ?_⟩
  · simp [EqI] at hne ⊢
    intro e; subst e; omega
  have hm := eqI_n hm
  subst hm
  refine WL.mk (fun k t h' => h' = h ∧ ∃ i : Nat, i ≤ n ∧ k = n - i ∧ xs.take i = ys.take i ∧ t = [(0, some (.slice a n c)), (1, some (.slice b n d)), (5, some (.int .i64 i))]) ⟨n, rfl, 0, by simp, rfl, rfl, rfl⟩ ?_
  rintro k t _ ⟨rfl, i, hi, rfl, heq, rfl⟩
  by_cases hin : i < n
  · obtain ⟨b1, o1, s1, rfl, f1, u, hu, r1⟩ := ha.int hin
    obtain ⟨b2, o2, s2, rfl, f2, v, hv, r2⟩ := hb.int hin
    simp +contextual only [↓AM, ↓AV, AP, f1, f2, r1, r2, hin]
    refine ⟨fun hne => ?_, fun he => ?_⟩
    · simp
      intro e; subst e; rw [hu] at hv; cases hv; exact hne rfl
    · refine ⟨_, ?_, i + 1, hin, rfl, ?_, ?_⟩
      · omega
      · rw [List.take_add_one, List.take_add_one, heq, hu, hv, show u = v from he]
      · rw [i64 (by omega)]; rfl
  · simp +contextual only [↓AM, ↓AV, AP, hin]
    rw [List.take_of_length_le (by omega), List.take_of_length_le (by omega)] at heq
    simp [heq]
theorem btt : (true == true) = true := rfl
theorem s_neq {s : ByteArray} {K : Value → Prop} : strBin .neq s s K = K (.bool false) := by simp [strBin]
def eqTab : List (Nat × AF) := [(22, dioramaref00_EqEdits), (23, dioramaref00_EqRefs), (93, dioramaref00_EqInts)]
theorem eqTab_ok : TabL Try.prog eqTab := ⟨dioramaref00_EqEdits_ok, dioramaref00_EqRefs_ok, dioramaref00_EqInts_ok, trivial⟩
theorem c_e1 {h : Hp} : ACalls Try.prog 22 [.slice none 0 0, .slice none 0 0] h fun v h' => v = .bool true ∧ h' = h :=
  xCall_ok hm eqTab_ok.tab (n := 200) (by kernel_rfl) rfl rfl h
theorem c_e2 {h : Hp} : ACalls Try.prog 23 [.slice none 0 0, .slice none 0 0] h fun v h' => v = .bool true ∧ h' = h :=
  xCall_ok hm eqTab_ok.tab (n := 200) (by kernel_rfl) rfl rfl h
theorem c_e3 {h : Hp} : ACalls Try.prog 93 [.slice none 0 0, .slice none 0 0] h fun v h' => v = .bool true ∧ h' = h :=
  xCall_ok hm eqTab_ok.tab (n := 200) (by kernel_rfl) rfl rfl h
theorem rd4 {h : Hp} {b : Nat} {n : Int} (g : h.get b = some ⟨(dataN n).map (Value.int .u8), .own⟩) : Rd h 1 (some ⟨b, 0, none⟩) 4 ((dataN n).map (Value.int .u8)) := Rd.of rfl (rdN_mk g (Nat.le_refl 4))
theorem c_eqSmp {h : Hp} {x : Sp} {b1 b2 : Nat} (g1 : h.get b1 = some ⟨(dataN x.2.2).map (Value.int .u8), .own⟩) (g2 : h.get b2 = some ⟨(dataN x.2.2).map (Value.int .u8), .own⟩) :
    ACalls Try.prog 56 [.agg (spC x b1).toArray, .agg (spC x b2).toArray] h fun v h' => v = .bool true ∧ Fm No h h' := by
  refine dioramaref00_EqSample_ok.snd hm rfl fun w => ?_
  rw [WF_eq, dioramaref00_EqSample, spC, spC]
  simp +contextual (disch := omega) only [↓AM, ↓AV, AP, CQ, CR, eqI_self, rd_new2, btt]
  refine c_e3.use ?_
  rintro _ _ w1 ⟨rfl, rfl⟩
  simp +contextual (disch := omega) only [↓AM, ↓AV, AP, CQ, CR, eqI_self, rd_new2, btt]
  refine (c_EqBytes (xs := dataN x.2.2) (ys := dataN x.2.2) (rd4 ?_) (rd4 ?_) (by omega)).use ?_
  · exact (get_new (Nat.lt_succ_of_lt (w.lt g1))).trans ((get_new (w.lt g1)).trans g1)
  · exact (get_new (Nat.lt_succ_of_lt (w.lt g2))).trans ((get_new (w.lt g2)).trans g2)
  rintro _ _ w1 ⟨rfl, rfl⟩
  simp +contextual (disch := omega) only [↓AM, ↓AV, AP, CQ, CR]
  exact Fm.new (Fm.new Fm.refl)
theorem c_eqSmps {h : Hp} {a b : Option Addr} {n c d : Nat} {xs : List Sp} {qr qs : List Value} (ra : Rd h 6 a n qr) (rb : Rd h 6 b n qs) (wa : AKd.Row (SpA h) xs qr) (wb : AKd.Row (SpA h) xs qs) (hl : xs.length = n) (hn : n ≤ 1000000) :
    ACalls Try.prog 24 [.slice a n c, .slice b n d] h fun v h' => v = .bool true ∧ Fm No h h' := by
  refine dioramaref00_EqSamples_ok.snd hm rfl fun w => ?_
  rw [WF_eq, dioramaref00_EqSamples]
  simp +contextual (disch := omega) only [↓AM, ↓AV, AP, CQ, CR, eqI_self]
  refine WL.mk (fun k t h' => Wf h' ∧ Fm No h h' ∧ ∃ i : Nat, i ≤ n ∧ k = n - i ∧ t = [(0, some (.slice a n c)), (1, some (.slice b n d)), (5, some (.int .i64 i))]) ⟨n, w, Fm.refl, 0, by simp, rfl, rfl⟩ ?_
  rintro k t hL ⟨wL, fm, i, hi, rfl, rfl⟩
  by_cases hin : i < n
  · obtain ⟨b1, o1, s1, y, c1, rfl, f1, hy, ⟨d1, rfl, g1⟩, r1, -⟩ := row_el (A := SpA h) (fun x cs a => a.len) (ra.keepW w fm nNo) wa hl hin
    obtain ⟨b2, o2, s2, y2, c2, rfl, f2, hy2, ⟨d2, rfl, g2⟩, r2, -⟩ := row_el (A := SpA h) (fun x cs a => a.len) (rb.keepW w fm nNo) wb hl hin
    rw [hy] at hy2
    cases hy2
    simp +contextual (disch := omega) only [↓AM, ↓AV, AP, CQ, CR, hin, f1, f2, r1, r2]
    refine (c_eqSmp (fm.keep w g1 (fun f => f)) (fm.keep w g2 (fun f => f))).use ?_
    rintro _ h3 w3 ⟨rfl, fm3⟩
    simp +contextual (disch := omega) only [↓AM, ↓AV, AP, CQ, CR, i64]
    exact ⟨_, by omega, w3, fm.trans fm3 fun _ _ f => f, i + 1, by omega, rfl, rfl⟩
  · simp +contextual (disch := omega) only [↓AM, ↓AV, AP, CQ, CR, hin]
    exact fm
def gC (id k : Int) (cd : ByteArray) (sc : Int) (sa : Option Addr) (m mc : Nat) (lg : ByteArray) (qa : Option Addr) (n qc : Nat) : List Value :=
  [.int .i64 id, .int .i64 k, .string cd, .int .i64 sc, .slice sa m mc, .string lg, .string ⟨#[]⟩, .int .i64 0, .slice none 0 0, .slice none 0 0, .slice qa n qc]
theorem c_EqTrack {h : Hp} {id k sc : Int} {cd lg : ByteArray} {sa sb qa qb : Option Addr} {m mc md n qc qd : Nat} {S : List Int} {xs : List Sp} {qr qs : List Value} (ra : Rd h 6 qa n qr) (rb : Rd h 6 qb n qs) (wa : AKd.Row (SpA h) xs qr) (wb : AKd.Row (SpA h) xs qs) (hl : xs.length = n) (hn : n ≤ 1000000)
    (ta : Rd h 1 sa m (S.map (Value.int .u8))) (tb : Rd h 1 sb m (S.map (Value.int .u8))) (hm0 : m ≤ 1000000) :
    ACalls Try.prog 9 [.agg (gC id k cd sc sa m mc lg qa n qc).toArray, .agg (gC id k cd sc sb m md lg qb n qd).toArray] h fun v h' => v = .bool true ∧ Fm No h h' := by
  refine dioramaref00_EqTrack_ok.snd hm rfl fun w => ?_
  rw [WF_eq, dioramaref00_EqTrack, gC, gC]
  simp (maxSteps := 1000000) +contextual (disch := omega) only [↓AM, ↓AV, AP, CQ, CR, eqI_self, rd_new2, btt, ↓s_neq]
  have fm2 : Fm No h ((h.new ⟨gC id k cd sc sa m mc lg qa n qc, .own⟩).new ⟨gC id k cd sc sb m md lg qb n qd, .own⟩) := Fm.new (Fm.new Fm.refl)
  have w2 : Wf ((h.new ⟨gC id k cd sc sa m mc lg qa n qc, .own⟩).new ⟨gC id k cd sc sb m md lg qb n qd, .own⟩) := w.new.new
  simp only [gC] at fm2 w2
  refine (c_EqBytes (ta.keepW w fm2 nNo) (tb.keepW w fm2 nNo) (by omega)).use ?_
  rintro _ _ w1 ⟨rfl, rfl⟩
  simp (maxSteps := 1000000) +contextual (disch := omega) only [↓AM, ↓AV, AP, CQ, CR, eqI_self, rd_new2, btt, ↓s_neq]
  refine c_e1.use ?_
  rintro _ _ w1 ⟨rfl, rfl⟩
  simp (maxSteps := 1000000) +contextual (disch := omega) only [↓AM, ↓AV, AP, CQ, CR, eqI_self, rd_new2, btt, ↓s_neq]
  refine c_e2.use ?_
  rintro _ _ w1 ⟨rfl, rfl⟩
  simp (maxSteps := 1000000) +contextual (disch := omega) only [↓AM, ↓AV, AP, CQ, CR, eqI_self, rd_new2, btt, ↓s_neq]
  refine (c_eqSmps (ra.keepW w fm2 nNo) (rb.keepW w fm2 nNo) (wa.mono fun x cs a => a.ex (fm2.exF w nNo)) (wb.mono fun x cs a => a.ex (fm2.exF w nNo)) hl hn).use ?_
  rintro _ h3 w3 ⟨rfl, fm3⟩
  simp (maxSteps := 1000000) +contextual (disch := omega) only [↓AM, ↓AV, AP, CQ, CR]
  exact fm2.trans fm3 fun _ _ f => f
end Go.Proofs.Ytnibipabfdalcaa.Md
