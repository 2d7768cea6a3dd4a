/- The chapter's example, carried out; the encoder's making and its bytes. Plain theorems over the abstract machine.
   Conditions: none. -/
import Derived.Test.YtholkooikmbamaaArC
namespace Go.Proofs.Ytholkooikmbamaa.Ar
open Go Go.RowKit Go.Proofs.Ytholkooikmbamaa.Am Go.Proofs.Ytholkooikmbamaa.Af
set_option linter.unusedVariables false
set_option linter.unusedSimpArgs false
set_option maxRecDepth 20000

def awakeTab : List (Nat × AF) := [(10, arith_NewEncoder), (11, arith_Encoder__Bit), (12, arith_Encoder__Close), (13, dioramalaw13_awake), (22, dioramaref00_EqBytes), (44, arith_Encoder__usable), (45, arith_Encoder__ready), (46, arith_Encoder__put), (47, arith_step), (48, slices_Clone___byte_byte_), (53, arith_isState), (61, slices_ContainsFunc___int_int_), (68, arith_Encoder__ready_1), (69, arith_carry), (78, slices_IndexFunc___int_int_)]
theorem awakeTab_ok : TabL Try.prog awakeTab := ⟨arith_NewEncoder_ok, arith_Encoder__Bit_ok, arith_Encoder__Close_ok, dioramalaw13_awake_ok, dioramaref00_EqBytes_ok, arith_Encoder__usable_ok, arith_Encoder__ready_ok, arith_Encoder__put_ok, arith_step_ok, slices_Clone___byte_byte__ok, arith_isState_ok, slices_ContainsFunc___int_int__ok, arith_Encoder__ready_1_ok, arith_carry_ok, slices_IndexFunc___int_int__ok, trivial⟩
theorem awake_runs : xIs (xCall (tabOf awakeTab) 200 13 []) (.bool true) = true := by kernel_rfl
theorem c_awake {h : Hp} : ACalls Try.prog 13 [] h fun v h' => v = .bool true ∧ h' = h :=
  xCall_ok hm awakeTab_ok.tab awake_runs rfl rfl h
theorem c_NewEncoder {h : Hp} : ACalls Try.prog 10 [] h fun v h' => v = .pointer (some ⟨h.size, 0, none⟩) ∧ EncAt .u64 h' h.size none new ∧ Fm No h h' ∧ h.size < h'.size := by
  refine arith_NewEncoder_ok.snd hm rfl fun w => ?_
  rw [WF_eq, arith_NewEncoder]
  simp +contextual only [↓AM, ↓AV, AP]
  exact ⟨⟨0, 0, gnew, Ow.mk0, At.none⟩, Fm.new Fm.refl, Nat.lt_succ_self _⟩
theorem c_Clone {h : Hp} {a : Option Addr} {n c : Nat} {xs : List Int} (ha : Rd h 1 a n (xs.map (Value.int .u8))) (hn : n ≤ 140737488351232) (hc : a = none → c = 0) :
    ACalls Try.prog 48 [.slice a n c] h fun v h' => ∃ oa cap, v = .slice oa n cap ∧ Ow h' 1 oa n cap (xs.map (Value.int .u8)) ∧ Nw h oa ∧ Fm No h h' := by
  refine slices_Clone___byte_byte__ok.snd hm rfl fun w => ?_
  rw [WF_eq, slices_Clone___byte_byte_]
  have la := ha.ilen
  rcases a with _ | a
  · have := ha.nil rfl
    subst this
    have hc := hc rfl
    subst hc
    have : xs = [] := List.length_eq_zero_iff.1 la
    subst this
    simp +contextual only [↓AM, ↓AV, AP, isNilV, Option.isNone]
    exact ⟨_, _, rfl, Ow.mk0, Nw.none, Fm.refl⟩
  · simp +contextual only [↓AM, ↓AV, AP, isNilV, Option.isNone]
    have fm : Fm No h (h.new ⟨[], .own⟩) := Fm.new Fm.refl
    have ha' := ha.keep w fm (fun _ _ => id)
    simp +contextual only [↓AM, ↓AV, AP, ha'.src]
    have ow : Ow (h.new ⟨[], .own⟩) 1 (some ⟨h.size, 0, none⟩) 0 0 [] := Ow.new (n := 0) (m := 0) rfl (Nat.le_refl _)
    have key := fun K tg k => ow.add (bytes := 1) (m := n) (xs := xs.map (Value.int .u8)) (K := K) (tg := tg) w.new (by simp [la]) (by omega) k
    refine key _ _ fun oa' cap' h' o' w' f' n' => ?_
    try simp +contextual only [↓AM, ↓AV, AP]
    obtain ⟨g1, g2⟩ := grown fm (Nw.new Fm.refl) f' n'
    try simp +contextual only [↓AM, ↓AV, AP]
    rw [Nat.zero_add] at o'
    try simp only [Nat.zero_add]
    exact ⟨_, _, rfl, o', g2, g1⟩
theorem c_Close {h : Hp} {b : Nat} {oa : Option Addr} {e : En} (he : EncAt .u64 h b oa e) (g : Fit e) :
    ACalls Try.prog 12 [.pointer (some ⟨b, 0, none⟩)] h fun v h' => ∃ oa n cap, v = .slice oa n cap ∧ Ow h' 1 oa n cap ((closed e).map (Value.int .u8)) ∧ Nw h oa ∧ Fm No h h' := by
  refine arith_Encoder__Close_ok.snd hm rfl fun w => ?_
  rw [WF_eq, arith_Encoder__Close]
  simp +contextual only [↓AM, ↓AV, AP]
  refine (c_usable he g.toGd).use ?_
  rintro _ h w1 ⟨rfl, rfl⟩
  obtain ⟨ln, cap, hg, ow, hna⟩ := he
  have la := ow.rd.ilen
  have hlen := g.short
  have hlo := g.low
  simp +contextual only [↓AM, ↓AV, AP, rd_mk hg]
  refine (c_Clone ow.rd (by omega) ow.nil).use ?_
  rintro _ h1 w2 ⟨oa1, cap1, rfl, ow1, nw, fm⟩
  have hg1 := fm.keep w hg id
  have e24 : IntKind.u8.wrap (e.low.fdiv (2 ^ min 24 IntKind.u64.bits)) = e.low / 16777216 := by
    rw [show min 24 IntKind.u64.bits = 24 from rfl, shr_u (by omega)]; exact u8 (by omega)
  have e16 : IntKind.u8.wrap (e.low.fdiv (2 ^ min 16 IntKind.u64.bits)) = e.low / 65536 % 256 := by
    rw [show min 16 IntKind.u64.bits = 16 from rfl, shr_u (by omega), IntKind.wrap_u8]; rfl
  have e8 : IntKind.u8.wrap (e.low.fdiv (2 ^ min 8 IntKind.u64.bits)) = e.low / 256 % 256 := by
    rw [show min 8 IntKind.u64.bits = 8 from rfl, shr_u (by omega), IntKind.wrap_u8]; rfl
  have e0 : IntKind.u8.wrap e.low = e.low % 256 := IntKind.wrap_u8 _
  simp +contextual only [↓AM, ↓AV, AP, rd_mk hg1, src_new, e24, e16, e8, e0]
  refine ow1.push w2 rfl (by omega) fun oa2 c2 h2 ow2 w3 f2 n2 => ?_
  try simp +contextual only [↓AM, ↓AV, AP]
  obtain ⟨g1, g2⟩ := grown fm nw f2 n2
  try simp +contextual only [↓AM, ↓AV, AP]
  refine ⟨_, _, _, rfl, ?_, g2, g1⟩
  rw [closed, List.map_append]
  exact ow2
end Go.Proofs.Ytholkooikmbamaa.Ar
