/- What an item needs: plain words, and the program's. Plain theorems over the abstract machine.
   Conditions: none. -/
import Derived.Test.YtmkcngcnedjfkaaGreatBun4
import Derived.DataShut
namespace Go.Proofs.YtmkcngcnedjfkaaGreat.Is
open Go Go.RowKit Go.Proofs.YtmkcngcnedjfkaaGreat.Am Go.Proofs.YtmkcngcnedjfkaaGreat.Af Go.Proofs.YtmkcngcnedjfkaaGreat.Md Go.Proofs.YtmkcngcnedjfkaaGreat.It
set_option linter.unusedVariables false
set_option linter.unusedSimpArgs false
set_option linter.defProp false
set_option maxRecDepth 20000
set_option maxHeartbeats 4000000

theorem firstI_some {f : Nat → Item → Option Int} : ∀ {ls : List Item} {n : Nat} {e : Int × Int}, firstI f n ls = some e → ∃ j x, f j x = some e.1
  | [], n, e, h => by cases h
  | y :: ys, n, e, h => by
    unfold firstI at h
    split at h
    · rename_i e' he
      cases h
      exact ⟨_, _, he⟩
    · exact firstI_some h
theorem firstI_non {f : Nat → Item → Option Int} : ∀ {ls : List Item} {n : Nat}, firstI f n ls = none → ∀ j y, ls[j]? = some y → f (n + j) y = none
  | [], n, _, j, y, h => by simp at h
  | x :: xs, n, h, j, y, hy => by
    unfold firstI at h
    split at h
    · cases h
    · rename_i he
      cases j with
      | zero => simp at hy; subst hy; exact he
      | succ j =>
        have := firstI_non h j y (by simpa using hy)
        rwa [show n + 1 + j = n + (j + 1) by omega] at this
theorem f1_val {n : Nat} {x : Item} {e : Int} (h : f1 n x = some e) : e ≠ 0 := by
  unfold f1 at h
  split at h
  · split at h
    · cases h
    · cases h; decide
  · cases h; decide
theorem f2_val {ls : List Item} {n : Nat} {x : Item} {e : Int} (h : f2 ls n x = some e) : e ≠ 0 := by
  unfold f2 at h
  split at h
  · split at h
    · cases h; decide
    · cases h
  · cases h; decide
theorem f3_val {ls : List Item} {n : Nat} {x : Item} {e : Int} (h : f3 ls n x = some e) : e ≠ 0 := by
  unfold f3 at h
  split at h
  · cases h; decide
  · cases h
theorem chk_ok {ls : List Item} (h : (chkI ls).1 = 0) : ls.length ≤ 12 ∧ Okn ls ∧ ∀ i, i < ls.length → ¬ Rch ls i i := by
  by_cases hl : 12 < (ls.length : Int)
  · rw [chk_0 hl] at h; cases h
  cases h1 : firstI f1 0 ls with
  | some e =>
    rw [chk_1 hl h1] at h
    obtain ⟨j, x, hx⟩ := firstI_some h1
    exact absurd h (f1_val hx)
  | none =>
    cases h2 : firstI (f2 ls) 0 ls with
    | some e =>
      rw [chk_2 hl h1 h2] at h
      obtain ⟨j, x, hx⟩ := firstI_some h2
      exact absurd h (f2_val hx)
    | none =>
      cases h3 : firstI (f3 ls) 0 ls with
      | some e =>
        rw [chk_3 hl h1 h2 h3] at h
        obtain ⟨j, x, hx⟩ := firstI_some h3
        exact absurd h (f3_val hx)
      | none =>
        refine ⟨by omega, non_ok fun j _ y hy => ?_, no_loop fun j _ y hy => ?_⟩
        · have := firstI_non h2 j y hy; rwa [Nat.zero_add] at this
        · have := firstI_non h3 j y hy; rwa [Nat.zero_add] at this
theorem Rch.lt {ls : List Item} {k n : Nat} (h : Rch ls k n) : n < ls.length := by
  induction h with
  | one e => exact nx_lt e
  | step _ _ ih => exact ih
noncomputable def needE (ls : List Item) (id : Int) : Int := if (chkI ls).1 = 0 then (if fI ls id < 0 then 5 else 0) else (chkI ls).1
def idAt (ls : List Item) (k : Nat) : Int := match ls[k]? with
  | some x => x.id
  | none => 0
noncomputable def needR (ls : List Item) (id : Int) : List Int := if needE ls id = 0 then (ordr ls (fI ls id).toNat).map (idAt ls) else []
theorem needE_0 {ls : List Item} {id : Int} : needE ls id = 0 ↔ (chkI ls).1 = 0 ∧ 0 ≤ fI ls id := by
  unfold needE
  by_cases h : (chkI ls).1 = 0
  · rw [if_pos h]
    by_cases h2 : fI ls id < 0
    · rw [if_pos h2]; exact ⟨fun q => absurd q (by decide), fun q => by omega⟩
    · rw [if_neg h2]; exact ⟨fun _ => ⟨h, by omega⟩, fun _ => rfl⟩
  · rw [if_neg h]; exact ⟨fun q => absurd q h, fun q => absurd q.1 h⟩
theorem ordr_lt {ls : List Item} (ok : Okn ls) {i : Nat} (hi : i < ls.length) : ∀ k ∈ ordr ls i, k < ls.length := fun k hk => by
  rcases vis_mem ok _ _ _ _ hk with h | h | h
  · cases h
  · subst h; exact hi
  · exact h.lt
theorem ordr_len {ls : List Item} (ok : Okn ls) (hno : ∀ i, i < ls.length → ¬ Rch ls i i) {i : Nat} (hi : i < ls.length) : (ordr ls i).length ≤ ls.length :=
  (vis_fits ok hno _ i [] hi (Fits.nil _)).len
theorem c_ready {h : Hp} {ls : List Item} {oa : Option Addr} {c : Nat} {id : Int} (r : RL h oa ls) (hz : SL ls) :
    ACalls Tryz.prog 63 [.slice oa ls.length c, .int .i64 id] h fun v h' => (∃ i : Int, v = .tuple #[.int .i64 i, .int .i64 (needE ls id)] ∧ (needE ls id = 0 → i = fI ls id)) ∧ Fm No h h' := by
  refine item_ready_ok.snd Af.hm rfl fun w => ?_
  rw [WF_eq, item_ready]
  simp +contextual (disch := omega) only [↓AM, ↓AV, AP, CQ]
  refine (c_ICheck r hz).use ?_
  rintro _ h1 w1 ⟨rfl, f1⟩
  by_cases hc : (chkI ls).1 = 0
  case neg =>
    simp +contextual (disch := omega) only [↓AM, ↓AV, AP, CQ, EqI, hc]
    have he : needE ls id = (chkI ls).1 := if_neg hc
    exact ⟨⟨0, by rw [he], fun q => absurd (he ▸ q) hc⟩, f1⟩
  simp +contextual (disch := omega) only [↓AM, ↓AV, AP, CQ, EqI, It.eqI_self, hc]
  refine (c_find (r.keep w f1) hz.1).use ?_
  rintro _ h2 w2 ⟨rfl, f2⟩
  have f02 := f1.trans f2 fun _ _ x => x
  by_cases hf : fI ls id < 0
  · simp +contextual (disch := omega) only [↓AM, ↓AV, AP, CQ, hf]
    have he : needE ls id = 5 := by unfold needE; rw [if_pos hc, if_pos hf]
    exact ⟨⟨0, by rw [he], fun q => by rw [he] at q; cases q⟩, f02⟩
  · simp +contextual (disch := omega) only [↓AM, ↓AV, AP, CQ, hf]
    have he : needE ls id = 0 := by unfold needE; rw [if_pos hc, if_neg hf]
    exact ⟨⟨_, by rw [he], fun _ => rfl⟩, f02⟩
end Go.Proofs.YtmkcngcnedjfkaaGreat.Is

/- What an item needs, the program's and the document's. Plain theorems over the abstract machine.
   Conditions: none. -/
namespace Go.Proofs.YtmkcngcnedjfkaaGreat.Is
open Go Go.RowKit Go.Proofs.YtmkcngcnedjfkaaGreat.Am Go.Proofs.YtmkcngcnedjfkaaGreat.Af Go.Proofs.YtmkcngcnedjfkaaGreat.Md Go.Proofs.YtmkcngcnedjfkaaGreat.It
set_option linter.unusedVariables false
set_option linter.unusedSimpArgs false
set_option linter.defProp false
set_option maxRecDepth 20000
set_option maxHeartbeats 4000000

theorem ids_S {ls : List Item} {V : List Nat} {j k : Nat} {x : Item} (h : V[j]? = some k) (hx : ls[k]? = some x) : iV ((V.take (j + 1)).map (idAt ls)) = iV ((V.take j).map (idAt ls)) ++ [.int .i64 x.id] := by
  rw [List.take_add_one, h]
  simp [iV, idAt, hx]
theorem c_INeeds {h : Hp} {ls : List Item} {oa : Option Addr} {c : Nat} {id : Int} (r : RL h oa ls) (hz : SL ls) :
    ACalls Tryz.prog 21 [.slice oa ls.length c, .int .i64 id] h fun v h' => (∃ o8 c8, v = .tuple #[.slice o8 (needR ls id).length c8, .int .i64 (needE ls id)] ∧ Rd h' 1 o8 (needR ls id).length (iV (needR ls id))) ∧ Fm No h h' := by
  refine item_Needs_ok.snd Af.hm rfl fun w => ?_
  rw [WF_eq, item_Needs]
  simp +contextual (disch := omega) only [↓AM, ↓AV, AP, CQ]
  refine (c_ready r hz).use ?_
  rintro _ h1 w1 ⟨⟨i0, rfl, hi0⟩, f1⟩
  by_cases he : needE ls id = 0
  case neg =>
    simp +contextual (disch := omega) only [↓AM, ↓AV, AP, CQ, EqI, he]
    have hR : needR ls id = [] := if_neg he
    rw [hR]
    exact ⟨⟨none, 0, rfl, Rd.mk0⟩, f1⟩
  have hi := hi0 he
  subst hi
  obtain ⟨hc, hf⟩ := needE_0.1 he
  obtain ⟨hl12, ok, hno⟩ := chk_ok hc
  obtain ⟨i, hi⟩ : ∃ i : Nat, fI ls id = i := ⟨(fI ls id).toNat, by omega⟩
  have hil : i < ls.length := by have := (fI_lt (ls := ls) (id := id)).1; omega
  obtain ⟨V, hV⟩ : ∃ V, ordr ls i = V := ⟨_, rfl⟩
  have hR : needR ls id = V.map (idAt ls) := by unfold needR; rw [if_pos he, hi, Int.toNat_natCast, hV]
  have hVl : V.length ≤ ls.length := hV ▸ ordr_len ok hno hil
  have hVm : ∀ k ∈ V, k < ls.length := hV ▸ ordr_lt ok hil
  simp +contextual (disch := omega) only [↓AM, ↓AV, AP, CQ, EqI, It.eqI_self, he, hi]
  refine (c_order (c := c) (r.keep w f1) ok hno hz (by omega) hil).use ?_
  rintro _ h2 w2 ⟨⟨oq, cq, rfl, rq⟩, f2⟩
  rw [hV] at rq ⊢
  have f02 := f1.trans f2 fun _ _ x => x
  simp +contextual (disch := omega) only [↓AM, ↓AV, AP, CQ]
  refine WL.mk (fun m t h' => ∃ (j : Nat) (o8 : Option Addr) (c8 : Nat), Wf h' ∧ Fm No h2 h' ∧ Ow h' 1 o8 j c8 (iV ((V.take j).map (idAt ls))) ∧ (∀ y, At o8 y → h2.size ≤ y) ∧ j ≤ V.length ∧ m = V.length - j ∧
      t = [(0, some (.slice oa ls.length c)), (8, some (.slice o8 j c8)), (22, some (.slice oq V.length cq)), (23, some (.int .i64 (V.length : Int))), (24, some (.int .i64 (j : Int)))])
    ⟨V.length, 0, none, 0, w2, Fm.refl, Ow.mk0, fun y hy => absurd hy At.none, by omega, rfl, rfl⟩ ?_
  rintro m t h3 ⟨j, o8, c8, w3, f3, ow, no, hj, rfl, rfl⟩
  have f03 := f02.trans f3 fun _ _ x => x
  by_cases hjn : j < V.length
  · have rq3 := rq.keep w2 f3 (fun _ _ f => f)
    have rqz : Rd h3 1 oq (zl V).length (iV (zl V)) := by rw [zl_len]; exact rq3
    obtain ⟨b4, o4, s4, e4, f4, kv, hkv, r4⟩ := Rd.int rqz (i := j) (by rw [zl_len]; exact hjn)
    obtain ⟨k, hk⟩ : ∃ k, V[j]? = some k := ⟨_, List.getElem?_eq_getElem hjn⟩
    have hkz : kv = (k : Int) := by
      unfold zl at hkv
      rw [List.getElem?_map, hk] at hkv
      exact (Option.some.inj hkv).symm
    subst hkz
    have hkl := hVm k (List.mem_of_getElem? hk)
    obtain ⟨b, off, sp, p, x, rfl, fo, hx, hr, ri⟩ := (r.keep w f03).at hkl
    have q0 := rdN_get hr (i := 0) (v := .int .i64 x.id) rfl
    have q0' := q0
    simp only [Nat.add_zero] at q0'
    rw [e4]
    simp +contextual (disch := omega) only [↓AM, ↓AV, AP, CQ, hjn, f4, r4, hkl, fo, q0, q0']
    refine ow.push (bytes := 8) (m := 1) (xs := [.int .i64 x.id]) w3 rfl (by omega) fun oa' c' h5 o5 w5 f5 n5 => ?_
    have f25 : Fm No h2 h5 := f3.trans f5 fun z hz hy => by have := no z hy; omega
    simp +contextual (disch := omega) only [↓AM, ↓AV, AP, CQ, i64]
    refine ⟨V.length - (j + 1), by omega, j + 1, oa', c', w5, f25, by rw [ids_S hk hx]; exact o5, fun y hy => ?_, by omega, rfl, by rw [← e4]⟩
    rcases n5 y hy with q | q
    · exact no y q
    · have := f3.size; omega
  · have hje : j = V.length := by omega
    subst hje
    simp +contextual (disch := omega) only [↓AM, ↓AV, AP, CQ, hjn]
    rw [hR]
    rw [List.take_length] at ow
    exact ⟨⟨o8, c8, by rw [List.length_map, he], by rw [List.length_map]; exact ow.rd⟩, f03⟩
end Go.Proofs.YtmkcngcnedjfkaaGreat.Is

/- What an item needs, the document's. Plain theorems over the abstract machine.
   Conditions: none. -/
namespace Go.Proofs.YtmkcngcnedjfkaaGreat.Is
open Go Go.RowKit Go.Proofs.YtmkcngcnedjfkaaGreat.Am Go.Proofs.YtmkcngcnedjfkaaGreat.Af Go.Proofs.YtmkcngcnedjfkaaGreat.Md Go.Proofs.YtmkcngcnedjfkaaGreat.It
set_option linter.unusedVariables false
set_option linter.unusedSimpArgs false
set_option linter.defProp false
set_option maxRecDepth 20000
set_option maxHeartbeats 4000000

theorem c_asked {h : Hp} {ls : List Item} {oa : Option Addr} {c : Nat} {id : Int} (r : RL h oa ls) (hz : SL ls) :
    ACalls Tryz.prog 65 [.slice oa ls.length c, .int .i64 id] h fun v h' => (∃ oq n cq, v = .tuple #[.slice oq n cq, .int .i64 (needE ls id)] ∧ (needE ls id = 0 → n = (ordr ls (fI ls id).toNat).length ∧ Rd h' 1 oq n (iV (zl (ordr ls (fI ls id).toNat))))) ∧ Fm No h h' := by
  refine dioramaref15_asked_ok.snd Af.hm rfl fun w => ?_
  rw [WF_eq, dioramaref15_asked]
  simp +contextual (disch := omega) only [↓AM, ↓AV, AP, CQ]
  refine (c_rICheck r hz).use ?_
  rintro _ h1 w1 ⟨rfl, f1⟩
  by_cases hc : (chkI ls).1 = 0
  case neg =>
    simp +contextual (disch := omega) only [↓AM, ↓AV, AP, CQ, EqI, hc]
    have he : needE ls id = (chkI ls).1 := if_neg hc
    exact ⟨⟨none, 0, 0, by rw [he], fun q => absurd (he ▸ q) hc⟩, f1⟩
  simp +contextual (disch := omega) only [↓AM, ↓AV, AP, CQ, EqI, It.eqI_self, hc]
  refine (c_rfind (c := c) (r.keep w f1) hz.1).use ?_
  rintro _ h9 _ ⟨rfl, e9⟩
  subst h9
  by_cases hf : fI ls id < 0
  · simp +contextual (disch := omega) only [↓AM, ↓AV, AP, CQ, hf]
    have he : needE ls id = 5 := by unfold needE; rw [if_pos hc, if_pos hf]
    exact ⟨⟨none, 0, 0, by rw [he], fun q => by rw [he] at q; cases q⟩, f1⟩
  have he : needE ls id = 0 := by unfold needE; rw [if_pos hc, if_neg hf]
  obtain ⟨hl12, ok, hno⟩ := chk_ok hc
  obtain ⟨i, hi⟩ : ∃ i : Nat, fI ls id = i := ⟨(fI ls id).toNat, by omega⟩
  have hil : i < ls.length := by have := (fI_lt (ls := ls) (id := id)).1; omega
  have hf' : ¬ (i : Int) < 0 := by omega
  simp +contextual (disch := omega) only [↓AM, ↓AV, AP, CQ, hf', hi]
  refine (c_visit (c := c) ok hno hz (by omega) (rk ls i + 1) i [] none 0 h1 (by omega) hil (Fits.nil _) (r.keep w f1) Rd.mk0).use ?_
  rintro _ h2 w2 ⟨⟨oq, cq, rfl, rq⟩, f2⟩
  simp +contextual (disch := omega) only [↓AM, ↓AV, AP, CQ]
  rw [hi, Int.toNat_natCast]
  exact ⟨⟨oq, _, cq, by rw [he]; rfl, fun _ => ⟨rfl, rq⟩⟩, f1.trans f2 fun _ _ x => x⟩
theorem c_rINeeds {h : Hp} {ls : List Item} {oa : Option Addr} {c : Nat} {id : Int} (r : RL h oa ls) (hz : SL ls) :
    ACalls Tryz.prog 22 [.slice oa ls.length c, .int .i64 id] h fun v h' => (∃ o8 c8, v = .tuple #[.slice o8 (needR ls id).length c8, .int .i64 (needE ls id)] ∧ Rd h' 1 o8 (needR ls id).length (iV (needR ls id))) ∧ Fm No h h' := by
  refine dioramaref15_Needs_ok.snd Af.hm rfl fun w => ?_
  rw [WF_eq, dioramaref15_Needs]
  simp +contextual (disch := omega) only [↓AM, ↓AV, AP, CQ]
  refine (c_asked r hz).use ?_
  rintro _ h2 w2 ⟨⟨oq, n, cq, rfl, hq⟩, f02⟩
  by_cases he : needE ls id = 0
  case neg =>
    simp +contextual (disch := omega) only [↓AM, ↓AV, AP, CQ, EqI, he]
    have hR : needR ls id = [] := if_neg he
    rw [hR]
    exact ⟨⟨none, 0, rfl, Rd.mk0⟩, f02⟩
  obtain ⟨hc, hf⟩ := needE_0.1 he
  obtain ⟨hl12, ok, hno⟩ := chk_ok hc
  obtain ⟨i, hi⟩ : ∃ i : Nat, fI ls id = i := ⟨(fI ls id).toNat, by omega⟩
  have hil : i < ls.length := by have := (fI_lt (ls := ls) (id := id)).1; omega
  obtain ⟨V, hV⟩ : ∃ V, ordr ls i = V := ⟨_, rfl⟩
  have hR : needR ls id = V.map (idAt ls) := by unfold needR; rw [if_pos he, hi, Int.toNat_natCast, hV]
  have hVl : V.length ≤ ls.length := hV ▸ ordr_len ok hno hil
  have hVm : ∀ k ∈ V, k < ls.length := hV ▸ ordr_lt ok hil
  obtain ⟨hnn, rq⟩ := hq he
  rw [hi, Int.toNat_natCast, hV] at rq hnn
  subst hnn
  simp +contextual (disch := omega) only [↓AM, ↓AV, AP, CQ, EqI, It.eqI_self, he]
  refine WL.mk (fun m t h' => ∃ (j : Nat) (o8 : Option Addr) (c8 : Nat), Wf h' ∧ Fm No h2 h' ∧ Ow h' 1 o8 j c8 (iV ((V.take j).map (idAt ls))) ∧ (∀ y, At o8 y → h2.size ≤ y) ∧ j ≤ V.length ∧ m = V.length - j ∧
      t = [(0, some (.slice oa ls.length c)), (6, some (.slice oq V.length cq)), (8, some (.slice o8 j c8)), (9, some (.int .i64 (j : Int)))])
    ⟨V.length, 0, none, 0, w2, Fm.refl, Ow.mk0, fun y hy => absurd hy At.none, by omega, rfl, rfl⟩ ?_
  rintro m t h3 ⟨j, o8, c8, w3, f3, ow, no, hj, rfl, rfl⟩
  have f03 := f02.trans f3 fun _ _ x => x
  by_cases hjn : j < V.length
  · have rq3 := rq.keep w2 f3 (fun _ _ f => f)
    have rqz : Rd h3 1 oq (zl V).length (iV (zl V)) := by rw [zl_len]; exact rq3
    obtain ⟨b4, o4, s4, e4, f4, kv, hkv, r4⟩ := Rd.int rqz (i := j) (by rw [zl_len]; exact hjn)
    obtain ⟨k, hk⟩ : ∃ k, V[j]? = some k := ⟨_, List.getElem?_eq_getElem hjn⟩
    have hkz : kv = (k : Int) := by
      unfold zl at hkv
      rw [List.getElem?_map, hk] at hkv
      exact (Option.some.inj hkv).symm
    subst hkz
    have hkl := hVm k (List.mem_of_getElem? hk)
    obtain ⟨b, off, sp, p, x, rfl, fo, hx, hr, ri⟩ := (r.keep w f03).at hkl
    have q0 := rdN_get hr (i := 0) (v := .int .i64 x.id) rfl
    have q0' := q0
    simp only [Nat.add_zero] at q0'
    rw [e4]
    simp +contextual (disch := omega) only [↓AM, ↓AV, AP, CQ, hjn, f4, r4, hkl, fo, q0, q0']
    refine ow.push (bytes := 8) (m := 1) (xs := [.int .i64 x.id]) w3 rfl (by omega) fun oa' c' h5 o5 w5 f5 n5 => ?_
    have f25 : Fm No h2 h5 := f3.trans f5 fun z hz hy => by have := no z hy; omega
    simp +contextual (disch := omega) only [↓AM, ↓AV, AP, CQ, i64]
    refine ⟨V.length - (j + 1), by omega, j + 1, oa', c', w5, f25, by rw [ids_S hk hx]; exact o5, fun y hy => ?_, by omega, rfl, by rw [← e4]⟩
    rcases n5 y hy with q | q
    · exact no y q
    · have := f3.size; omega
  · have hje : j = V.length := by omega
    subst hje
    simp +contextual (disch := omega) only [↓AM, ↓AV, AP, CQ, hjn]
    rw [hR]
    rw [List.take_length] at ow
    exact ⟨⟨o8, c8, by rw [List.length_map, he], by rw [List.length_map]; exact ow.rd⟩, f03⟩
end Go.Proofs.YtmkcngcnedjfkaaGreat.Is

/- The law ItemChecks: the check of items and what an item needs. The walk over the abstract machine.
   Conditions: none. -/
namespace Go.Proofs.YtmkcngcnedjfkaaGreat.LItemChecks
open Go Go.RowKit Go.Proofs.YtmkcngcnedjfkaaGreat.Am Go.Proofs.YtmkcngcnedjfkaaGreat.Af Go.Proofs.YtmkcngcnedjfkaaGreat.Md Go.Proofs.YtmkcngcnedjfkaaGreat.It Go.Proofs.YtmkcngcnedjfkaaGreat.Is
set_option linter.unusedVariables false
set_option linter.unusedSimpArgs false
set_option linter.defProp false
set_option maxRecDepth 20000
set_option maxHeartbeats 2000000

theorem bytes3 : 1 ≤ Tryz.prog.bytesOf 3 := by decide +kernel
theorem bytes5 : 1 ≤ Tryz.prog.bytesOf 5 := by decide +kernel
theorem bytes68 : 1 ≤ Tryz.prog.bytesOf 68 := by decide +kernel
theorem need_len {ls : List Is.Item} {id : Int} : (needR ls id).length ≤ 140737488351232 := by
  by_cases he : needE ls id = 0
  · obtain ⟨hc, hf⟩ := needE_0.1 he
    obtain ⟨hl12, ok, hno⟩ := Is.chk_ok hc
    have hil : (fI ls id).toNat < ls.length := by have := (fI_lt (ls := ls) (id := id)).1; omega
    unfold needR
    rw [if_pos he, List.length_map]
    have := ordr_len ok hno hil
    omega
  · unfold needR; rw [if_neg he]; exact Nat.zero_le _
theorem core {h : Hp} (ls : List Is.Item) (id : Int) {oa : Option Addr} {c : Nat} (r : RL h oa ls) (hz : SL ls) :
    ACalls Tryz.prog 4 [.slice oa ls.length c, .int .i64 id] h fun v h' => v = .bool true := by
  refine dioramalaw15_ItemChecks_ok.snd Af.hm rfl fun w => ?_
  rw [WF_eq, dioramalaw15_ItemChecks]
  simp +contextual (disch := omega) only [↓AM, ↓AV, AP, CQ]
  refine (c_small r hz).use ?_
  rintro _ h1 w1 ⟨rfl, f1⟩
  by_cases hs : smallB ls = true
  case neg => simp +contextual (disch := omega) only [↓AM, ↓AV, AP, CQ, hs]
  simp +contextual (disch := omega) only [↓AM, ↓AV, AP, CQ, hs]
  refine (c_ICheck (r.keep w f1) hz).use ?_
  rintro _ h2 w2 ⟨rfl, f2⟩
  have f02 := f1.trans f2 fun _ _ x => x
  simp +contextual (disch := omega) only [↓AM, ↓AV, AP, CQ]
  refine (c_rICheck (r.keep w f02) hz).use ?_
  rintro _ h3 w3 ⟨rfl, f3⟩
  have f03 := f02.trans f3 fun _ _ x => x
  simp +contextual (disch := omega) only [↓AM, ↓AV, AP, CQ, EqI, It.eqI_self]
  refine (c_INeeds (r.keep w f03) hz).use ?_
  rintro _ h4 w4 ⟨⟨o8, c8, rfl, r8⟩, f4⟩
  have f04 := f03.trans f4 fun _ _ x => x
  simp +contextual (disch := omega) only [↓AM, ↓AV, AP, CQ]
  refine (c_rINeeds (r.keep w f04) hz).use ?_
  rintro _ h5 w5 ⟨⟨o9, c9, rfl, r9⟩, f5⟩
  simp +contextual (disch := omega) only [↓AM, ↓AV, AP, CQ, EqI, It.eqI_self]
  refine (c_EqInts (r8.keep w4 f5 (fun _ _ f => f)) r9 need_len).use ?_
  rintro _ h9 _ ⟨rfl, e9⟩
  subst h9
  simp +contextual (disch := omega) only [↓AM, ↓AV, AP, CQ, EqI, It.eqI_self]
  refine (c_awake h5).use ?_
  rintro _ h11 w11 ⟨rfl, rfl⟩
  simp +contextual (disch := omega) only [↓AM, ↓AV, AP, CQ]
theorem walk {h : Hp} (x0 : List Is.Item) (u0 : Value) (x1 : Int) (A0 : (AKd.slice itK).A h x0 [u0]) (w0 : x0.length * Tryz.prog.bytesOf 68 ≤ 140737488351232 ∧ ∀ x ∈ x0, ((Lit.int .i64 x.1).wf = true) ∧ ((Lit.int .i64 x.2.1).wf = true) ∧ (x.2.2.1.length * Tryz.prog.bytesOf 5 ≤ 140737488351232 ∧ ∀ y ∈ x.2.2.1, (Lit.int .u8 y).wf = true) ∧ (x.2.2.2.1.length * Tryz.prog.bytesOf 3 ≤ 140737488351232 ∧ ∀ y ∈ x.2.2.2.1, (Lit.int .i64 y).wf = true) ∧ (x.2.2.2.2.1.length * Tryz.prog.bytesOf 3 ≤ 140737488351232 ∧ ∀ y ∈ x.2.2.2.2.1, (Lit.int .i64 y).wf = true) ∧ ((Lit.int .i64 x.2.2.2.2.2.1).wf = true) ∧ ((Lit.int .i64 x.2.2.2.2.2.2.1).wf = true) ∧ ((Lit.int .i64 x.2.2.2.2.2.2.2.1).wf = true) ∧ ((Lit.int .i64 x.2.2.2.2.2.2.2.2.1).wf = true) ∧ (x.2.2.2.2.2.2.2.2.2.1.length * Tryz.prog.bytesOf 3 ≤ 140737488351232 ∧ ∀ y ∈ x.2.2.2.2.2.2.2.2.2.1, (Lit.int .i64 y).wf = true) ∧ ((Lit.int .i64 x.2.2.2.2.2.2.2.2.2.2.1).wf = true) ∧ (True)) (w1 : (Lit.int .i64 x1).wf = true) :
    ACalls Tryz.prog 4 [u0, .int .i64 x1] h fun v h' => v = .bool true := by
  obtain ⟨oa, c, e, r⟩ := RL.of A0
  have e : u0 = .slice oa x0.length c := by cases e; rfl
  subst e
  have mp : ∀ {a b : Nat}, 1 ≤ b → a * b ≤ 140737488351232 → a ≤ 140737488351232 := fun hb h => Nat.le_trans (Nat.le_mul_of_pos_right _ hb) h
  refine core x0 x1 r ⟨mp bytes68 w0.1, fun x hx => ?_⟩
  obtain ⟨_, _, q1, q2, q3, _, _, _, _, q4, _⟩ := w0.2 x hx
  exact ⟨mp bytes5 q1.1, mp bytes3 q2.1, mp bytes3 q3.1, mp bytes3 q4.1⟩
end Go.Proofs.YtmkcngcnedjfkaaGreat.LItemChecks
