/- A number written by the reference. Plain theorems over the abstract machine.
   Conditions: none. -/
import Derived.Test.YtholkooikmbamaaArI
namespace Go.Proofs.Ytholkooikmbamaa.Ar
open Go Go.RowKit Go.Proofs.Ytholkooikmbamaa.Am Go.Proofs.Ytholkooikmbamaa.Af
set_option linter.unusedVariables false
set_option linter.unusedSimpArgs false
set_option maxRecDepth 20000

theorem numI_good {e : En} {l : List Int} {v : Int} : numI e l v = if goodB l then if 0 ≤ v ∧ v < 1048576 then if 1048576 < e.n then 2 else 0 else 1 else 130 := by
  unfold numI readyI goodB
  by_cases hl : l.length = 32
  · by_cases ha : (l.any fun p => !decide (St p)) = true
    · simp [hl, ha]
    · by_cases hv : 0 ≤ v ∧ v < 1048576
      · simp [hl, ha, hv]
      · have : (decide (0 ≤ v) && decide (v < 1048576)) = false := by
          simp only [Bool.and_eq_false_iff, decide_eq_false_iff_not]
          omega
        simp only [hl, ha, hv, this]
        simp
  · simp [hl]
/-- The reference's memory while a number is written. -/
structure RefAt (h : Hp) (b : Nat) (oa os : Option Addr) (cap : Nat) (s : En × List Int) : Prop where
  enc : EncAt .i64 h b oa s.1
  st : Ow h 1 os 32 cap (s.2.map (Value.int .i64))
  d : ∀ x, At os x → ¬ Ft b oa x
theorem RefAt.put {h h1 : Hp} {b cap : Nat} {oa oa1 os : Option Addr} {s : En × List Int} {e : En} (w : Wf h) (x : RefAt h b oa os cap s) (he : EncAt .i64 h1 b oa1 e) (fm : Fm (Ft b oa) h h1) (nx : ∀ y, At oa1 y → At oa y ∨ h.size ≤ y) :
    RefAt h1 b oa1 os cap (e, s.2) := by
  refine ⟨he, x.st.keep w fm x.d, fun y hy hF => ?_⟩
  rcases hF with h | h
  · exact x.d y hy (.inl h)
  · rcases nx y h with h | h
    · exact x.d y hy (.inr h)
    · have := x.st.lt w y hy; omega
theorem RefAt.cell {h : Hp} {b cap k : Nat} {oa os : Option Addr} {s : En × List Int} (w : Wf h) (x : RefAt h b oa os cap s) (o : SOk s.2) (hk : k < 32) :
    ∃ bb sp ob, os = some ⟨bb, 0, sp⟩ ∧ flagOk sp = true ∧ h.get bb = some ob ∧ (ob.md = .ro) = False ∧ leIs (k + 1) ob.cs = true ∧ h.rd bb k = some (.int .i64 (s.2.getD k 0)) ∧
      ∀ u, RefAt (h.put bb ⟨spl ob.cs k [.int .i64 u], ob.md⟩) b oa os cap (s.1, s.2.set k u) ∧ Wf (h.put bb ⟨spl ob.cs k [.int .i64 u], ob.md⟩) ∧ Fm (At os) h (h.put bb ⟨spl ob.cs k [.int .i64 u], ob.md⟩) := by
  obtain ⟨bb, sp, ob, v, rfl, f1, hg, hmd, hle, hv, r1, hput⟩ := x.st.cell w hk
  have hl := o.len
  have : v = .int .i64 (s.2.getD k 0) := by
    rw [List.getElem?_map, List.getElem?_eq_getElem (by omega)] at hv
    rw [List.getD_eq_getElem?_getD, List.getElem?_eq_getElem (by omega)]
    simpa using hv.symm
  subst this
  refine ⟨bb, sp, ob, rfl, f1, hg, hmd, hle, r1, fun u => ?_⟩
  obtain ⟨_, p2, p3, p4⟩ := hput (.int .i64 u)
  exact ⟨⟨x.enc.keep w p4 (fun y hy hA => x.d y hA hy), by rw [List.map_set]; exact p2, x.d⟩, p3, p4⟩
theorem c_rNumber {h : Hp} {b n c : Nat} {oa a : Option Addr} {e : En} {l : List Int} {v : Int} (he : EncAt .i64 h b oa e) (g : Fit e) (hl : Rd h 1 a n (l.map (Value.int .i64))) (hn : 8 * n ≤ 140737488351232) (hv : -9223372036854775808 ≤ v ∧ v ≤ 9223372036854775807) :
    ACalls Try.prog 51 [.pointer (some ⟨b, 0, none⟩), .slice a n c, .int .i64 v] h (NumPost .i64 h b oa (numI e l v) (numE e l v) (numL e l v)) := by
  refine dioramaref13_Encoder__Number_ok.snd hm rfl fun w => ?_
  rw [WF_eq, dioramaref13_Encoder__Number]
  have ll := hl.ilen
  simp +contextual only [↓AM, ↓AV, AP]
  refine (c_good hl (by omega)).use ?_
  rintro _ h w1 ⟨rfl, rfl⟩
  have he' := he
  obtain ⟨ln0, cap0, hg0, _, _⟩ := he'
  by_cases hg : goodB l = true
  case neg =>
    have hI : numI e l v = 130 := by rw [numI_good, if_neg hg]
    have hg : goodB l = false := by simpa using hg
    simp +contextual only [↓AM, ↓AV, AP, hg]
    rw [numE, numL, hI]
    exact NumPost.err he Fm.refl
  by_cases hr : 0 ≤ v ∧ v < 1048576
  case neg =>
    have hI : numI e l v = 1 := by rw [numI_good, if_pos hg, if_neg hr]
    have fin : NumPost .i64 h b oa (numI e l v) (numE e l v) (numL e l v) (.tuple #[.slice none 0 0, .int .i64 1]) h := by
      rw [numE, numL, hI]
      exact NumPost.err he Fm.refl
    simp +contextual only [↓AM, ↓AV, AP, hg]
    refine ⟨fun hv0 => fin, fun hv0 => ⟨fun hv1 => fin, fun hv1 => by omega⟩⟩
  by_cases hn20 : 1048576 < e.n
  case pos =>
    have hI : numI e l v = 2 := by rw [numI_good, if_pos hg, if_pos hr, if_pos hn20]
    have hv0 : ¬ v < 0 := by omega
    have hv1 : ¬ 1048576 ≤ v := by omega
    simp +contextual only [↓AM, ↓AV, AP, hg, hv0, hv1, rd_mk hg0, hn20]
    rw [numE, numL, hI]
    exact NumPost.err he Fm.refl
  have hz : numI e l v = 0 := by rw [numI_good, if_pos hg, if_pos hr, if_neg hn20]
  obtain ⟨so, hv0', hv1', _⟩ := numI_0 hz
  have hv0 : ¬ v < 0 := by omega
  have hv1 : ¬ 1048576 ≤ v := by omega
  simp +contextual only [↓AM, ↓AV, AP, hg, hv0, hv1, rd_mk hg0, hn20]
  refine (c_CopyInts hl hn).use ?_
  rintro _ k0 wk0 ⟨os, cap, rfl, ow0, nw0, fk0⟩
  have hn32 : n = 32 := by have := so.len; omega
  subst hn32
  obtain ⟨w1, hw1⟩ : ∃ w1 : Nat, (v + 1).toNat = w1 ∧ v + 1 = w1 := ⟨(v + 1).toNat, rfl, by omega⟩
  have e1 : IntKind.i64.wrap (v + 1) = w1 := by rw [i64 (by omega), hw1.2]
  simp +contextual only [↓AM, ↓AV, AP, e1]
  refine (c_Length (w := w1) (by omega)).use ?_
  rintro _ k0 wk0 ⟨rfl, rfl⟩
  have hb21 : bl w1 ≤ 21 := bl_le (by omega)
  have hb1 : 1 ≤ bl w1 := bl_pos (by omega)
  have e2 : IntKind.i64.wrap ((bl w1 : Int) - 1) = ((bl w1 - 1 : Nat) : Int) := by rw [i64 (by omega)]; omega
  have hlt := he.lt w
  have x0 : RefAt k0 b oa os cap (e, l) := ⟨he.keep w fk0 (fun _ _ => id), ow0, fun x hx hF => by have := nw0 x hx; have := hlt x hF; omega⟩
  have fm0 : Fm (Ft b oa) h k0 := fk0.mono fun _ _ h => h.elim
  have hnum := g.num
  have trans : ∀ {h2 h3 : Hp} {oa2 oa3 : Option Addr}, Fm (Ft b oa) h h2 → (∀ x, At oa2 x → At oa x ∨ h.size ≤ x) → Fm (Ft b oa2) h2 h3 → (∀ y, At oa3 y → At oa2 y ∨ h2.size ≤ y) → Fm (Ft b oa) h h3 ∧ ∀ x, At oa3 x → At oa x ∨ h.size ≤ x := by
    intro h2 h3 oa2 oa3 f2 n2 f3 n3
    refine ⟨f2.trans f3 fun x hx hF => ?_, fun x hx => ?_⟩
    · rcases hF with h | h
      · exact .inl h
      · rcases n2 x h with h | h
        · exact .inr h
        · omega
    · rcases n3 x hx with h | h
      · exact n2 x h
      · exact .inr (Nat.le_trans f2.size h)
  have transs : ∀ {h2 h3 : Hp}, Fm (Ft b oa) h h2 → Fm (At os) h2 h3 → Fm (Ft b oa) h h3 := fun f2 f3 => f2.trans f3 fun x hx hA => by have := nw0 x hA; omega
  -- the state behind i of the first bits
  let S : Nat → En × List Int := fun i => if i < bl w1 then ones (e, l) i else bitS (ones (e, l) (bl w1 - 1)) (min (bl w1 - 1) 15) 0
  have S_ok : ∀ i, i ≤ bl w1 → Gd (S i).1 ∧ SOk (S i).2 ∧ (S i).1.n ≤ e.n + i := by
    intro i hi
    show Gd (if _ then _ else _ : En × List Int).1 ∧ SOk (if _ then _ else _ : En × List Int).2 ∧ (if _ then _ else _ : En × List Int).1.n ≤ _
    split
    · obtain ⟨a1, a2, a3⟩ := ones_ok (s := (e, l)) g.toGd so i
      exact ⟨a1, a2, by rw [a3]; exact Int.le_refl _⟩
    · obtain ⟨a1, a2, a3⟩ := ones_ok (s := (e, l)) g.toGd so (bl w1 - 1)
      obtain ⟨b1, b2, b3⟩ := bitS_ok a1 a2 (k := min (bl w1 - 1) 15) (by omega) 0
      exact ⟨b1, b2, by rw [b3, a3]; show e.n + _ + 1 ≤ _; omega⟩
  have S_step : ∀ i, i < bl w1 → S (i + 1) = bitS (S i) (min i 15) (if i = bl w1 - 1 then 0 else 1) := by
    intro i hi
    show (if _ then _ else _) = bitS (if _ then _ else _) _ _
    rw [if_pos hi]
    by_cases h : i = bl w1 - 1
    · subst h
      rw [if_neg (by omega), if_pos rfl]
    · rw [if_pos (by omega), if_neg h]; rfl
  simp +contextual only [↓AM, ↓AV, AP]
  refine WL.mk (fun m t h' => Wf h' ∧ Fm (Ft b oa) h h' ∧ ∃ i : Nat, i ≤ bl w1 ∧ m = bl w1 - i ∧ ∃ oa', RefAt h' b oa' os cap (S i) ∧ (∀ x, At oa' x → At oa x ∨ h.size ≤ x) ∧
    t = [(0, some (.pointer (some ⟨b, 0, none⟩))), (8, some (.slice os 32 cap)), (9, some (.int .i64 w1)), (10, some (.int .i64 (bl w1 : Nat))), (11, some (.int .i64 i))])
    ⟨_, wk0, fm0, 0, Nat.zero_le _, rfl, oa, ?_, fun x hx => .inl hx, rfl⟩ ?_
  · show RefAt k0 b oa os cap (if _ then _ else _)
    rw [if_pos (by omega)]
    exact x0
  rintro m t k1 ⟨wk1, fm1, i, hi, rfl, oa1, x1, nx1, rfl⟩
  obtain ⟨g1, o1, n1⟩ := S_ok i hi
  have gl1 := g1.len
  by_cases hin : i < bl w1
  · have round : ∀ bt : Int, bt = (if i = bl w1 - 1 then 0 else 1) → True := fun _ _ => trivial
    obtain ⟨bb, sp, ob, rfl, f1, hgo, hmd, hle, r1, _⟩ := x1.cell wk1 o1 (k := min i 15) (by omega)
    have hm32 : min i 15 < 32 := by omega
    have hst := o1.at hm32
    by_cases hlast : i = bl w1 - 1
    · have heq : EqI (i : Int) ((bl w1 - 1 : Nat) : Int) = True := by simp [EqI]; omega
      simp +contextual only [↓AM, ↓AV, AP, hin, e2, heq]
      refine (c_first (by omega)).use ?_
      rintro _ k1 wk1 ⟨rfl, rfl⟩
      simp +contextual only [↓AM, ↓AV, AP, f1, hm32, r1]
      refine (c_rput x1.enc g1 hst (.inl rfl) (by omega) (by omega)).use ?_
      rintro _ k2 wk2 ⟨oa2, he2, f2, nx2⟩
      obtain ⟨fm2, nx2'⟩ := trans fm1 nx1 f2 nx2
      have x2 := x1.put wk1 he2 f2 nx2
      obtain ⟨bb2, sp2, ob2, e3, f3, hgo2, hmd2, hle2, r2, hp2⟩ := x2.cell wk2 o1 hm32
      cases e3
      obtain ⟨q1, q2, q3⟩ := hp2 (stepI ((S i).2.getD (min i 15) 0) 0)
      simp +contextual only [↓AM, ↓AV, AP, f1, hm32, r2]
      refine (c_rstep hst).use ?_
      rintro _ k2 wk2 ⟨rfl, rfl⟩
      simp +contextual only [↓AM, ↓AV, AP, f1, hm32, hgo2, hmd2, hle2]
      refine ⟨_, ?_, q2, transs fm2 q3, i + 1, hin, rfl, oa2, ?_, nx2', ?_⟩
      · omega
      · rw [S_step i hin, if_pos hlast]; exact q1
      · rw [i64 (by omega)]; rfl
    · have heq : EqI (i : Int) ((bl w1 - 1 : Nat) : Int) = False := by simp [EqI]; omega
      simp +contextual only [↓AM, ↓AV, AP, hin, e2, heq]
      refine (c_first (by omega)).use ?_
      rintro _ k1 wk1 ⟨rfl, rfl⟩
      simp +contextual only [↓AM, ↓AV, AP, f1, hm32, r1]
      refine (c_rput x1.enc g1 hst (.inr rfl) (by omega) (by omega)).use ?_
      rintro _ k2 wk2 ⟨oa2, he2, f2, nx2⟩
      obtain ⟨fm2, nx2'⟩ := trans fm1 nx1 f2 nx2
      have x2 := x1.put wk1 he2 f2 nx2
      obtain ⟨bb2, sp2, ob2, e3, f3, hgo2, hmd2, hle2, r2, hp2⟩ := x2.cell wk2 o1 hm32
      cases e3
      obtain ⟨q1, q2, q3⟩ := hp2 (stepI ((S i).2.getD (min i 15) 0) 1)
      simp +contextual only [↓AM, ↓AV, AP, f1, hm32, r2]
      refine (c_rstep hst).use ?_
      rintro _ k2 wk2 ⟨rfl, rfl⟩
      simp +contextual only [↓AM, ↓AV, AP, f1, hm32, hgo2, hmd2, hle2]
      refine ⟨_, ?_, q2, transs fm2 q3, i + 1, hin, rfl, oa2, ?_, nx2', ?_⟩
      · omega
      · rw [S_step i hin, if_neg hlast]; exact q1
      · rw [i64 (by omega)]; rfl
  · have : i = bl w1 := by omega
    subst this
    have hSn : S (bl w1) = bitS (ones (e, l) (bl w1 - 1)) (min (bl w1 - 1) 15) 0 := if_neg (by omega)
    rw [hSn] at x1 g1 o1 n1
    have e4 : IntKind.i64.wrap ((bl w1 : Int) - 2) = (bl w1 : Int) - 2 := i64 (by omega)
    simp +contextual only [↓AM, ↓AV, AP, hin, e4]
    have hnumS : numS (e, l) w1 = lows (bitS (ones (e, l) (bl w1 - 1)) (min (bl w1 - 1) 15) 0) w1 (bl w1) (bl w1 - 1) := rfl
    rw [numE, numL, if_pos hz, if_pos hz, hw1.1, hnumS, hz]
    clear_value S
    generalize bitS (ones (e, l) (bl w1 - 1)) (min (bl w1 - 1) 15) 0 = s3 at x1 g1 o1 n1
    clear hSn S_ok S_step
    refine WL.mk (fun m t h' => Wf h' ∧ Fm (Ft b oa) h h' ∧ ∃ c : Nat, c ≤ bl w1 - 1 ∧ m = bl w1 - 1 - c ∧ ∃ oa', RefAt h' b oa' os cap (lows s3 w1 (bl w1) c) ∧ (∀ x, At oa' x → At oa x ∨ h.size ≤ x) ∧
      t = [(0, some (.pointer (some ⟨b, 0, none⟩))), (8, some (.slice os 32 cap)), (9, some (.int .i64 w1)), (10, some (.int .i64 (bl w1 : Nat))), (14, some (.int .i64 ((bl w1 : Int) - 2 - c)))])
      ⟨_, wk1, fm1, 0, Nat.zero_le _, rfl, oa1, x1, nx1, by simp⟩ ?_
    clear wk1 fm1 x1 nx1
    rintro m t k3 ⟨wk3, fm3, c, hc, rfl, oa3, x3, nx3, rfl⟩
    obtain ⟨g4, o4, n4⟩ := lows_ok g1 o1 w1 (bl w1) c
    have hl4 := g4.len
    by_cases hcn : c < bl w1 - 1
    · have hge : (0 : Int) ≤ (bl w1 : Int) - 2 - c := by omega
      have hu : IntKind.u64.wrap ((bl w1 : Int) - 2 - c) = (bl w1 : Int) - 2 - c := u64 (by omega)
      have htn : ((bl w1 : Int) - 2 - c).toNat = bl w1 - 2 - c := by omega
      have hand := wand w1 (bl w1 - 2 - c) (by omega)
      by_cases hc0 : c = 0
      · have heq : EqI ((bl w1 : Int) - 2 - c) ((bl w1 : Int) - 2) = True := by simp [EqI]; omega
        have hk : 16 + min (bl w1 - 1) 15 < 32 := by omega
        have e5 : IntKind.i64.wrap (16 + ((min (bl w1 - 1) 15 : Nat) : Int)) = ((16 + min (bl w1 - 1) 15 : Nat) : Int) := by rw [i64 (by omega)]; omega
        have hst := o4.at hk
        obtain ⟨bb, sp, ob, rfl, f1, hgo, hmd, hle, r1, _⟩ := x3.cell wk3 o4 hk
        simp +contextual only [↓AM, ↓AV, AP, hge, e4, heq, e2, htn, hu, hand]
        refine (c_first (by omega)).use ?_
        rintro _ k3 wk3 ⟨rfl, rfl⟩
        simp +contextual only [↓AM, ↓AV, AP, e5, f1, hk, r1]
        refine (c_rput x3.enc g4 hst (wbit_01 _ _) (by omega) (by omega)).use ?_
        rintro _ k2 wk2 ⟨oa2, he2, f2, nx2⟩
        obtain ⟨fm2, nx2'⟩ := trans fm3 nx3 f2 nx2
        have x2 := x3.put wk3 he2 f2 nx2
        obtain ⟨bb2, sp2, ob2, e3, f3, hgo2, hmd2, hle2, r2, hp2⟩ := x2.cell wk2 o4 hk
        cases e3
        obtain ⟨q1, q2, q3⟩ := hp2 (stepI ((lows s3 w1 (bl w1) c).2.getD (16 + min (bl w1 - 1) 15) 0) (wbit w1 (bl w1 - 2 - c)))
        simp +contextual only [↓AM, ↓AV, AP, f1, hk, r2]
        refine (c_rstep hst).use ?_
        rintro _ k2 wk2 ⟨rfl, rfl⟩
        simp +contextual only [↓AM, ↓AV, AP, f1, hk, hgo2, hmd2, hle2]
        refine ⟨_, ?_, q2, transs fm2 q3, c + 1, hcn, rfl, oa2, ?_, nx2', ?_⟩
        · omega
        · rw [lows, if_pos hc0]; exact q1
        · rw [i64 (by omega)]; congr 6; simp; omega
      · have heq : EqI ((bl w1 : Int) - 2 - c) ((bl w1 : Int) - 2) = False := by simp [EqI]; omega
        simp +contextual only [↓AM, ↓AV, AP, hge, e4, heq, htn, hu, hand]
        refine (c_rput x3.enc g4 st2048 (wbit_01 _ _) (by omega) (by omega)).use ?_
        rintro _ k2 wk2 ⟨oa2, he2, f2, nx2⟩
        obtain ⟨fm2, nx2'⟩ := trans fm3 nx3 f2 nx2
        have x2 := x3.put wk3 he2 f2 nx2
        simp +contextual only [↓AM, ↓AV, AP]
        refine ⟨_, ?_, wk2, fm2, c + 1, hcn, rfl, oa2, ?_, nx2', ?_⟩
        · omega
        · rw [lows, if_neg hc0]; exact x2
        · rw [i64 (by omega)]; congr 6; simp; omega
    · have : c = bl w1 - 1 := by omega
      subst this
      have hge : ¬ (0 : Int) ≤ (bl w1 : Int) - 2 - ((bl w1 - 1 : Nat) : Int) := by omega
      simp +contextual only [↓AM, ↓AV, AP, hge]
      have hl32 : (lows s3 w1 (bl w1) (bl w1 - 1)).2.length = 32 := o4.len
      refine ⟨oa3, os, cap, by rw [hl32], x3.enc, by rw [hl32]; exact x3.st, nw0, x3.d, fm3, nx3⟩
end Go.Proofs.Ytholkooikmbamaa.Ar
