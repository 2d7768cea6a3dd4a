/- The abstract steps: append, copy. Plain theorems.
   Conditions: none. -/
import Derived.Test.YtbfbgkhlngkifaaAmJ
namespace Go.Proofs.Ytbfbgkhlngkifaa.Am
open Go Go.RowKit
set_option linter.unusedVariables false
set_option linter.unusedSimpArgs false

theorem growBy_le {m : Nat} : ∀ (r c : Nat), 256 ≤ c → c < 2 * m → Builtin.growBy m r c < 2 * m
  | 0, c, _, h => by simpa [Builtin.growBy] using h
  | r + 1, c, h0, h => by
    unfold Builtin.growBy
    split
    · exact h
    · exact growBy_le r _ (by omega) (by omega)
theorem next_le {m c : Nat} (h : c < m) : Builtin.nextslicecap m c ≤ 2 * m := by
  unfold Builtin.nextslicecap
  split
  · omega
  · split
    · omega
    · exact Nat.le_of_lt (growBy_le 4 c (by omega) (by omega))

def plainX : TypeDesc → Bool
  | .slice _ | .string => true
  | _ => false

section
variable {P : Program} {w : World} {sT xT ty e : TypeId} {dx : TypeDesc} {ti : TypeInfo} {z x : Value} {m : Nat} {news : Array Value}
theorem run_app_room (hs : P.underlying sT = some (.slice e)) (hx : P.underlying xT = some dx) (hdx : plainX dx = true) (hi : P.info? e = some ti) (hlen : (Builtin.lenOf x).run P w = .ok m w)
    (hnew : (Builtin.firstCells ti.size m x).run P w = .ok news w) {ad : Addr} {ln cap : Nat} (hroom : ln + m ≤ cap) {w' : World} (hst : (storeCells (ad.add (ln * ti.size)) news.toList).run P w = .ok () w') :
    (Builtin.append_ #[sT, xT] ty #[.slice (some ad) ln cap, x]).run P w = .ok (.slice (some ad) (ln + m) cap) w' := by
  cases dx <;> simp only [plainX, Bool.false_eq_true] at hdx <;>
    simp [Builtin.append_, run_underlying hs, run_underlying hx, sizeOf, typeInfo, hi, hlen, hroom, hnew, hst]
theorem run_app_none (hs : P.underlying sT = some (.slice e)) (hx : P.underlying xT = some dx) (hdx : plainX dx = true) (hi : P.info? e = some ti) (hlen : (Builtin.lenOf x).run P w = .ok 0 w)
    (hnew : (Builtin.firstCells ti.size 0 x).run P w = .ok news w) : (Builtin.append_ #[sT, xT] ty #[.slice none 0 0, x]).run P w = .ok (.slice none 0 0) w := by
  cases dx <;> simp only [plainX, Bool.false_eq_true] at hdx <;>
    simp [Builtin.append_, run_underlying hs, run_underlying hx, sizeOf, typeInfo, hi, hlen, hnew]
theorem run_app_grow (hs : P.underlying sT = some (.slice e)) (hx : P.underlying xT = some dx) (hdx : plainX dx = true) (hi : P.info? e = some ti) (hz : ti.zero = some z) (hb : 0 < ti.bytes) (hlen : (Builtin.lenOf x).run P w = .ok m w)
    {ba : Option Addr} {ln cap : Nat} (hroom : ¬ ln + m ≤ cap) (hbytes : ti.bytes * (ln + m) ≤ 140737488355328) {old : Array Value}
    (hold : (Builtin.firstCells ti.size ln (.slice ba ln cap)).run P w.drew = .ok old w.drew)
    (hnew : (Builtin.firstCells ti.size m x).run P w.drew = .ok news w.drew) :
    ∃ nc, ln + m ≤ nc ∧ (Builtin.append_ #[sT, xT] ty #[.slice ba ln cap, x]).run P w = .ok (.slice (some ⟨w.heap.size, 0, none⟩) (ln + m) nc)
      (w.drew.alloc (.cells (old ++ news ++ Builtin.zeroCells z.cells (nc - (ln + m))) e)) := by
  refine ⟨Question.cut (.appendCap (ln + m) cap e) (w.tape w.drawn (.appendCap (ln + m) cap e)), Nat.le_add_right _ _, ?_⟩
  have h1 : ¬ (Builtin.nextslicecap (ln + m) cap * ti.bytes > 2 ^ 48) := by
    have h2 := next_le (m := ln + m) (c := cap) (by omega)
    have h3 : Builtin.nextslicecap (ln + m) cap * ti.bytes ≤ 2 * (ln + m) * ti.bytes := Nat.mul_le_mul_right _ h2
    have h4 : 2 * (ln + m) * ti.bytes = 2 * (ti.bytes * (ln + m)) := by rw [Nat.mul_assoc, Nat.mul_comm (ln + m)]
    omega
  have h5 : ¬ ti.bytes = 0 := by omega
  cases dx <;> simp only [plainX, Bool.false_eq_true] at hdx <;>
    simp [Builtin.append_, run_underlying hs, run_underlying hx, sizeOf, typeInfo, hi, hlen, hroom, h1, h5, hold, hnew, zeroValue, hz, Question.forced, newRow]
end

section
variable {P : Program} {n base : Nat} {w0 : World} {γ : Gam} {h : Hp} {w : World} {t : Tm} {a : Act} {K : Option Value → Hp → Prop} {o : Oper}

/-- A run of cells that reads in the world and behind a draw. -/
theorem firstCells_run {ad : Addr} {z m ln cap : Nat} {ys : List Value} (h1 : (loadCells ad (m * z)).run P w = .ok ys.toArray w) : (Builtin.firstCells z m (.slice (some ad) ln cap)).run P w = .ok ys.toArray w := by
  simpa [Builtin.firstCells] using h1
/-- The cells of a slice, read in the world (m of its elements). -/
theorem src_run (s : Sim base w0 γ h w) {v v' : Value} (r : VRel γ v v') {z ln cap : Nat} {ad : Option Addr} (hv : v = .slice ad ln cap) {cs : List Value} (hsrc : h.src z v = some cs) :
    ∃ ys : List Value, LRel γ cs ys ∧ (∀ u ∈ cs, cell1 u = true) ∧ ys.length = ln * z ∧ (∃ ad' cap', v' = .slice ad' ln cap') ∧ (Builtin.firstCells z ln v').run P w = .ok ys.toArray w ∧ (Builtin.firstCells z ln v').run P w.drew = .ok ys.toArray w.drew := by
  subst hv
  have nil : cs = [] → ln = 0 → (∃ ad' cap', v' = .slice ad' ln cap') → ∃ ys : List Value, LRel γ cs ys ∧ (∀ u ∈ cs, cell1 u = true) ∧ ys.length = ln * z ∧ (∃ ad' cap', v' = .slice ad' ln cap') ∧ (Builtin.firstCells z ln v').run P w = .ok ys.toArray w ∧ (Builtin.firstCells z ln v').run P w.drew = .ok ys.toArray w.drew := by
    intro h1 h2 h3
    subst h1; subst h2
    obtain ⟨ad', cap', rfl⟩ := h3
    refine ⟨[], LRel.nil, by simp, by simp, ⟨_, _, rfl⟩, ?_, ?_⟩ <;> cases ad' <;> simp [Builtin.firstCells, loadCells, loadCellsFrom]
  cases ad with
  | none =>
    simp only [Hp.src] at hsrc
    cases hsrc
    cases r <;> exact nil rfl rfl ⟨_, _, rfl⟩
  | some ad =>
    obtain ⟨b, off, sp⟩ := ad
    simp only [Hp.src] at hsrc
    have form : ∃ ad' cap', v' = .slice ad' ln cap' := by cases r <;> exact ⟨_, _, rfl⟩
    split at hsrc
    · rename_i hf
      obtain ⟨ob, hget, hle, rfl⟩ := rdN_of hsrc
      have hex : ∃ c σ E cap', γ b = some (c, σ, E) ∧ v' = .slice (some ⟨c, off + σ, none⟩) ln cap' := by
        cases r with
        | slice hg => exact ⟨_, _, _, _, hg, rfl⟩
        | sliceh hg =>
          rename_i k c σ E
          have : k = 0 := by
            cases k with
            | zero => rfl
            | succ n => simp [flagOk] at hf
          subst this
          exact ⟨_, _, _, cap + E, hg, by simp⟩
      obtain ⟨c, σ, E, cap', hg, rfl⟩ := hex
      obtain ⟨C, e, lo, hi, l⟩ := s.at hg hget
      obtain ⟨ys, hrel, hc1, hcell, hrun⟩ := l.run (P := P) hle
      have l2 : Lies base γ w.drew ob c σ E C e lo hi := ⟨l.heap, l.own, l.ro, l.size, l.cells⟩
      obtain ⟨ys2, hrel2, _, _, hrun2⟩ := l2.run (P := P) hle
      have hyy : ys2 = ys := by
        apply List.ext_getElem
        · rw [← hrel.1, ← hrel2.1]
        · intro i h1 h2
          exact (hrel2.2 i (by rw [hrel2.1]; exact h1) h1).fn (hrel.2 i (by rw [hrel.1]; exact h2) h2)
      rw [hyy] at hrun2
      refine ⟨ys, hrel, fun u hu => ?_, by rw [← hrel.1]; simp; omega, ⟨_, _, rfl⟩, firstCells_run hrun, firstCells_run hrun2⟩
      obtain ⟨i, hi, rfl⟩ := List.getElem_of_mem hu
      have : ob.cs[off + i]? = some (((ob.cs.drop off).take (ln * z))[i]) := by
        rw [List.getElem_take, List.getElem_drop, List.getElem?_eq_getElem]
      exact (l.cells _ _ this).1
    · split at hsrc
      · cases hsrc
        exact nil rfl rfl form
      · cases hsrc

/-- What a grown block holds. -/
theorem zc_size {z : Value} {ti : TypeInfo} (hz : (cellsOf z).length = ti.size) (k : Nat) : (Builtin.zeroCells z.cells k).size = k * ti.size := by
  have : z.cells.size = ti.size := by rw [← Array.length_toList, cellsOf_eq, hz]
  simp [Builtin.zeroCells, this]

/-- A grown slice: its new block. -/
theorem grow_new (s : Sim base w0 γ h w) {cs cs' : List Value} (hr : LRel γ cs cs') (h1 : ∀ u ∈ cs, cell1 u = true) {z : Value} {ti : TypeInfo} (hz : (cellsOf z).length = ti.size) (e : TypeId) {m nc : Nat} (hm : m ≤ nc) (hl : cs.length = m * ti.size) :
    Sim base w0 (γ.add h.size (w.heap.size, 0, nc - m)) (h.new ⟨cs, .hid ti.size⟩) (w.drew.alloc (.cells (cs'.toArray ++ Builtin.zeroCells z.cells (nc - m)) e)) ∧ Sub γ (γ.add h.size (w.heap.size, 0, nc - m)) ∧
      Fr γ w (γ.add h.size (w.heap.size, 0, nc - m)) (w.drew.alloc (.cells (cs'.toArray ++ Builtin.zeroCells z.cells (nc - m)) e)) := by
  have sd : Sim base w0 γ h w.drew := s.drew
  have hold : ∀ k, k < w.heap.size → (w.drew.alloc (.cells (cs'.toArray ++ Builtin.zeroCells z.cells (nc - m)) e)).heap[k]? = w.heap[k]? := fun k hk => Below.heap_alloc w.drew _ _ hk
  have hs := sd.new (w' := w.drew.alloc (.cells (cs'.toArray ++ Builtin.zeroCells z.cells (nc - m)) e)) (o := ⟨cs, .hid ti.size⟩) (by simp) (C := cs'.toArray ++ Builtin.zeroCells z.cells (nc - m)) (e := e) (lo := 0) (hi := 0) (E := nc - m) (by simp) rfl rfl rfl
    hold (heap_alloc_new w.drew _) (by omega) (by
      rw [Array.size_append, zc_size hz, List.size_toArray, ← hr.1]
      exact Nat.le_refl _) (fun i v hv => by
      refine ⟨h1 v (List.mem_of_getElem? hv), ?_⟩
      obtain ⟨v', a, b⟩ := hr.get? hv
      have hi : i < cs'.length := (List.getElem?_eq_some_iff.1 a).1
      exact ⟨v', by rw [Array.getElem?_append_left (by simpa using hi)]; simpa using a, b⟩)
  exact ⟨hs.1, hs.2, Fr.new (by simp) hold (s.top _ (Nat.le_refl _)).1⟩

theorem appA_sound (s : Sim base w0 γ h w) {sT xT ty e : TypeId} {dx : TypeDesc} {ti : TypeInfo} {z sv sv' x' : Value} {m : Nat} {cs ys : List Value} (hs : P.underlying sT = some (.slice e)) (hx : P.underlying xT = some dx) (hdx : plainX dx = true)
    (hi' : P.info? e = some ti) (hz : ti.zero = some z) (hb : 0 < ti.bytes) (hsz : (cellsOf z).length = ti.size) (rs : VRel γ sv sv') (hlen : (Builtin.lenOf x').run P w = .ok m w) (hrel : LRel γ cs ys) (h1 : ∀ u ∈ cs, cell1 u = true)
    (hyl : ys.length = m * ti.size) (hn1 : (Builtin.firstCells ti.size m x').run P w = .ok ys.toArray w) (hn2 : (Builtin.firstCells ti.size m x').run P w.drew = .ok ys.toArray w.drew) (ha : appA ti.size ti.bytes sv m cs h K) :
    Got P base w0 γ w (((Builtin.append_ #[sT, xT] ty #[sv', x']).run P w).andThen fun v w' => .ok (.value v) w') K := by
  have hcl : cs.length = m * ti.size := by rw [hrel.1, hyl]
  unfold appA at ha
  split at ha
  · cases rs
    split at ha
    · rename_i hm
      subst hm
      exact Got.pure s ha (by rw [run_app_none hs hx hdx hi' hlen hn1]; rfl) .slice0
    · rename_i hm
      obtain ⟨hbytes, hk⟩ := ha
      obtain ⟨nc, hnc, hrun⟩ := run_app_grow (P := P) (w := w) (ty := ty) (ba := none) (ln := 0) (cap := 0) (old := #[]) hs hx hdx hi' hz hb hlen (by omega) (by simpa using hbytes) (by simp [Builtin.firstCells]) hn2
      rw [Nat.zero_add] at hnc hrun
      obtain ⟨s', hsub, hfr⟩ := grow_new s hrel h1 hsz e hnc hcl
      refine ⟨_, _, _, _, _, hk, hsub, hfr, s', by rw [hrun, Array.empty_append]; rfl, .inr ⟨.slice (some ⟨w.heap.size, 0, none⟩) m nc, rfl, fun u hu => ?_⟩⟩
      cases hu
      have := VRel.sliceh (γ := γ.add h.size (w.heap.size, 0, nc - m)) (b := h.size) (off := 0) (k := 0) (len := m) (cap := m) Gam.add_self
      simpa [show m + (nc - m) = nc by omega] using this
  · rename_i b off sp ln cap
    split at ha
    · rename_i hroom
      split at ha
      · rename_i hm
        subst hm
        have hys : ys = [] := List.length_eq_zero_iff.1 (by simpa using hyl)
        subst hys
        have ex : ∃ ad' cap', sv' = .slice (some ad') ln cap' ∧ cap ≤ cap' := by
          cases rs with
          | slice hg => exact ⟨_, _, rfl, Nat.le_refl _⟩
          | sliceh hg => exact ⟨_, _, rfl, Nat.le_add_right _ _⟩
        obtain ⟨ad', cap', rfl, hcap⟩ := ex
        refine Got.pure s ha ?_ rs
        rw [run_app_room (P := P) (ty := ty) hs hx hdx hi' hlen hn1 (ad := ad') (ln := ln) (cap := cap') (by omega) (w' := w) (by simp [storeCells])]
        rfl
      · rename_i hm
        obtain ⟨hf, ob, hget, hmd, hfit, hk⟩ := ha
        have hex : ∃ c σ E cap', γ b = some (c, σ, E) ∧ sv' = .slice (some ⟨c, off + σ, none⟩) ln cap' ∧ cap ≤ cap' ∧ ∀ l', VRel γ (.slice (some ⟨b, off, sp⟩) l' cap) (.slice (some ⟨c, off + σ, none⟩) l' cap') := by
          cases rs with
          | slice hg => exact ⟨_, _, _, _, hg, rfl, Nat.le_refl _, fun l' => .slice hg⟩
          | sliceh hg =>
            rename_i k c σ E
            have : k = 0 := by
              cases k with
              | zero => rfl
              | succ n => simp [flagOk] at hf
            subst this
            refine ⟨_, _, _, cap + E, hg, by simp, Nat.le_add_right _ _, fun l' => ?_⟩
            have := VRel.sliceh (γ := γ) (off := off) (k := 0) (len := l') (cap := cap) hg
            simpa using this
        obtain ⟨c, σ, E, cap', hg, rfl, hcap, hval⟩ := hex
        obtain ⟨C, ee, lo, hi2, l⟩ := s.at hg hget
        have hC : σ + ob.cs.length ≤ C.size := Nat.le_trans (Nat.le_add_right _ _) l.size
        have hfit' : off + ln * ti.size + m * ti.size ≤ ob.cs.length := by rw [Nat.add_mul] at hfit; omega
        have hcell : ∀ u ∈ ys, cell1 u = true := fun u hu => by
          obtain ⟨j, hj, rfl⟩ := List.getElem_of_mem hu
          have hj' : j < cs.length := by rw [hrel.1]; exact hj
          rw [(hrel.2 j hj' hj).cell1]
          exact h1 _ (List.getElem_mem hj')
        obtain ⟨w', C', hrun, hu, hszC, hgt⟩ := run_storeN (P := P) ys (off + σ + ln * ti.size) 0 C w l.heap (l.own hmd).2 (by rw [hyl]; omega) hcell
        have s' := s.put hget hmd hg l hu hszC (cs := spl ob.cs (off + ln * ti.size) cs) (by rw [spl_length (by omega)]) (fun j u hj => by
          rw [spl_get (by omega)] at hj
          rw [hgt]
          by_cases hc : off + ln * ti.size ≤ j ∧ j < off + ln * ti.size + cs.length
          · rw [if_pos hc] at hj
            refine ⟨h1 _ (List.mem_of_getElem? hj), ?_⟩
            rw [if_pos (by omega)]
            obtain ⟨u', a1, a2⟩ := hrel.get? hj
            exact ⟨u', by rw [show σ + j - (off + σ + ln * ti.size + 0) = j - (off + ln * ti.size) by omega]; exact a1, a2⟩
          · rw [if_neg hc] at hj
            rw [if_neg (by omega)]
            exact l.cells j u hj)
        refine ⟨_, _, _, _, _, hk, Sub.refl _, Fr.upd hg hu, s', ?_, .inr ⟨.slice (some ⟨c, off + σ, none⟩) (ln + m) cap', rfl, fun u hu => by cases hu; exact hval _⟩⟩
        rw [run_app_room (P := P) (ty := ty) hs hx hdx hi' hlen hn1 (ad := ⟨c, off + σ, none⟩) (ln := ln) (cap := cap') (by omega) (w' := w') (by rw [Addr.add_lit]; simpa using hrun)]
        rfl
    · rename_i hroom
      obtain ⟨hbytes, old, hrd, hsp⟩ := ha
      obtain ⟨ob, hget, hle, rfl⟩ := rdN_of hrd
      have hold1 : ∀ u ∈ ((ob.cs.drop off).take (ln * ti.size)), cell1 u = true := fun u hu => by
        obtain ⟨c, σ, E, C, e', lo, hi, hg, l⟩ := s.obj b ob hget
        obtain ⟨i, hi, rfl⟩ := List.getElem_of_mem hu
        have : ob.cs[off + i]? = some (((ob.cs.drop off).take (ln * ti.size))[i]) := by
          rw [List.getElem_take, List.getElem_drop, List.getElem?_eq_getElem]
        exact (l.cells _ _ this).1
      have hall : ∀ u ∈ ((ob.cs.drop off).take (ln * ti.size)) ++ cs, cell1 u = true := fun u hu => by
        rcases List.mem_append.1 hu with hu | hu
        · exact hold1 u hu
        · exact h1 u hu
      have hlen2 : (((ob.cs.drop off).take (ln * ti.size)) ++ cs).length = (ln + m) * ti.size := by
        rw [List.length_append, List.length_take, List.length_drop, hcl, Nat.add_mul]; omega
      have grown : ∀ (h2 : Hp), Sim base w0 γ h2 w → h2.size = h.size → ∀ (c σ E cap' : Nat), γ b = some (c, σ, E) → sv' = .slice (some ⟨c, off + σ, none⟩) ln cap' → ¬ ln + m ≤ cap' →
          K (some (.slice (some ⟨h.size, 0, some 0⟩) (ln + m) (ln + m))) (h2.new ⟨(ob.cs.drop off).take (ln * ti.size) ++ cs, .hid ti.size⟩) → Got P base w0 γ w (((Builtin.append_ #[sT, xT] ty #[sv', x']).run P w).andThen fun v w' => .ok (.value v) w') K := by
        intro h2 s2 hsize c σ E cap' hg hsv hno hk
        subst hsv
        obtain ⟨C, e', lo, hi, l⟩ := s.at hg hget
        have l2 : Lies base γ w.drew ob c σ E C e' lo hi := ⟨l.heap, l.own, l.ro, l.size, l.cells⟩
        obtain ⟨os, horel, _, _, horun⟩ := l2.run (P := P) hle
        obtain ⟨nc, hnc, hrun⟩ := run_app_grow (P := P) (w := w) (ty := ty) (ba := some ⟨c, off + σ, none⟩) (ln := ln) (cap := cap') (old := os.toArray) hs hx hdx hi' hz hb hlen hno (by simpa using hbytes) (firstCells_run horun) hn2
        obtain ⟨s', hsub, hfr⟩ := grow_new s2 (horel.append hrel) hall hsz e hnc hlen2
        rw [hsize] at s' hsub hfr
        refine ⟨_, _, _, _, _, hk, hsub, hfr, s', by rw [hrun, show os.toArray ++ ys.toArray = (os ++ ys).toArray by simp]; rfl, .inr ⟨.slice (some ⟨w.heap.size, 0, none⟩) (ln + m) nc, rfl, fun u hu => ?_⟩⟩
        cases hu
        have := VRel.sliceh (γ := γ.add h.size (w.heap.size, 0, nc - (ln + m))) (b := h.size) (off := 0) (k := 0) (len := ln + m) (cap := ln + m) Gam.add_self
        simpa [show ln + m + (nc - (ln + m)) = nc by omega] using this
      split at hsp
      · cases rs with
        | slice hg => exact grown h s rfl _ _ _ _ hg rfl hroom hsp
      · obtain ⟨o2, hget2, hmd, hcapfit, hk⟩ := hsp
        rw [hget] at hget2
        cases hget2
        cases rs with
        | sliceh hg =>
          rename_i c σ E
          simp only [ite_self, Nat.add_zero] at grown ⊢
          by_cases hin : ln + m ≤ cap + E
          · obtain ⟨C, e', lo, hi2, l⟩ := s.at hg hget
            have hsize := l.size
            simp only [hmd, Md.hidden] at hsize
            have hmd' : ob.md ≠ .ro := by rw [hmd]; simp
            have hEz : (cap + E) * ti.size = cap * ti.size + E * ti.size := Nat.add_mul _ _ _
            have hin' : ln * ti.size + m * ti.size ≤ (cap + E) * ti.size := by rw [← Nat.add_mul]; exact Nat.mul_le_mul_right _ hin
            have hE' : (ln + m) * ti.size + (cap + E - (ln + m)) * ti.size = (cap + E) * ti.size := by rw [← Nat.add_mul]; congr 1; omega
            have hcell : ∀ u ∈ ys, cell1 u = true := fun u hu => by
              obtain ⟨j, hj, rfl⟩ := List.getElem_of_mem hu
              have hj' : j < cs.length := by rw [hrel.1]; exact hj
              rw [(hrel.2 j hj' hj).cell1]
              exact h1 _ (List.getElem_mem hj')
            obtain ⟨w', C', hrun, hu, hszC, hgt⟩ := run_storeN (P := P) ys (off + σ + ln * ti.size) 0 C w l.heap (l.own hmd').2 (by rw [hyl]; omega) hcell
            obtain ⟨s', hsub⟩ := s.move (o' := ⟨(ob.cs.drop off).take (ln * ti.size) ++ cs, .hid ti.size⟩) (off := off) (E' := cap + E - (ln + m)) hget hmd' (by simp) hg l hu hszC (by rw [hlen2]; simp only [Md.hidden]; omega) (fun i v hv => by
              refine ⟨hall v (List.mem_of_getElem? hv), ?_⟩
              have hol : ((ob.cs.drop off).take (ln * ti.size)).length = ln * ti.size := by rw [List.length_take, List.length_drop]; omega
              rw [hgt]
              by_cases hii : i < ln * ti.size
              · rw [List.getElem?_append_left (by rw [hol]; exact hii), List.getElem?_take, if_pos hii, List.getElem?_drop] at hv
                rw [if_neg (by omega)]
                obtain ⟨_, v', b1, b2⟩ := l.cells _ _ hv
                exact ⟨v', by rw [show σ + off + i = σ + (off + i) by omega]; exact b1, b2⟩
              · rw [List.getElem?_append_right (by rw [hol]; omega), hol] at hv
                have hlt : i - ln * ti.size < cs.length := (List.getElem?_eq_some_iff.1 hv).1
                rw [if_pos (by rw [← hrel.1]; omega)]
                obtain ⟨v', b1, b2⟩ := hrel.get? hv
                exact ⟨v', by rw [show σ + off + i - (off + σ + ln * ti.size + 0) = i - ln * ti.size by omega]; exact b1, b2⟩)
            refine ⟨_, _, _, _, _, hk, hsub, Fr.move hg hu, s', ?_, .inr ⟨.slice (some ⟨c, off + σ, none⟩) (ln + m) (cap + E), rfl, fun u hu => ?_⟩⟩
            · rw [run_app_room (P := P) (ty := ty) hs hx hdx hi' hlen hn1 (ad := ⟨c, off + σ, none⟩) (ln := ln) (cap := cap + E) hin (w' := w') (by rw [Addr.add_lit]; simpa using hrun)]
              rfl
            · cases hu
              have := VRel.sliceh (γ := γ.add h.size (c, σ + off, cap + E - (ln + m))) (b := h.size) (off := 0) (k := 0) (len := ln + m) (cap := ln + m) Gam.add_self
              simpa [show ln + m + (cap + E - (ln + m)) = cap + E by omega, Nat.add_comm σ off] using this
          · exact grown (h.del b) (s.del b) rfl c σ E (cap + E) hg rfl hin hk
      · rename_i k0
        obtain ⟨hln, o2, hget2, hmd, hcapfit, hk⟩ := hsp
        rw [hget] at hget2
        cases hget2
        subst hln
        cases rs with
        | sliceh hg =>
          rename_i c σ E
          have hold0 : (ob.cs.drop off).take (0 * ti.size) = [] := by simp
          rw [hold0, List.nil_append] at hk hlen2 hall
          by_cases hin : 0 + m ≤ cap + E
          · have hE : E ≠ 0 := by omega
            simp only [hE, if_false]
            obtain ⟨C, e', lo, hi2, l⟩ := s.at hg hget
            have hsize := l.size
            simp only [hmd, Md.hidden] at hsize
            have hmd' : ob.md ≠ .ro := by rw [hmd]; simp
            have hEz : (cap + E) * ti.size = cap * ti.size + E * ti.size := Nat.add_mul _ _ _
            have hin' : m * ti.size ≤ (cap + E) * ti.size := Nat.mul_le_mul_right _ (by omega)
            have hE' : (0 + m) * ti.size + (cap + E - (0 + m)) * ti.size = (cap + E) * ti.size := by rw [← Nat.add_mul]; congr 1; omega
            have hcell : ∀ u ∈ ys, cell1 u = true := fun u hu => by
              obtain ⟨j, hj, rfl⟩ := List.getElem_of_mem hu
              have hj' : j < cs.length := by rw [hrel.1]; exact hj
              rw [(hrel.2 j hj' hj).cell1]
              exact h1 _ (List.getElem_mem hj')
            obtain ⟨w', C', hrun, hu, hszC, hgt⟩ := run_storeN (P := P) ys (off + σ + (k0 + 1) + 0 * ti.size) 0 C w l.heap (l.own hmd').2 (by rw [hyl]; omega) hcell
            obtain ⟨s', hsub⟩ := s.move (o' := ⟨cs, .hid ti.size⟩) (off := off + (k0 + 1)) (E' := cap + E - (0 + m)) hget hmd' (by simp) hg l hu hszC (by rw [hlen2]; simp only [Md.hidden]; omega) (fun i v hv => by
              refine ⟨hall v (List.mem_of_getElem? hv), ?_⟩
              rw [hgt]
              have hlt : i < cs.length := (List.getElem?_eq_some_iff.1 hv).1
              rw [if_pos (by rw [← hrel.1]; omega)]
              obtain ⟨v', b1, b2⟩ := hrel.get? hv
              exact ⟨v', by rw [show σ + (off + (k0 + 1)) + i - (off + σ + (k0 + 1) + 0 * ti.size + 0) = i by omega]; exact b1, b2⟩)
            refine ⟨_, _, _, _, _, hk, hsub, Fr.move hg hu, s', ?_, .inr ⟨.slice (some ⟨c, off + σ + (k0 + 1), none⟩) (0 + m) (cap + E), rfl, fun u hu => ?_⟩⟩
            · rw [run_app_room (P := P) (ty := ty) hs hx hdx hi' hlen hn1 (ad := ⟨c, off + σ + (k0 + 1), none⟩) (ln := 0) (cap := cap + E) hin (w' := w') (by rw [Addr.add_lit]; simpa using hrun)]
              rfl
            · cases hu
              have := VRel.sliceh (γ := γ.add h.size (c, σ + (off + (k0 + 1)), cap + E - (0 + m))) (b := h.size) (off := 0) (k := 0) (len := 0 + m) (cap := 0 + m) Gam.add_self
              simpa [show m + (cap + E - m) = cap + E by omega, show σ + (off + (k0 + 1)) = off + σ + (k0 + 1) by omega] using this
          · generalize hA : off + σ + (if E = 0 then 0 else k0 + 1) = A
            have s2 := s.del b
            obtain ⟨nc, hnc, hrun⟩ := run_app_grow (P := P) (w := w) (ty := ty) (ba := some ⟨c, A, none⟩) (ln := 0) (cap := cap + E) (old := #[]) hs hx hdx hi' hz hb hlen hin (by simpa using hbytes) (by simp [Builtin.firstCells, loadCells, loadCellsFrom]) hn2
            obtain ⟨s', hsub, hfr⟩ := grow_new s2 hrel h1 hsz e hnc hlen2
            have hds : (h.del b).size = h.size := rfl
            rw [hds] at s' hsub hfr
            refine ⟨_, _, _, _, _, hk, hsub, hfr, s', by rw [hrun, Array.empty_append]; rfl, .inr ⟨.slice (some ⟨w.heap.size, 0, none⟩) (0 + m) nc, rfl, fun u hu => ?_⟩⟩
            cases hu
            have := VRel.sliceh (γ := γ.add h.size (w.heap.size, 0, nc - (0 + m))) (b := h.size) (off := 0) (k := 0) (len := 0 + m) (cap := 0 + m) Gam.add_self
            simpa [show m + (nc - m) = nc by omega] using this
  · exact ha.elim

theorem call_builtin {b : Builtin} {xs : Array Operand} {ts : Array TypeId} (ho : o.op = .call { callee := .builtin b, args := xs, argTypes := ts }) :
    execOp a.eval o = builtin b ts o.type (xs.map fun | .const _ => true | _ => false) (xs.map a.eval) := by
  simp [execOp, ho, resolve, invoke]
  rfl

theorem s_app (r : TRel γ n t a) (s : Sim base w0 γ h w) {m : Nat} {sT xT e e' : TypeId} {ti : TypeInfo} {z : Value} {x y : Operand} (ho : o.op = .call { callee := .builtin .append, args := #[x, y], argTypes := #[sT, xT] })
    (hs1 : P.underlying sT = some (.slice e)) (hx1 : P.underlying xT = some (.slice e')) (hi : P.info? e = some ti) (hz : ti.zero = some z) (hb : 0 < ti.bytes) (hsz : (cellsOf z).length = ti.size) (hx : okO m x = true) (hy : okO m y = true)
    (hs : (AK.app ti.size ti.bytes x y).step t h K) : Got P base w0 γ w ((execOp a.eval o).run P w) K := by
  simp only [AK.step] at hs
  split at hs
  · rename_i sv xa k xc hsv hxv
    obtain ⟨cs, hsrc, ha⟩ := hs
    obtain ⟨ys, hrel, hc1, hyl, ⟨ad', cap', hform⟩, hn1, hn2⟩ := src_run (P := P) s (r.ev hy hxv) rfl hsrc
    have hlen : (Builtin.lenOf (a.eval y)).run P w = .ok k w := by rw [hform]; simp [Builtin.lenOf]
    have := appA_sound (P := P) (ty := o.type) s hs1 hx1 rfl hi hz hb hsz (r.ev hx hsv) hlen hrel hc1 hyl hn1 hn2 ha
    rw [call_builtin ho]
    simpa [builtin] using this
  · exact hs.elim

theorem s_apps (r : TRel γ n t a) (s : Sim base w0 γ h w) {m : Nat} {sT xT e : TypeId} {ti : TypeInfo} {z : Value} {x y : Operand} (ho : o.op = .call { callee := .builtin .append, args := #[x, y], argTypes := #[sT, xT] })
    (hs1 : P.underlying sT = some (.slice e)) (hx1 : P.underlying xT = some .string) (hi : P.info? e = some ti) (hz : ti.zero = some z) (hb : ti.bytes = 1) (hsz : (cellsOf z).length = ti.size) (hsz1 : ti.size = 1) (hx : okO m x = true) (hy : okO m y = true)
    (hs : (AK.apps x y).step t h K) : Got P base w0 γ w ((execOp a.eval o).run P w) K := by
  simp only [AK.step] at hs
  split at hs
  · rename_i sv str hsv hxv
    have e1 := string_of (r.ev hy hxv)
    have hd : str.data.size = str.size := rfl
    have hfc : ∀ w : World, (Builtin.firstCells ti.size str.size (a.eval y)).run P w = .ok (str.data.toList.map fun b => Value.int .u8 b.toNat).toArray w := fun w => by
      rw [e1]
      simp only [Builtin.firstCells, Sem.run_pure]
      congr 1
      have : str.extract 0 str.size = str := by
        apply ByteArray.ext
        simp [ByteArray.data_extract, hd]
      rw [this]
      apply Array.ext'
      simp
    have := appA_sound (P := P) (ty := o.type) (x' := a.eval y) (m := str.size) s hs1 hx1 rfl hi hz (by omega) hsz (r.ev hx hsv) (by rw [e1]; simp [Builtin.lenOf]) (bytes_rel str) (fun u hu => by
      obtain ⟨b, _, rfl⟩ := List.mem_map.1 hu; rfl) (by simp [hsz1, hd]) (hfc w) (hfc _) (by rw [hsz1, hb]; exact hs)
    rw [call_builtin ho]
    simpa [builtin] using this
  · exact hs.elim

theorem s_cpy (r : TRel γ n t a) (s : Sim base w0 γ h w) {m : Nat} {dT sT e : TypeId} {ti : TypeInfo} {x y : Operand} (ho : o.op = .call { callee := .builtin .copy, args := #[x, y], argTypes := #[dT, sT] })
    (hd1 : P.underlying dT = some (.slice e)) (hi : P.info? e = some ti) (hx : okO m x = true) (hy : okO m y = true) (hs : (AK.cpy ti.size x y).step t h K) : Got P base w0 γ w ((execOp a.eval o).run P w) K := by
  simp only [AK.step] at hs
  split at hs
  · rename_i b off sp dl dc xa k xc hdv hxv
    obtain ⟨hf, cs, hsrc, ob, hget, hmd, hfit, hk⟩ := hs
    have rx := r.ev hy hxv
    generalize hax : a.eval y = y' at rx
    have form : ∃ ad' cap', y' = .slice ad' k cap' := by cases rx <;> exact ⟨_, _, rfl⟩
    obtain ⟨ad', cap', rfl⟩ := form
    have rx2 : VRel γ (.slice xa (Nat.min k dl) xc) (.slice ad' (Nat.min k dl) cap') := by
      cases rx with
      | slice0 => rw [show Nat.min 0 dl = 0 by simp]; exact .slice0
      | slicez ad => rw [show Nat.min 0 dl = 0 by simp]; exact .slicez ad
      | slice hg => exact .slice hg
      | sliceh hg => exact .sliceh hg
    obtain ⟨ys, hrel, hc1, hyl, _, hn1, _⟩ := src_run (P := P) s rx2 rfl hsrc
    obtain ⟨c, σ, E, hg, hdx⟩ := slice_of (r.ev hx hdv) hf
    obtain ⟨C, ee, lo, hi2, l⟩ := s.at hg hget
    have hC : σ + ob.cs.length ≤ C.size := Nat.le_trans (Nat.le_add_right _ _) l.size
    have hcl : cs.length = Nat.min k dl * ti.size := by rw [hrel.1, hyl]
    have hcell : ∀ u ∈ ys, cell1 u = true := fun u hu => by
      obtain ⟨j, hj, rfl⟩ := List.getElem_of_mem hu
      have hj' : j < cs.length := by rw [hrel.1]; exact hj
      rw [(hrel.2 j hj' hj).cell1]
      exact hc1 _ (List.getElem_mem hj')
    obtain ⟨w', C', hrun, hu, hszC, hgt⟩ := run_storeN (P := P) ys (off + σ) 0 C w l.heap (l.own hmd).2 (by rw [hyl]; omega) hcell
    have s' := s.put hget hmd hg l hu hszC (cs := spl ob.cs off cs) (by rw [spl_length (by omega)]) (fun j u hj => by
      rw [spl_get (by omega)] at hj
      rw [hgt]
      by_cases hc : off ≤ j ∧ j < off + cs.length
      · rw [if_pos hc] at hj
        refine ⟨hc1 _ (List.mem_of_getElem? hj), ?_⟩
        rw [if_pos (by omega)]
        obtain ⟨u', a1, a2⟩ := hrel.get? hj
        exact ⟨u', by rw [show σ + j - (off + σ + 0) = j - off by omega]; exact a1, a2⟩
      · rw [if_neg hc] at hj
        rw [if_neg (by omega)]
        exact l.cells j u hj)
    refine ⟨_, _, _, _, _, hk, Sub.refl _, Fr.upd hg hu, s', ?_, .inr ⟨goInt (Nat.min k dl : Nat), rfl, fun u hu => by cases hu; exact .int _ _⟩⟩
    rw [call_builtin ho]
    have hfirst : (Builtin.firstCells ti.size (Nat.min k dl) (.slice ad' k cap')).run P w = .ok ys.toArray w := by
      cases ad' <;> simpa [Builtin.firstCells] using hn1
    simp [builtin, Builtin.copy_, run_underlying hd1, hax, hdx, Builtin.lenOf, run_size hi, hfirst, hrun]
  · exact hs.elim

theorem s_clr (r : TRel γ n t a) (s : Sim base w0 γ h w) {m : Nat} {dT e : TypeId} {ti : TypeInfo} {z : Value} {zl : List Value} {x : Operand} (ho : o.op = .call { callee := .builtin .clear, args := #[x], argTypes := #[dT] })
    (hd1 : P.underlying dT = some (.slice e)) (hi : P.info? e = some ti) (hz : ti.zero = some z) (hzl : cellsOf z = zl) (hpos : 0 < zl.length) (hp : zl.all plainV = true) (hx : okO m x = true) (hs : (AK.clr zl x).step t h K) : Got P base w0 γ w ((execOp a.eval o).run P w) K := by
  simp only [AK.step] at hs
  split at hs
  · rename_i l c hv
    have rv := r.ev hx hv
    generalize hax : a.eval x = v' at rv
    refine Got.pure s hs ?_ (.tuple (by rfl) (fun i hi => by simp at hi))
    rw [call_builtin ho]
    cases rv <;> simp [builtin, Builtin.clear_, run_underlying hd1, hax]
  · rename_i b off sp n cap hv
    obtain ⟨hf, ob, hget, hmd, hfit, hk⟩ := hs
    obtain ⟨c, σ, E, hg, hdx⟩ := slice_of (r.ev hx hv) hf
    obtain ⟨C, ee, lo, hi2, l⟩ := s.at hg hget
    have hC : σ + ob.cs.length ≤ C.size := Nat.le_trans (Nat.le_add_right _ _) l.size
    have hzc : z.cells.toList = zl := by rw [cellsOf_eq, hzl]
    have hzs : z.cells.size = zl.length := by rw [← Array.length_toList, hzc]
    have hrep : (rep n zl).length = n * zl.length := by rw [← range_rep zl hpos]; simp
    have hcells : (Builtin.zeroCells z.cells n).toList = rep n zl := by
      rw [← range_rep zl hpos n]
      unfold Builtin.zeroCells
      rw [hzs, Array.toList_map, Array.toList_range]
      apply List.map_congr_left
      intro x _
      rw [show z.cells = zl.toArray by rw [← hzc]]
      simp
    have hcell : ∀ u ∈ rep n zl, cell1 u = true := fun v hv => plainV_cell (List.all_eq_true.1 hp v (rep_mem hv))
    obtain ⟨w', C', hrun, hu, hszC, hgt⟩ := run_storeN (P := P) (rep n zl) (off + σ) 0 C w l.heap (l.own hmd).2 (by omega) hcell
    have s' := s.put hget hmd hg l hu hszC (cs := spl ob.cs off (rep n zl)) (by rw [spl_length (by omega)]) (fun j u hj => by
      rw [spl_get (by omega)] at hj
      rw [hgt]
      by_cases hc : off ≤ j ∧ j < off + (rep n zl).length
      · rw [if_pos hc] at hj
        refine ⟨hcell _ (List.mem_of_getElem? hj), ?_⟩
        rw [if_pos (by omega)]
        exact ⟨u, by rw [show σ + j - (off + σ + 0) = j - off by omega]; exact hj, plainV_rel (List.all_eq_true.1 hp _ (rep_mem (List.mem_of_getElem? hj)))⟩
      · rw [if_neg hc] at hj
        rw [if_neg (by omega)]
        exact l.cells j u hj)
    refine ⟨_, _, _, _, _, hk, Sub.refl _, Fr.upd hg hu, s', ?_, .inr ⟨.tuple #[], rfl, fun u hu => by cases hu; exact .tuple (by rfl) (fun i hi => by simp at hi)⟩⟩
    rw [call_builtin ho]
    cases n with
    | zero =>
      have : rep 0 zl = [] := by simp [rep]
      rw [this] at hrun
      have hw : w' = w := by simpa [storeCells] using hrun.symm
      subst hw
      simp [builtin, Builtin.clear_, run_underlying hd1, hdx]
    | succ n =>
      simp [builtin, Builtin.clear_, run_underlying hd1, hdx, zeroValue, typeInfo, hi, hz, hcells, hrun]
  · exact hs.elim
end
end Go.Proofs.Ytbfbgkhlngkifaa.Am
