/- The compiled steps are sound. Plain theorems.
   Conditions: none. -/
import Derived.Test.YtbfbgkhlngkifaaAmL
namespace Go.Proofs.Ytbfbgkhlngkifaa.Am
open Go Go.RowKit
set_option linter.unusedVariables false
set_option linter.unusedSimpArgs false

/-- What is shown of a compiled step. -/
structure Snd (P : Program) (γ : Gam) (t : Tm) (a : Act) (h : Hp) (o : Oper) (k : AK) : Prop where
  pure : k.isPure = true → ∀ K, k.step t h K → PG P γ o a h K
  all : k.isCall = false → ∀ K base w0 w, Sim base w0 γ h w → k.step t h K → Got P base w0 γ w ((execOp a.eval o).run P w) K

section
variable {P : Program} {n n0 : Nat} {γ : Gam} {h : Hp} {t : Tm} {a : Act} {o : Oper} {k : AK}
theorem Snd.ofPure (h1 : ∀ K, k.step t h K → PG P γ o a h K) : Snd P γ t a h o k := ⟨fun _ K hs => h1 K hs, fun _ K base w0 w s hs => (h1 K hs).got s⟩
theorem Snd.ofGot (hp : k.isPure = false) (h1 : ∀ K base w0 w, Sim base w0 γ h w → k.step t h K → Got P base w0 γ w ((execOp a.eval o).run P w) K) : Snd P γ t a h o k :=
  ⟨(fun h0 => by rw [hp] at h0; cases h0), fun _ => h1⟩
theorem Snd.ofCall (hp : k.isPure = false) (hc : k.isCall = true) : Snd P γ t a h o k := ⟨(fun h0 => by rw [hp] at h0; cases h0), (fun h0 => by rw [hc] at h0; cases h0)⟩

theorem zeroOf_some {ty : TypeId} {ti : TypeInfo} {z : Value} (hz : zeroOf P ty = some (ti, z)) : P.info? ty = some ti ∧ ti.zero = some z := by
  unfold zeroOf at hz
  split at hz
  · rename_i i hi
    split at hz
    · rename_i z' hz'
      cases hz
      exact ⟨hi, hz'⟩
    · cases hz
  · cases hz
theorem list1 {α : Type} {xs : Array α} {x : α} (h : xs.toList = [x]) : xs = #[x] := by apply Array.ext'; simpa using h
theorem list2 {α : Type} {xs : Array α} {x y : α} (h : xs.toList = [x, y]) : xs = #[x, y] := by apply Array.ext'; simpa using h

theorem snd_build (r : TRel γ n0 t a) {ty : TypeId} {ps : Array (Nat × Operand)} (ho : o.op = .build ty ps) (hk : cBuild P n ty ps = some k) : Snd P γ t a h o k := by
  unfold cBuild at hk
  split at hk
  · rename_i ti z hz
    obtain ⟨hi, hz⟩ := zeroOf_some hz
    split at hk
    · rename_i fs hu
      split at hk
      · rename_i places hpl
        split at hk
        · rename_i qs hq
          obtain ⟨hc, rfl⟩ := gd_some hk
          simp only [Bool.and_eq_true] at hc
          refine .ofPure fun K hs => s_build r ho hc.1 hi hz rfl hc.2 (place := (places.toArray[·]?)) (fun parts => ?_) (placed_fits hq) hs
          simp only [Program.built, hi, hu, hz]
          unfold structPlaces at hpl
          rw [hpl]
        · cases hk
      · cases hk
    · rename_i l e hu
      split at hk
      · rename_i ie hie
        split at hk
        · rename_i qs hq
          obtain ⟨hc, rfl⟩ := gd_some hk
          simp only [Bool.and_eq_true] at hc
          refine .ofPure fun K hs => s_build r ho hc.1 hi hz rfl hc.2 (place := fun i => some (i * ie.size, ie.size)) (fun parts => ?_) (placed_fits hq) hs
          simp only [Program.built, hi, hu, hz, hie]
        · cases hk
      · cases hk
    · cases hk
  · cases hk

theorem snd_bslice (r : TRel γ n0 t a) {ty : TypeId} {m : Nat} {ps : Array (Nat × Operand)} (ho : o.op = .buildSlice ty m ps) (hk : cBslice P n ty m ps = some k) : Snd P γ t a h o k := by
  unfold cBslice at hk
  split at hk
  · rename_i e hu
    split at hk
    · rename_i ti hps hi
      cases hk
      exact .ofGot rfl fun K base w0 w s hs => s_bslice0 r s hps ho hu hi hs
    split at hk
    · rename_i ie z hz
      obtain ⟨hi, hz⟩ := zeroOf_some hz
      split at hk
      · rename_i qs hq
        obtain ⟨hc, rfl⟩ := gd_some hk
        simp only [Bool.and_eq_true, decide_eq_true_eq] at hc
        obtain ⟨⟨⟨⟨h1, h2⟩, h3⟩, h4⟩, h5⟩ := hc
        have h5 := Nat.eq_of_beq_eq_true h5
        have hzc : z.cells.toList = cellsOf z := cellsOf_eq z
        have hpos : 0 < ie.size := Nat.pos_of_ne_zero fun e => by rw [e] at h2; simp at h2
        refine .ofGot rfl fun K base w0 w s hs => s_bslice r s ho h1 hu hi hz (by omega) (by omega) ?_ ?_ ?_ (placed_fits hq) hs
        · rw [← range_rep (cellsOf z) (by omega) _, h5, Array.toList_map, Array.toList_range]
          have hsz : z.cells.size = ie.size := by rw [← Array.length_toList, hzc, h5]
          apply List.map_congr_left
          intro x _
          rw [hsz, show z.cells = (cellsOf z).toArray by rw [← hzc]]
          simp
        · exact List.all_eq_true.2 fun v hv => List.all_eq_true.1 h4 v (rep_mem hv)
        · exact fun cs hf => fillA_cell _ _ _ hf fun v hv => plainV_cell (List.all_eq_true.1 h4 v (rep_mem hv))
      · cases hk
    · cases hk
  · cases hk

theorem snd_bin (r : TRel γ n0 t a) {op : BinOp} {ty ty' : TypeId} {x y : Operand} (ho : o.op = .binOp op ty x y ty') (hk : cBin P n op ty x y = some k) : Snd P γ t a h o k := by
  unfold cBin at hk
  split at hk
  · rename_i hu
    obtain ⟨hc, rfl⟩ := gd_some hk
    simp only [Bool.and_eq_true] at hc
    exact .ofPure fun K hs => s_beq (neg := false) r ho hu hc.1 hc.2 hs
  · rename_i hu
    obtain ⟨hc, rfl⟩ := gd_some hk
    simp only [Bool.and_eq_true] at hc
    exact .ofPure fun K hs => s_beq (neg := true) r ho hu hc.1 hc.2 hs
  · rename_i hu
    obtain ⟨hc, rfl⟩ := gd_some hk
    simp only [Bool.and_eq_true] at hc
    exact .ofPure fun K hs => s_nileq (neg := false) r ho hu rfl hc.1 hc.2 hs
  · rename_i hu
    obtain ⟨hc, rfl⟩ := gd_some hk
    simp only [Bool.and_eq_true] at hc
    exact .ofPure fun K hs => s_nileq (neg := true) r ho hu rfl hc.1 hc.2 hs
  · rename_i hu
    obtain ⟨hc, rfl⟩ := gd_some hk
    simp only [Bool.and_eq_true] at hc
    exact .ofPure fun K hs => s_nileq (neg := false) r ho hu rfl hc.1 hc.2 hs
  · rename_i hu
    obtain ⟨hc, rfl⟩ := gd_some hk
    simp only [Bool.and_eq_true] at hc
    exact .ofPure fun K hs => s_nileq (neg := true) r ho hu rfl hc.1 hc.2 hs
  · rename_i hu
    obtain ⟨hc, rfl⟩ := gd_some hk
    simp only [Bool.and_eq_true] at hc
    exact .ofPure fun K hs => s_nileq (neg := false) r ho hu rfl hc.1 hc.2 hs
  · rename_i hu
    obtain ⟨hc, rfl⟩ := gd_some hk
    simp only [Bool.and_eq_true] at hc
    exact .ofPure fun K hs => s_nileq (neg := true) r ho hu rfl hc.1 hc.2 hs
  · rename_i hu
    obtain ⟨hc, rfl⟩ := gd_some hk
    simp only [Bool.and_eq_true, Bool.not_eq_true'] at hc
    exact .ofPure fun K hs => s_eqa (neg := false) r ho hu rfl hc.1.2 (by decide) hc.2 hc.1.1.1 hc.1.1.2 hs
  · rename_i hu
    obtain ⟨hc, rfl⟩ := gd_some hk
    simp only [Bool.and_eq_true, Bool.not_eq_true'] at hc
    exact .ofPure fun K hs => s_eqa (neg := false) r ho hu rfl hc.1.2 (by decide) hc.2 hc.1.1.1 hc.1.1.2 hs
  · rename_i hu
    obtain ⟨hc, rfl⟩ := gd_some hk
    simp only [Bool.and_eq_true, Bool.not_eq_true'] at hc
    exact .ofPure fun K hs => s_eqa (neg := true) r ho hu rfl hc.1.2 (by decide) hc.2 hc.1.1.1 hc.1.1.2 hs
  · rename_i hu
    obtain ⟨hc, rfl⟩ := gd_some hk
    simp only [Bool.and_eq_true, Bool.not_eq_true'] at hc
    exact .ofPure fun K hs => s_eqa (neg := true) r ho hu rfl hc.1.2 (by decide) hc.2 hc.1.1.1 hc.1.1.2 hs
  · split at hk
    · obtain ⟨hc, rfl⟩ := gd_some hk
      exact .ofPure fun K hs => s_shlc r ho hc hs
    · obtain ⟨hc, rfl⟩ := gd_some hk
      simp only [Bool.and_eq_true] at hc
      exact .ofPure fun K hs => s_bin r ho hc.1 hc.2 hs
  · split at hk
    · obtain ⟨hc, rfl⟩ := gd_some hk
      exact .ofPure fun K hs => s_shrc r ho hc hs
    · obtain ⟨hc, rfl⟩ := gd_some hk
      simp only [Bool.and_eq_true] at hc
      exact .ofPure fun K hs => s_bin r ho hc.1 hc.2 hs
  · obtain ⟨hc, rfl⟩ := gd_some hk
    simp only [Bool.and_eq_true] at hc
    exact .ofPure fun K hs => s_bin r ho hc.1 hc.2 hs

theorem snd_conv (r : TRel γ n0 t a) {src dst : TypeId} {x : Operand} (ho : o.op = .convert src dst x) (hk : cConv P n src dst x = some k) : Snd P γ t a h o k := by
  unfold cConv at hk
  split at hk
  · rename_i hu hv
    obtain ⟨hc, rfl⟩ := gd_some hk
    exact .ofPure fun K hs => s_cvi r ho hu hv hc hs
  · rename_i e hu hv
    split at hk
    · rename_i he
      obtain ⟨hc, rfl⟩ := gd_some hk
      exact .ofGot rfl fun K base w0 w s hs => s_sob r s ho hu he hv hc hs
    · cases hk
  · rename_i e hu hv
    split at hk
    · rename_i he
      obtain ⟨hc, rfl⟩ := gd_some hk
      exact .ofGot rfl fun K base w0 w s hs => s_bos r s ho hu he hv hc hs
    · cases hk
  · cases hk

theorem snd_call (r : TRel γ n0 t a) {c : Call} (ho : o.op = .call c) (hk : cCall P n c = some k) : Snd P γ t a h o k := by
  unfold cCall at hk
  split at hk
  · obtain ⟨hc, rfl⟩ := gd_some hk; exact .ofCall rfl rfl
  · obtain ⟨hc, rfl⟩ := gd_some hk; exact .ofCall rfl rfl
  · obtain ⟨hc, rfl⟩ := gd_some hk; exact .ofCall rfl rfl
  · split at hk
    · rename_i x ty hx hty
      rw [list1 hx, list1 hty] at ho
      split at hk
      · rename_i hu
        obtain ⟨hc, rfl⟩ := gd_some hk
        exact .ofPure fun K hs => s_len r ho hu hc hs
      · rename_i hu
        obtain ⟨hc, rfl⟩ := gd_some hk
        exact .ofPure fun K hs => s_lens r ho hu hc hs
      · cases hk
    · cases hk
  · split at hk
    · rename_i x y sT xT hx hty
      rw [list2 hx, list2 hty] at ho
      split at hk
      · rename_i e e' hu hv
        split at hk
        · rename_i ti z hz
          obtain ⟨hi, hz⟩ := zeroOf_some hz
          obtain ⟨hc, rfl⟩ := gd_some hk
          simp only [Bool.and_eq_true, decide_eq_true_eq] at hc
          exact .ofGot rfl fun K base w0 w s hs => s_app r s ho hu hv hi hz hc.1.2 (Nat.eq_of_beq_eq_true hc.2) hc.1.1.1 hc.1.1.2 hs
        · cases hk
      · rename_i e hu hv
        split at hk
        · rename_i ti z hz
          obtain ⟨hi, hz⟩ := zeroOf_some hz
          obtain ⟨hc, rfl⟩ := gd_some hk
          simp only [Bool.and_eq_true] at hc
          exact .ofGot rfl fun K base w0 w s hs => s_apps r s ho hu hv hi hz (Nat.eq_of_beq_eq_true hc.1.1.2) (Nat.eq_of_beq_eq_true hc.1.2) (Nat.eq_of_beq_eq_true hc.2) hc.1.1.1.1 hc.1.1.1.2 hs
        · cases hk
      · cases hk
    · cases hk
  · split at hk
    · rename_i x y dT sT hx hty
      rw [list2 hx, list2 hty] at ho
      split at hk
      · rename_i e hu
        split at hk
        · rename_i ti hi
          obtain ⟨hc, rfl⟩ := gd_some hk
          simp only [Bool.and_eq_true] at hc
          exact .ofGot rfl fun K base w0 w s hs => s_cpy r s ho hu hi hc.1 hc.2 hs
        · cases hk
      · cases hk
    · cases hk
  · split at hk
    · rename_i x dT hx hty
      rw [list1 hx, list1 hty] at ho
      split at hk
      · rename_i e hu
        split at hk
        · rename_i ti z hz
          obtain ⟨hi, hz⟩ := zeroOf_some hz
          obtain ⟨hc, rfl⟩ := gd_some hk
          simp only [Bool.and_eq_true] at hc
          exact .ofGot rfl fun K base w0 w s hs => s_clr r s ho hu hi hz rfl (of_decide_eq_true hc.2) hc.1.2 hc.1.1 hs
        · cases hk
      · cases hk
    · cases hk
  · obtain ⟨hc, rfl⟩ := gd_some hk
    exact .ofPure fun K hs => s_mn r ho hc hs
  · obtain ⟨hc, rfl⟩ := gd_some hk
    exact .ofPure fun K hs => s_mx r ho hc hs
  · cases hk

theorem snd_slice (r : TRel γ n0 t a) {ty : TypeId} {x : Operand} {lo hi mx : Option Operand} (ho : o.op = .slice ty x lo hi mx) (hk : cSlice P n ty x lo hi mx = some k) : Snd P γ t a h o k := by
  unfold cSlice at hk
  split at hk
  · rename_i e hu
    split at hk
    · rename_i ti hi'
      obtain ⟨hc, rfl⟩ := gd_some hk
      simp only [Bool.and_eq_true] at hc
      exact .ofPure fun K hs => s_slc r ho hu hi' hc.1.1.1 hc.1.1.2 hc.1.2 hc.2 hs
    · cases hk
  · rename_i hu
    split at hk
    · obtain ⟨hc, rfl⟩ := gd_some hk
      simp only [Bool.and_eq_true] at hc
      exact .ofPure fun K hs => s_slcs r ho hu hc.1.1 hc.1.2 hc.2 hs
    · cases hk
  · rename_i l e hu
    split at hk
    · rename_i ti hi'
      obtain ⟨hc, rfl⟩ := gd_some hk
      simp only [Bool.and_eq_true] at hc
      exact .ofPure fun K hs => s_slca r ho hu hi' hc.1.1.1 hc.1.1.2 hc.1.2 hc.2 hs
    · cases hk
  · cases hk

theorem snd_field (r : TRel γ n0 t a) {ty : TypeId} {x : Operand} {f : Nat} (ho : o.op = .field ty x f) (hk : cField P n ty x f = some k) : Snd P γ t a h o k := by
  unfold cField at hk
  split at hk
  · rename_i fs hu
    split at hk
    · rename_i fd hf
      split at hk
      · rename_i d ti hd hi
        split at hk
        · rename_i hagg
          obtain ⟨hc, rfl⟩ := gd_some hk
          exact .ofPure fun K hs => s_fldN r ho hu hf hd hagg hi hc hs
        · rename_i hagg
          obtain ⟨hc, rfl⟩ := gd_some hk
          exact .ofPure fun K hs => s_fld1 r ho hu hf hd hagg hc hs
      · cases hk
    · cases hk
  · cases hk

theorem snd_index (r : TRel γ n0 t a) {ty : TypeId} {x i : Operand} (ho : o.op = .index ty x i) (hk : cIndex P n ty x i = some k) : Snd P γ t a h o k := by
  unfold cIndex at hk
  split at hk
  · rename_i hu
    obtain ⟨hc, rfl⟩ := gd_some hk
    simp only [Bool.and_eq_true] at hc
    exact .ofPure fun K hs => s_ixs r ho hu hc.1 hc.2 hs
  · rename_i l e hu
    split at hk
    · rename_i d ti hd hi
      split at hk
      · rename_i hagg
        obtain ⟨hc, rfl⟩ := gd_some hk
        simp only [Bool.and_eq_true] at hc
        exact .ofPure fun K hs => s_ixaN r ho hu hi hd hagg hc.1 hc.2 hs
      · rename_i hagg
        obtain ⟨hc, rfl⟩ := gd_some hk
        simp only [Bool.and_eq_true] at hc
        exact .ofPure fun K hs => s_ixa1 r ho hu hi (Nat.eq_of_beq_eq_true hc.2) hd hagg hc.1.1 hc.1.2 hs
    · cases hk
  · cases hk

theorem cMap_some {n : Nat} {ty : TypeId} {K : TypeId → TypeDesc → TypeId → Option AK} (hk : cMap P n ty K = some k) : ∃ kt et dd, P.underlying ty = some (.map kt et) ∧ P.underlying kt = some dd ∧ plainT P 20 kt = true ∧ K kt dd et = some k := by
  unfold cMap at hk
  split at hk
  · rename_i kt et hu
    split at hk
    · rename_i dd h1 h2
      exact ⟨kt, et, dd, hu, h1, h2, hk⟩
    · cases hk
  · cases hk
theorem snd_upd (r : TRel γ n0 t a) {ty : TypeId} {x y z : Operand} (ho : o.op = .mapUpdate ty x y z ∨ o.op = .insert ty x y z) (hk : cUpd P n ty x y z = some k) : Snd P γ t a h o k := by
  obtain ⟨kt, et, dd, h1, h2, h3, hk⟩ := cMap_some hk
  obtain ⟨hc, rfl⟩ := gd_some hk
  simp only [Bool.and_eq_true] at hc
  exact .ofGot rfl fun K base w0 w s hs => s_upd r s ho h1 h2 h3 (by omega) hc.1.1 hc.1.2 hc.2 hs
theorem snd_lkp (r : TRel γ n0 t a) {ty : TypeId} {x y : Operand} {ok : Bool} (ho : o.op = .lookup ty x y ok) (hk : cLkp P n ty x y ok = some k) : Snd P γ t a h o k := by
  obtain ⟨kt, et, dd, h1, h2, h3, hk⟩ := cMap_some hk
  split at hk
  · rename_i ti z hz
    obtain ⟨hi, hz⟩ := zeroOf_some hz
    obtain ⟨hc, rfl⟩ := gd_some hk
    simp only [Bool.and_eq_true] at hc
    exact .ofGot rfl fun K base w0 w s hs => s_lkp r s ho h1 h2 h3 (by omega) hi hz hc.2 hc.1.1 hc.1.2 hs
  · cases hk
theorem snd_tas (r : TRel γ n0 t a) {xt ty : TypeId} {x : Operand} {ok : Bool} (ho : o.op = .typeAssert x xt ty ok) (hk : cTas P n ty ok x = some k) : Snd P γ t a h o k := by
  unfold cTas at hk
  split at hk
  · rename_i d ti z hd hz
    obtain ⟨hi, hz⟩ := zeroOf_some hz
    obtain ⟨hc, rfl⟩ := gd_some hk
    simp only [Bool.and_eq_true, Bool.not_eq_true'] at hc
    exact .ofPure fun K hs => s_tas r ho hd hc.1.2 hi hz hc.2 hc.1.1 hs
  · cases hk

/-- Each compiled step is sound. -/
theorem cK_sound (r : TRel γ n0 t a) (hk : cK P n o.op = some k) : Snd P γ t a h o k := by
  rcases cK_of hk with hk | rfl
  case inr => exact .ofGot rfl fun K base w0 w s hs => hs.elim
  cases ho : o.op <;> rw [ho] at hk <;> simp only [cK0] at hk <;> try (cases hk; done)
  case move x => obtain ⟨hc, rfl⟩ := gd_some hk; exact .ofPure fun K hs => s_mv r (.inl ho) hc hs
  case assign x => obtain ⟨hc, rfl⟩ := gd_some hk; exact .ofPure fun K hs => s_mv r (.inr ho) hc hs
  case pick c x y =>
    obtain ⟨hc, rfl⟩ := gd_some hk
    simp only [Bool.and_eq_true] at hc
    exact .ofPure fun K hs => s_pick r ho hc.1.1 hc.1.2 hc.2 hs
  case alloc ty =>
    split at hk
    · rename_i ti z hz
      obtain ⟨hi, hz⟩ := zeroOf_some hz
      obtain ⟨hc, rfl⟩ := gd_some hk
      exact .ofGot rfl fun K base w0 w s hs => s_alloc r s ho hi hz rfl hc hs
    · cases hk
  case box ty x => obtain ⟨hc, rfl⟩ := gd_some hk; exact .ofGot rfl fun K base w0 w s hs => s_box r s ho hc hs
  case build ty ps => exact snd_build r ho hk
  case buildSlice ty len ps => exact snd_bslice r ho hk
  case load ty x =>
    split at hk
    · rename_i d ti hd hi
      split at hk
      · rename_i hagg
        obtain ⟨hc, rfl⟩ := gd_some hk
        exact .ofGot rfl fun K base w0 w s hs => s_ldN r s ho hc hd hagg hi rfl hs
      · rename_i hagg
        obtain ⟨hc, rfl⟩ := gd_some hk
        exact .ofGot rfl fun K base w0 w s hs => s_ld1 r s ho hc hd hagg hs
    · cases hk
  case store ty x y =>
    split at hk
    · rename_i ti hi
      obtain ⟨hc, rfl⟩ := gd_some hk
      simp only [Bool.and_eq_true] at hc
      exact .ofGot rfl fun K base w0 w s hs => s_st r s ho hc.1 hc.2 hi rfl hs
    · cases hk
  case nilCheck x => obtain ⟨hc, rfl⟩ := gd_some hk; exact .ofPure fun K hs => s_nil r ho hc hs
  case binOp op ty x y ty' => exact snd_bin r ho hk
  case unOp op ty x => obtain ⟨hc, rfl⟩ := gd_some hk; exact .ofPure fun K hs => s_un r ho hc hs
  case convert src dst x => exact snd_conv r ho hk
  case makeInterface ty x =>
    split at hk
    · rename_i d hd
      obtain ⟨hc, rfl⟩ := gd_some hk
      simp only [Bool.and_eq_true, Bool.not_eq_true'] at hc
      exact .ofPure fun K hs => s_mkif r ho hd hc.2 hc.1 hs
    · cases hk
  case makeFunc fn us vs =>
    cases fn <;> simp only [cK0] at hk <;> try (cases hk; done)
    obtain ⟨hc, rfl⟩ := gd_some hk
    simp only [Bool.and_eq_true] at hc
    exact .ofPure fun K hs => s_mkf r ho hc.1 hc.2 hs
  case makeSlice ty l c =>
    split at hk
    · rename_i e hu
      split at hk
      · rename_i ti z hz
        obtain ⟨hi, hz⟩ := zeroOf_some hz
        obtain ⟨hc, rfl⟩ := gd_some hk
        simp only [Bool.and_eq_true, decide_eq_true_eq] at hc
        exact .ofGot rfl fun K base w0 w s hs => s_mks r s ho hu hi hz rfl (Nat.eq_of_beq_eq_true hc.1.2) hc.2 hc.1.1.2 hc.1.1.1.1 hc.1.1.1.2 hs
      · cases hk
    · cases hk
  case slice ty x lo hi mx => exact snd_slice r ho hk
  case fieldAddr ty x f =>
    split at hk
    · rename_i fs hu
      split at hk
      · rename_i fd hf
        split at hk
        · rename_i ti hi
          obtain ⟨hc, rfl⟩ := gd_some hk
          simp only [Bool.and_eq_true, Bool.not_eq_true'] at hc
          exact .ofPure fun K hs => s_fa r ho hu hf hi (fun e => by rw [e] at hc; simp at hc) hc.1 hs
        · cases hk
      · cases hk
    · cases hk
  case field ty x f => exact snd_field r ho hk
  case makeMap ty x =>
    split at hk
    · rename_i kt et hu
      obtain ⟨hc, rfl⟩ := gd_some hk
      exact .ofGot rfl fun K base w0 w s hs => s_mkm r s ho hu hc hs
    · cases hk
  case mapUpdate ty x y z => exact snd_upd r (.inl ho) hk
  case insert ty x y z => exact snd_upd r (.inr ho) hk
  case lookup ty x y ok => exact snd_lkp r ho hk
  case typeAssert x xt ty ok => exact snd_tas r ho hk
  case indexAddr ty x i =>
    split at hk
    · rename_i e hu
      split at hk
      · rename_i ti hi
        obtain ⟨hc, rfl⟩ := gd_some hk
        simp only [Bool.and_eq_true] at hc
        exact .ofPure fun K hs => s_ia r ho hu hi hc.1 hc.2 hs
      · cases hk
    · rename_i l e hu
      split at hk
      · rename_i ti hi
        obtain ⟨hc, rfl⟩ := gd_some hk
        simp only [Bool.and_eq_true] at hc
        exact .ofPure fun K hs => s_iaa r ho hu hi hc.1 hc.2 hs
      · cases hk
    · cases hk
  case index ty x i => exact snd_index r ho hk
  case extract x i => obtain ⟨hc, rfl⟩ := gd_some hk; exact .ofPure fun K hs => s_ext r ho hc hs
  case call c => exact snd_call r ho hk
end
end Go.Proofs.Ytbfbgkhlngkifaa.Am
