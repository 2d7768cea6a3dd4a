/- The abstract steps: slice expressions, made slices, bytes and strings. Plain theorems.
   Conditions: none. -/
import Derived.Test.YtbfbgkhlngkifaaAmH
import Derived.Laws.MakeOwn
import Derived.Laws.BytesString
namespace Go.Proofs.Ytbfbgkhlngkifaa.Am
open Go Go.RowKit
set_option linter.unusedVariables false
set_option linter.unusedSimpArgs false

section
variable {P : Program} {n base : Nat} {w0 : World} {γ : Gam} {h : Hp} {w : World} {t : Tm} {a : Act} {K : Option Value → Hp → Prop} {o : Oper}

theorem add_at (c off k : Nat) : (if k = 0 then (⟨c, off, none⟩ : Addr) else ⟨c, off + k, none⟩) = ⟨c, off + k, none⟩ := by
  split
  · rename_i h; simp [h]
  · rfl

theorem s_slc (r : TRel γ n t a) {m : Nat} {ty e : TypeId} {ti : TypeInfo} {x : Operand} {lo hi mx : Option Operand} (ho : o.op = .slice ty x lo hi mx) (hu : P.underlying ty = some (.slice e)) (hi' : P.info? e = some ti)
    (hx : okO m x = true) (hlo : lo.all (okO m) = true) (hhi : hi.all (okO m) = true) (hmx : mx.all (okO m) = true) (hs : (AK.slc ti.size x lo hi mx).step t h K) : PG P γ o a h K := by
  simp only [AK.step] at hs
  split at hs
  · rename_i b off sp ln cap l u m3 hv hl hu' hm
    obtain ⟨hf, hcap, hb⟩ := hs
    obtain ⟨c, σ, E, hg, hax⟩ := slice_of (r.ev hx hv) hf
    obtain ⟨i, j, k, hk, hrun, hij, hjk, hfull, hkc0⟩ := bnds_run (P := P) (isSlice := true) (ln := ln) (Nat.le_add_right cap (if sp.isSome then E else 0)) (opt_ints r hlo hl) (opt_ints r hhi hu') (opt_ints r hmx hm) hb
    have hle : sp.isSome = true → m3.isNone = true → i ≤ cap := fun h1 h2 => by
      cases sp with
      | none => cases h1
      | some k0 =>
        have hc : ln ≤ cap := hcap
        have hkc := hfull h2
        rcases hjk with h3 | ⟨_, _, rfl⟩ <;> omega
    have run : ∀ w, (execOp a.eval o).run P w = .ok (.value (.slice (some ⟨c, if (if m3.isNone then cap + (if sp.isSome then E else 0) else k) = i then off + σ else off + σ + i * ti.size, none⟩) (j - i) ((if m3.isNone then cap + (if sp.isSome then E else 0) else k) - i))) w := fun w => by
      simp only [execOp, ho, Sem.run_bind]
      rw [show (Instr.sliceAt ty (a.eval x) (lo.map a.eval) (hi.map a.eval) (mx.map a.eval)).run P w = (Instr.slice ty (a.eval x) (lo.map a.eval) (hi.map a.eval) (mx.map a.eval)).run P w by simp [Instr.sliceAt, run_underlying hu]]
      simp only [Instr.slice, Sem.run_bind, run_underlying hu, Result.andThen_ok, hax, hrun, run_size hi', Sem.run_pure]
      generalize (if m3.isNone = true then cap + (if sp.isSome = true then E else 0) else k) = M
      by_cases hM : M = i <;> simp [hM, Addr.add_lit]
    cases m3 with
    | some mv =>
      simp only [Option.isNone_some, Bool.false_eq_true, if_false] at run hk
      refine PG.of hk run ?_
      have hsl : slAddr b off sp ti.size i k false = ⟨b, if k = i then off else off + i * ti.size, none⟩ := by cases sp <;> rfl
      rw [hsl]
      have := VRel.slice (γ := γ) (off := if k = i then off else off + i * ti.size) (len := j - i) (cap := k - i) hg
      split at this <;> split <;> simp_all [Nat.add_right_comm]
    | none =>
      simp only [Option.isNone_none, if_true] at run hk
      have hkc : k = cap := hfull rfl
      subst hkc
      refine PG.of hk run ?_
      cases sp with
      | none =>
        simp only [Option.isSome_none, Bool.false_eq_true, if_false, Nat.add_zero, slAddr]
        have := VRel.slice (γ := γ) (off := if k = i then off else off + i * ti.size) (len := j - i) (cap := k - i) hg
        split at this <;> split <;> simp_all [Nat.add_right_comm]
      | some k0 =>
        have hk0 : k0 = 0 := by
          cases k0 with
          | zero => rfl
          | succ _ => simp [flagOk] at hf
        subst hk0
        have hik := hle rfl rfl
        simp only [Option.isSome_some, if_true, slAddr]
        by_cases hki : k = i
        · rw [if_pos hki]
          subst hki
          have := VRel.sliceh (γ := γ) (off := off) (k := k * ti.size) (len := j - k) (cap := k - k) hg
          by_cases hE : E = 0
          · subst hE; simpa using this
          · rw [if_neg (by omega)]
            rw [if_neg hE] at this
            rw [show k + E - k = k - k + E by omega]
            exact this
        · rw [if_neg hki, if_neg (by omega)]
          have := VRel.sliceh (γ := γ) (off := off + i * ti.size) (k := 0) (len := j - i) (cap := k - i) hg
          rw [show k + E - i = k - i + E by omega]
          simpa [Nat.add_right_comm] using this
  · rename_i l u m3 hv hl hu' hm
    have rv := r.ev hx hv
    generalize hax : a.eval x = x' at rv
    cases rv
    obtain ⟨i, j, k, hk, hrun, hij, hjk, hfull, hkc0⟩ := bnds_run (P := P) (isSlice := true) (ln := 0) (Nat.le_refl 0) (opt_ints r hlo hl) (opt_ints r hhi hu') (opt_ints r hmx hm) hs
    refine PG.of hk (v' := .slice none (j - i) ((if m3.isNone then 0 else k) - i)) (fun w => ?_) ?_
    · simp only [execOp, ho, Sem.run_bind]
      rw [show (Instr.sliceAt ty (a.eval x) (lo.map a.eval) (hi.map a.eval) (mx.map a.eval)).run P w = (Instr.slice ty (a.eval x) (lo.map a.eval) (hi.map a.eval) (mx.map a.eval)).run P w by simp [Instr.sliceAt, run_underlying hu]]
      simp only [Instr.slice, Sem.run_bind, run_underlying hu, Result.andThen_ok, hax, hrun, run_size hi', Sem.run_pure]
      simp
    · have hj : j = 0 := by rcases hjk with h3 | ⟨_, _, rfl⟩ <;> omega
      have h1 : j - i = 0 := by omega
      have h2 : (if m3.isNone then 0 else k) - i = 0 := by split <;> omega
      rw [h1, h2]
      exact .slice0
  · exact hs.elim

theorem s_slcs (r : TRel γ n t a) {m : Nat} {ty : TypeId} {x : Operand} {lo hi : Option Operand} (ho : o.op = .slice ty x lo hi none) (hu : P.underlying ty = some .string)
    (hx : okO m x = true) (hlo : lo.all (okO m) = true) (hhi : hi.all (okO m) = true) (hs : (AK.slcs x lo hi).step t h K) : PG P γ o a h K := by
  simp only [AK.step] at hs
  split at hs
  · rename_i str l u hv hl hu'
    have e1 := string_of (r.ev hx hv)
    obtain ⟨i, j, k, hk, hrun, _⟩ := bnds_run (P := P) (isSlice := false) (ln := str.size) (Nat.le_refl str.size) (opt_ints r hlo hl) (opt_ints r hhi hu') (.inl ⟨rfl, rfl⟩) hs
    refine PG.of hk (fun w => ?_) (.string _)
    simp only [execOp, ho, Sem.run_bind]
    rw [show (Instr.sliceAt ty (a.eval x) (lo.map a.eval) (hi.map a.eval) (Option.map a.eval none)).run P w = (Instr.slice ty (a.eval x) (lo.map a.eval) (hi.map a.eval) none).run P w by simp [Instr.sliceAt, run_underlying hu]]
    simp [Instr.slice, run_underlying hu, e1, hrun]
  · exact hs.elim

theorem s_slca (r : TRel γ n t a) {m l0 : Nat} {ty e : TypeId} {ti : TypeInfo} {x : Operand} {lo hi mx : Option Operand} (ho : o.op = .slice ty x lo hi mx) (hu : P.underlying ty = some (.array l0 e)) (hi' : P.info? e = some ti)
    (hx : okO m x = true) (hlo : lo.all (okO m) = true) (hhi : hi.all (okO m) = true) (hmx : mx.all (okO m) = true) (hs : (AK.slca l0 ti.size x lo hi mx).step t h K) : PG P γ o a h K := by
  simp only [AK.step] at hs
  split at hs
  · rename_i b off l u m3 hv hl hu' hm
    obtain ⟨c, σ, E, hg, hax⟩ := ptr_of (r.ev hx hv)
    obtain ⟨i, j, k, hk, hrun, hij, hjk, hfull, _⟩ := bnds_run (P := P) (isSlice := false) (ln := l0) (Nat.le_refl l0) (opt_ints r hlo hl) (opt_ints r hhi hu') (opt_ints r hmx hm) hs
    have hm' : (if m3.isNone then l0 else k) = k := by
      split
      · rename_i h1; exact (hfull h1).symm
      · rfl
    rw [hm'] at hrun
    refine PG.of hk (v' := .slice (some ⟨c, (if k = i then off else off + i * ti.size) + σ, none⟩) (j - i) (k - i)) (fun w => ?_) (.slice hg)
    simp only [execOp, ho, Sem.run_bind, Instr.sliceAt, run_underlying hu, Result.andThen_ok, hax, Instr.sureAddr, Sem.run_pure, hrun, run_size hi']
    by_cases hki : k = i <;> simp [hki, Addr.add_lit, Nat.add_right_comm]
  · exact hs.elim

theorem range_rep (zl : List Value) (hz : 0 < zl.length) : ∀ m : Nat, ((List.range (m * zl.length)).map fun i => zl[i % zl.length]!) = rep m zl
  | 0 => by simp [rep]
  | m + 1 => by
    rw [Nat.add_mul, Nat.one_mul, List.range_add, List.map_append, range_rep zl hz m]
    have : rep (m + 1) zl = rep m zl ++ zl := by simp [rep, List.replicate_succ']
    rw [this]
    congr 1
    apply List.ext_getElem
    · simp
    · intro i h1 h2
      simp only [List.length_map, List.length_range] at h1
      simp only [List.getElem_map, List.getElem_range]
      rw [Nat.mul_comm, Nat.mul_add_mod, Nat.mod_eq_of_lt h1]
      simp [h1]
theorem rep_mem {m : Nat} {zl : List Value} {v : Value} (h : v ∈ rep m zl) : v ∈ zl := by
  simp only [rep, List.mem_flatten, List.mem_replicate] at h
  obtain ⟨l, ⟨_, rfl⟩, hv⟩ := h
  exact hv

theorem s_mks (r : TRel γ n t a) (s : Sim base w0 γ h w) {m : Nat} {ty e : TypeId} {ti : TypeInfo} {z : Value} {zl : List Value} {l c : Operand} (ho : o.op = .makeSlice ty l c) (hu : P.underlying ty = some (.slice e)) (hi : P.info? e = some ti) (hz : ti.zero = some z)
    (hzl : cellsOf z = zl) (hsz : zl.length = ti.size) (hpos : 0 < ti.size) (hp : zl.all plainV = true) (hl : okO m l = true) (hc : okO m c = true) (hs : (AK.mks zl ti.bytes l c).step t h K) : Got P base w0 γ w ((execOp a.eval o).run P w) K := by
  simp only [AK.step] at hs
  split at hs
  · rename_i k1 i k2 j hv hw
    obtain ⟨⟨h0, hij, hb, hj⟩, hk⟩ := hs
    have e1 := int_of (r.ev hl hv)
    have e2 := int_of (r.ev hc hw)
    have hzc : z.cells.toList = zl := by rw [cellsOf_eq, hzl]
    have hzs : z.cells.size = zl.length := by rw [← Array.length_toList, hzc]
    have hrel : LRel γ (rep j.toNat zl) (rep j.toNat zl) := ⟨rfl, fun i hi _ => plainV_rel (List.all_eq_true.1 hp _ (rep_mem (List.getElem_mem hi)))⟩
    obtain ⟨s', hsub⟩ := s.alloc e hrel (fun v hv => plainV_cell (List.all_eq_true.1 hp v (rep_mem hv)))
    have hcells : madeCells z.cells (j.toNat * ti.size) = (rep j.toNat zl).toArray := by
      apply Array.ext'
      rw [← range_rep zl (by omega) j.toNat, ← hsz]
      unfold madeCells
      rw [hzs, Array.toList_map, Array.toList_range]
      apply List.map_congr_left
      intro x _
      rw [show z.cells = zl.toArray by rw [← hzc]]
      simp
    refine ⟨_, _, _, _, _, hk, hsub, Fr.new (by simp) (fun k hk => Below.heap_alloc _ _ _ hk) (s.top _ (Nat.le_refl _)).1, s', ?_, .inr ⟨.slice (some ⟨w.heap.size, 0, none⟩) i.toNat j.toNat, rfl, fun u hu => ?_⟩⟩
    · simp only [execOp, ho, Sem.run_bind, e1, e2]
      rw [run_make w ty e ti z hu hi hz k1 k2 i j h0 hij (by omega) (by omega), hcells]
      rfl
    · cases hu
      exact VRel.slice (off := 0) Gam.add_self
  · exact hs.elim

theorem s_bos (r : TRel γ n t a) (s : Sim base w0 γ h w) {m : Nat} {src dst e : TypeId} {x : Operand} (ho : o.op = .convert src dst x) (hs1 : P.underlying src = some (.slice e)) (he : P.underlying e = some (.int .u8)) (hd : P.underlying dst = some .string)
    (hx : okO m x = true) (hs : (AK.bos x).step t h K) : Got P base w0 γ w ((execOp a.eval o).run P w) K := by
  simp only [AK.step] at hs
  split at hs
  · rename_i l c hv
    have rv := r.ev hx hv
    generalize hax : a.eval x = v' at rv
    cases rv with
    | slice0 =>
      refine Got.pure s hs ?_ (.string _)
      simp [execOp, ho, hax, run_convert_bytes_string w src dst e none 0 0 hs1 he hd, Conv.bytesToString]
    | slicez ad =>
      refine Got.pure s hs ?_ (.string _)
      have hrun : (loadCells ad 0).run P w = .ok (([] : List Int).map (Value.int .u8)).toArray w := run_loadCells_list (P := P) w ad [] (fun j v hv => by simp at hv)
      simp only [execOp, ho, hax, Sem.run_bind, run_convert_bytes_string w src dst e _ _ _ hs1 he hd, run_bytesToString w _ 0 _ [] hrun, Result.andThen_ok, Sem.run_pure]
      rfl
  · rename_i b off sp ln cap hv
    obtain ⟨hf, ns, hrd, hk⟩ := hs
    obtain ⟨c, σ, E, hg, hax⟩ := slice_of (r.ev hx hv) hf
    obtain ⟨ob, hget, hle, hcs⟩ := rdN_of hrd
    obtain ⟨C, ee, lo, hi', l⟩ := s.at hg hget
    obtain ⟨ys, hrel, _, _, hrun⟩ := l.run (P := P) hle
    have hys : ys = ns.map (Value.int .u8) := by
      rw [← hcs] at hrel
      apply List.ext_getElem?
      intro i
      by_cases hi : i < ns.length
      · obtain ⟨v', h1, h2⟩ := hrel.get? (i := i) (v := .int .u8 ns[i]) (by simp [hi])
        cases h2
        rw [h1]
        simp [hi]
      · have := hrel.1
        simp at this
        rw [List.getElem?_eq_none (by omega), List.getElem?_eq_none (by simp; omega)]
    rw [hys] at hrun
    refine Got.pure s hk ?_ (.string _)
    simp only [execOp, ho, hax, Sem.run_bind, run_convert_bytes_string w src dst e _ _ _ hs1 he hd, run_bytesToString w _ ln _ ns hrun, Result.andThen_ok, Sem.run_pure]
    congr 3
    have : ∀ (ns : List Int) (B : ByteArray), ns.foldl (fun r n => r.push (UInt8.ofNat n.toNat)) B = ⟨B.data ++ (ns.map fun n => UInt8.ofNat n.toNat).toArray⟩ := by
      intro ns
      induction ns with
      | nil => intro B; simp
      | cons n ns ih =>
        intro B
        rw [List.foldl_cons, ih]
        simp [ByteArray.push, List.map_cons]
    rw [this]
    congr 1
    show (#[] : Array UInt8) ++ _ = _
    simp
  · exact hs.elim
end
end Go.Proofs.Ytbfbgkhlngkifaa.Am
