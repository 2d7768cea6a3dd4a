/- The abstract steps: strings as bytes, append, copy. Plain theorems.
   Conditions: none. -/
import Derived.Test.YtbfbgkhlngkifaaAmI
namespace Go.Proofs.Ytbfbgkhlngkifaa.Am
open Go Go.RowKit
set_option linter.unusedVariables false
set_option linter.unusedSimpArgs false

section
variable {P : Program} {n base : Nat} {w0 : World} {γ : Gam} {h : Hp} {w : World} {t : Tm} {a : Act} {K : Option Value → Hp → Prop} {o : Oper}

theorem bytes_rel (s : ByteArray) : LRel γ (s.data.toList.map fun b => Value.int .u8 b.toNat) (s.data.toList.map fun b => Value.int .u8 b.toNat) := by
  refine ⟨rfl, fun i hi _ => ?_⟩
  simp only [List.getElem_map]
  exact .int _ _

theorem freeze_end {w : World} {c : Nat} {C : Array Value} {e : TypeId} (hh : w.heap[c]? = some (.cells C e (0, 0))) :
    (w.freeze ⟨c, C.size, none⟩ 1).heap.size = w.heap.size ∧ (w.freeze ⟨c, C.size, none⟩ 1).heap[c]? = some (.cells C e (C.size, C.size + 1)) ∧
      (∀ k, k ≠ c → (w.freeze ⟨c, C.size, none⟩ 1).heap[k]? = w.heap[k]?) ∧ (w.freeze ⟨c, C.size, none⟩ 1).os = w.os ∧ (w.freeze ⟨c, C.size, none⟩ 1).tape = w.tape ∧ (w.freeze ⟨c, C.size, none⟩ 1).output = w.output := by
  unfold World.freeze
  rw [if_neg (by omega)]
  refine ⟨by simp, ?_, fun k hk => ?_, rfl, rfl, rfl⟩
  · simp only [Array.getElem?_modify, if_true, hh, Option.map_some]
    simp
  · simp only [Array.getElem?_modify]
    rw [if_neg (fun e => hk e.symm)]

theorem s_sob (r : TRel γ n t a) (s : Sim base w0 γ h w) {m : Nat} {src dst e : TypeId} {x : Operand} (ho : o.op = .convert src dst x) (hs1 : P.underlying src = some .string) (he : P.underlying e = some (.int .u8)) (hd : P.underlying dst = some (.slice e))
    (hx : okO m x = true) (hs : (AK.sob x).step t h K) : Got P base w0 γ w ((execOp a.eval o).run P w) K := by
  simp only [AK.step] at hs
  split at hs
  · rename_i str hv
    have e1 := string_of (r.ev hx hv)
    let cap := Question.cut (.appendCap str.size 0 e) (w.tape w.drawn (.appendCap str.size 0 e))
    have hcap : str.size ≤ cap := Nat.le_add_right _ _
    let C : Array Value := str.data.map (fun b => Value.int .u8 b.toNat) ++ Array.replicate (cap - str.size) (.int .u8 0)
    have hsz : str.data.size = str.size := rfl
    have hC : C.size = cap := by
      show (str.data.map (fun b : UInt8 => Value.int .u8 (b.toNat : Int)) ++ Array.replicate (cap - str.size) (Value.int .u8 0)).size = cap
      rw [Array.size_append, Array.size_map, Array.size_replicate, hsz]
      omega
    let w1 : World := { w with drawn := w.drawn + 1 }
    let w2 : World := (w1.alloc (.cells C e)).freeze ⟨w.heap.size, C.size, none⟩ 1
    obtain ⟨f1, f2, f3, f4, f5, f6⟩ := freeze_end (w := w1.alloc (.cells C e)) (c := w.heap.size) (C := C) (e := e) (heap_alloc_new w1 _)
    have hw2 : w2.heap.size = w.heap.size + 1 := f1.trans (by simp [w1])
    have hold : ∀ k, k < w.heap.size → w2.heap[k]? = w.heap[k]? := fun k hk => (f3 k (by omega)).trans (Below.heap_alloc w1 _ k hk)
    obtain ⟨s', hsub⟩ := s.new (w' := w2) (o := ⟨str.data.toList.map fun b => .int .u8 b.toNat, .hid 1⟩) (by simp) (C := C) (e := e) (lo := C.size) (hi := C.size + 1) (E := cap - str.size) hw2 f4 f5 f6 hold f2 (fun i hi => by omega) (by rw [hC]; simp only [List.length_map, Array.length_toList, hsz, Md.hidden]; omega) (fun i v hv => by
        refine ⟨?_, v, ?_, ?_⟩
        · obtain ⟨b, _, rfl⟩ := List.mem_map.1 (List.mem_of_getElem? hv); rfl
        · have hi : i < str.data.size := by have := (List.getElem?_eq_some_iff.1 hv).1; simpa using this
          rw [Array.getElem?_append_left (by simpa using hi)]
          rw [← Array.getElem?_toList, Array.toList_map]
          exact hv
        · obtain ⟨b, _, rfl⟩ := List.mem_map.1 (List.mem_of_getElem? hv); exact .int _ _)
    refine ⟨_, _, _, _, _, hs, hsub, Fr.new hw2 hold (s.top _ (Nat.le_refl _)).1, s', ?_, .inr ⟨.slice (some ⟨w.heap.size, 0, none⟩) str.size cap, rfl, fun u hu => ?_⟩⟩
    · have hr : (convert src dst (.string str)).run P w = .ok (.slice (some ⟨w.heap.size, 0, none⟩) str.size cap) w2 := by
        simp only [convert, Sem.run_bind, run_underlying hs1, run_underlying hd, run_underlying he, Result.andThen_ok, Conv.stringToBytes, run_choose, Question.forced, Bool.false_eq_true, if_false, newRow, run_newObj, Sem.run_pure, markStringish, run_shape]
        show ((match (w1.alloc (.cells C e)).shape? w.heap.size with
          | some (fst, n) => freeze { block := w.heap.size, off := n } 1
          | x => Pure.pure ()).run P (w1.alloc (.cells C e))).andThen (fun _ w' => Result.ok (Value.slice (some ⟨w.heap.size, 0, none⟩) str.size cap) w') = _
        have hsh : (w1.alloc (.cells C e)).shape? w.heap.size = some (e, C.size) := by
          have := heap_alloc_new w1 (.cells C e)
          simp only [World.shape?]
          rw [show w.heap.size = w1.heap.size from rfl, this]
        rw [hsh]
        simp only [run_freeze, Result.andThen_ok]
        rfl
      simp [execOp, ho, e1, hr]
    · cases hu
      have := VRel.sliceh (γ := γ.add h.size (w.heap.size, 0, cap - str.size)) (b := h.size) (off := 0) (k := 0) (len := str.size) (cap := str.size) Gam.add_self
      simpa [show str.size + (cap - str.size) = cap by omega] using this
  · exact hs.elim
end
end Go.Proofs.Ytbfbgkhlngkifaa.Am
