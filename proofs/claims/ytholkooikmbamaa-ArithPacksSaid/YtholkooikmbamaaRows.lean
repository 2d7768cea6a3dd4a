/-
  No cell of these rows narrows 'for every input' (looked for: loops, veiled, ifaces, maps, wideKeys, modest, calm, conditions, laid).
  DERIVED. THE GIVEN ROWS OF THIS SEAT. 7 by the template 'for every input the law returns true; each argument reads behind the call as it read before'; 0 by the template 'total and deterministic' (their statements: YtholkooikmbamaaTotals.lean).
  GIVEN WITH THE SEED: the statements are not yours to turn. If you find one false, say at which input.
  Laid BY PROGRAM, IN A SANDBOX (cutbox-rows.mjs): the forced cells as the released guide's own fill.sh prints them over the translation a5637e933f3c277a… (all of the seat's roots in one cut). By AI agents, Wed Nov 11 2026. No macro, syntax, notation, axiom, sorry.
-/
import Derived.Test.YtholkooikmbamaaChecked
import GoSem.Claim
import GoSem.ClaimJoined
import GoSem.ClaimMapViews
import Derived.JoinedTies
import Derived.KernelRfl
namespace Go.Proofs.Ytholkooikmbamaa
/- THE CELL 'sum', in the pinned program and in every row, IS THE sha256 OF THE DUMP (.gsa) THAT YtholkooikmbamaaProg.lean LOADS. Nothing in Lean hashes anything: it is a label: what it is worth is what the hold of that sum in a sandbox is worth. -/
noncomputable def Try.pinned : Pinned := { name := "ytholkooikmbamaa", sum := "a5637e933f3c277a99281c5631b28d79194b8a09f071465fffa1ec8f06032b7c", checked := Try.checked }
namespace Rows
def none {H : Type} : Left H := { results := [], args := [] }

/-- 'dioramalaw13.ArithCosts': WHATEVER THE INPUT: true; the input reads as it did. -/
def arithCostsSpec : ChangeSpec := { name := "arithCosts", fn := fun _ => fun
  | [d1, d2] => { results := [.lit (.bool true)], args := [d1, d2] }
  | _ => none }
def arithCostsRow : OpenClaim := { program := "ytholkooikmbamaa", sum := "a5637e933f3c277a99281c5631b28d79194b8a09f071465fffa1ec8f06032b7c", func := "diorama/dioramalaw13.ArithCosts", spec := "arithCosts", unfollowed := true, recurses := true, apart := false }
def ArithCostsSaid : Prop := arithCostsRow.holds Try.pinned (OpenSpec.ofChange arithCostsSpec)

/-- ITS FALSE NEIGHBOUR: 'it returns false'. Refute it at one input. -/
def arithCostsWrong : ChangeSpec := { name := "arithCosts", fn := fun _ => fun
  | [d1, d2] => { results := [.lit (.bool false)], args := [d1, d2] }
  | _ => none }
def ArithCostsWrongFalsely : Prop := arithCostsRow.holds Try.pinned (OpenSpec.ofChange arithCostsWrong)

/-- 'dioramalaw13.ArithWrites': WHATEVER THE INPUT: true; the input reads as it did. -/
def arithWritesSpec : ChangeSpec := { name := "arithWrites", fn := fun _ => fun
  | [d] => { results := [.lit (.bool true)], args := [d] }
  | _ => none }
def arithWritesRow : OpenClaim := { program := "ytholkooikmbamaa", sum := "a5637e933f3c277a99281c5631b28d79194b8a09f071465fffa1ec8f06032b7c", func := "diorama/dioramalaw13.ArithWrites", spec := "arithWrites", unfollowed := true, recurses := true, apart := false }
def ArithWritesSaid : Prop := arithWritesRow.holds Try.pinned (OpenSpec.ofChange arithWritesSpec)

/-- ITS FALSE NEIGHBOUR: 'it returns false'. Refute it at one input. -/
def arithWritesWrong : ChangeSpec := { name := "arithWrites", fn := fun _ => fun
  | [d] => { results := [.lit (.bool false)], args := [d] }
  | _ => none }
def ArithWritesWrongFalsely : Prop := arithWritesRow.holds Try.pinned (OpenSpec.ofChange arithWritesWrong)

/-- 'dioramalaw13.ArithStates': WHATEVER THE INPUT: true; the input reads as it did. -/
def arithStatesSpec : ChangeSpec := { name := "arithStates", fn := fun _ => fun
  | [d1, d2, d3] => { results := [.lit (.bool true)], args := [d1, d2, d3] }
  | _ => none }
def arithStatesRow : OpenClaim := { program := "ytholkooikmbamaa", sum := "a5637e933f3c277a99281c5631b28d79194b8a09f071465fffa1ec8f06032b7c", func := "diorama/dioramalaw13.ArithStates", spec := "arithStates", unfollowed := true, recurses := true, apart := false }
def ArithStatesSaid : Prop := arithStatesRow.holds Try.pinned (OpenSpec.ofChange arithStatesSpec)

/-- ITS FALSE NEIGHBOUR: 'it returns false'. Refute it at one input. -/
def arithStatesWrong : ChangeSpec := { name := "arithStates", fn := fun _ => fun
  | [d1, d2, d3] => { results := [.lit (.bool false)], args := [d1, d2, d3] }
  | _ => none }
def ArithStatesWrongFalsely : Prop := arithStatesRow.holds Try.pinned (OpenSpec.ofChange arithStatesWrong)

/-- 'dioramalaw13.ArithReads': WHATEVER THE INPUT: true; the input reads as it did. -/
def arithReadsSpec : ChangeSpec := { name := "arithReads", fn := fun _ => fun
  | [d1, d2] => { results := [.lit (.bool true)], args := [d1, d2] }
  | _ => none }
def arithReadsRow : OpenClaim := { program := "ytholkooikmbamaa", sum := "a5637e933f3c277a99281c5631b28d79194b8a09f071465fffa1ec8f06032b7c", func := "diorama/dioramalaw13.ArithReads", spec := "arithReads", unfollowed := true, recurses := true, apart := false }
def ArithReadsSaid : Prop := arithReadsRow.holds Try.pinned (OpenSpec.ofChange arithReadsSpec)

/-- ITS FALSE NEIGHBOUR: 'it returns false'. Refute it at one input. -/
def arithReadsWrong : ChangeSpec := { name := "arithReads", fn := fun _ => fun
  | [d1, d2] => { results := [.lit (.bool false)], args := [d1, d2] }
  | _ => none }
def ArithReadsWrongFalsely : Prop := arithReadsRow.holds Try.pinned (OpenSpec.ofChange arithReadsWrong)

/-- 'dioramalaw13.ArithPacks': WHATEVER THE INPUT: true; the input reads as it did. -/
def arithPacksSpec : ChangeSpec := { name := "arithPacks", fn := fun _ => fun
  | [d1, d2, d3] => { results := [.lit (.bool true)], args := [d1, d2, d3] }
  | _ => none }
def arithPacksRow : OpenClaim := { program := "ytholkooikmbamaa", sum := "a5637e933f3c277a99281c5631b28d79194b8a09f071465fffa1ec8f06032b7c", func := "diorama/dioramalaw13.ArithPacks", spec := "arithPacks", unfollowed := true, recurses := true, apart := false }
def ArithPacksSaid : Prop := arithPacksRow.holds Try.pinned (OpenSpec.ofChange arithPacksSpec)

/-- ITS FALSE NEIGHBOUR: 'it returns false'. Refute it at one input. -/
def arithPacksWrong : ChangeSpec := { name := "arithPacks", fn := fun _ => fun
  | [d1, d2, d3] => { results := [.lit (.bool false)], args := [d1, d2, d3] }
  | _ => none }
def ArithPacksWrongFalsely : Prop := arithPacksRow.holds Try.pinned (OpenSpec.ofChange arithPacksWrong)

/-- 'dioramalaw13.ArithNil': WHATEVER THE INPUT: true; the input reads as it did. -/
def arithNilSpec : ChangeSpec := { name := "arithNil", fn := fun _ => fun
  | [d] => { results := [.lit (.bool true)], args := [d] }
  | _ => none }
def arithNilRow : OpenClaim := { program := "ytholkooikmbamaa", sum := "a5637e933f3c277a99281c5631b28d79194b8a09f071465fffa1ec8f06032b7c", func := "diorama/dioramalaw13.ArithNil", spec := "arithNil", unfollowed := true, recurses := true, apart := false }
def ArithNilSaid : Prop := arithNilRow.holds Try.pinned (OpenSpec.ofChange arithNilSpec)

/-- ITS FALSE NEIGHBOUR: 'it returns false'. Refute it at one input. -/
def arithNilWrong : ChangeSpec := { name := "arithNil", fn := fun _ => fun
  | [d] => { results := [.lit (.bool false)], args := [d] }
  | _ => none }
def ArithNilWrongFalsely : Prop := arithNilRow.holds Try.pinned (OpenSpec.ofChange arithNilWrong)

/-- 'dioramalaw13.ArithBack': WHATEVER THE INPUT: true; the input reads as it did. -/
def arithBackSpec : ChangeSpec := { name := "arithBack", fn := fun _ => fun
  | [d1, d2] => { results := [.lit (.bool true)], args := [d1, d2] }
  | _ => none }
def arithBackRow : OpenClaim := { program := "ytholkooikmbamaa", sum := "a5637e933f3c277a99281c5631b28d79194b8a09f071465fffa1ec8f06032b7c", func := "diorama/dioramalaw13.ArithBack", spec := "arithBack", unfollowed := true, recurses := true, apart := false }
def ArithBackSaid : Prop := arithBackRow.holds Try.pinned (OpenSpec.ofChange arithBackSpec)

/-- ITS FALSE NEIGHBOUR: 'it returns false'. Refute it at one input. -/
def arithBackWrong : ChangeSpec := { name := "arithBack", fn := fun _ => fun
  | [d1, d2] => { results := [.lit (.bool false)], args := [d1, d2] }
  | _ => none }
def ArithBackWrongFalsely : Prop := arithBackRow.holds Try.pinned (OpenSpec.ofChange arithBackWrong)

/- THE SECOND FORM. 'bulk': how many values and letters a reading holds, each counted each time it is reached (what is shared counts as often as it is met; a slice's spare places count too). A statement '..UptoSaid' is the law's where the arguments, and the package variables that the reading takes, are together of bulk at most 1048576: NARROWER than '..Said'. Prove '..Said' where nothing that the law and all that it calls make is longer than what came in: it says more and counts as full. Else prove '..UptoSaid'. A law counts once. -/
mutual
def uptoBulk {H : Type} : DataW H → Nat
  | .lit (.string bytes) => bytes.length + 1
  | .lit _ => 1
  | .nil => 1
  | .ptr d => uptoBulk d + 1
  | .slice elems spare => uptoBulkAll elems + uptoBulkAll spare + 1
  | .agg parts => uptoBulkAll parts + 1
  | .iface _ d => uptoBulk d + 1
  | .map entries => uptoBulkEntries entries + 1
  | .held _ => 1
def uptoBulkAll {H : Type} : List (DataW H) → Nat
  | [] => 0
  | d :: r => uptoBulk d + uptoBulkAll r
def uptoBulkEntries {H : Type} : List (Lit × DataW H) → Nat
  | [] => 0
  | x :: r => uptoBulkEntry x + uptoBulkEntries r
def uptoBulkEntry {H : Type} : Lit × DataW H → Nat
  | (.string bytes, d) => bytes.length + uptoBulk d + 1
  | (_, d) => uptoBulk d + 1
 end
def uptoSmall : (H : Type) → List (DataW H) → Bool := fun _ ds => decide (uptoBulkAll ds ≤ 1048576)
def OpenSpec.upto (s : _root_.Go.ChangeSpec) : _root_.Go.OpenSpec := { _root_.Go.OpenSpec.ofChange s with cond := some uptoSmall }

/-- 'dioramalaw13.ArithCosts', WHERE WHAT IT READS IS OF BULK AT MOST 1048576: true; the input reads as it did. -/
def arithCostsUptoRow : OpenClaim := { program := "ytholkooikmbamaa", sum := "a5637e933f3c277a99281c5631b28d79194b8a09f071465fffa1ec8f06032b7c", func := "diorama/dioramalaw13.ArithCosts", spec := "arithCosts", unfollowed := true, recurses := true, apart := false, narrowed := true }
def ArithCostsUptoSaid : Prop := arithCostsUptoRow.holds Try.pinned (OpenSpec.upto arithCostsSpec)

/-- 'dioramalaw13.ArithWrites', WHERE WHAT IT READS IS OF BULK AT MOST 1048576: true; the input reads as it did. -/
def arithWritesUptoRow : OpenClaim := { program := "ytholkooikmbamaa", sum := "a5637e933f3c277a99281c5631b28d79194b8a09f071465fffa1ec8f06032b7c", func := "diorama/dioramalaw13.ArithWrites", spec := "arithWrites", unfollowed := true, recurses := true, apart := false, narrowed := true }
def ArithWritesUptoSaid : Prop := arithWritesUptoRow.holds Try.pinned (OpenSpec.upto arithWritesSpec)

/-- 'dioramalaw13.ArithStates', WHERE WHAT IT READS IS OF BULK AT MOST 1048576: true; the input reads as it did. -/
def arithStatesUptoRow : OpenClaim := { program := "ytholkooikmbamaa", sum := "a5637e933f3c277a99281c5631b28d79194b8a09f071465fffa1ec8f06032b7c", func := "diorama/dioramalaw13.ArithStates", spec := "arithStates", unfollowed := true, recurses := true, apart := false, narrowed := true }
def ArithStatesUptoSaid : Prop := arithStatesUptoRow.holds Try.pinned (OpenSpec.upto arithStatesSpec)

/-- 'dioramalaw13.ArithReads', WHERE WHAT IT READS IS OF BULK AT MOST 1048576: true; the input reads as it did. -/
def arithReadsUptoRow : OpenClaim := { program := "ytholkooikmbamaa", sum := "a5637e933f3c277a99281c5631b28d79194b8a09f071465fffa1ec8f06032b7c", func := "diorama/dioramalaw13.ArithReads", spec := "arithReads", unfollowed := true, recurses := true, apart := false, narrowed := true }
def ArithReadsUptoSaid : Prop := arithReadsUptoRow.holds Try.pinned (OpenSpec.upto arithReadsSpec)

/-- 'dioramalaw13.ArithPacks', WHERE WHAT IT READS IS OF BULK AT MOST 1048576: true; the input reads as it did. -/
def arithPacksUptoRow : OpenClaim := { program := "ytholkooikmbamaa", sum := "a5637e933f3c277a99281c5631b28d79194b8a09f071465fffa1ec8f06032b7c", func := "diorama/dioramalaw13.ArithPacks", spec := "arithPacks", unfollowed := true, recurses := true, apart := false, narrowed := true }
def ArithPacksUptoSaid : Prop := arithPacksUptoRow.holds Try.pinned (OpenSpec.upto arithPacksSpec)

/-- 'dioramalaw13.ArithNil', WHERE WHAT IT READS IS OF BULK AT MOST 1048576: true; the input reads as it did. -/
def arithNilUptoRow : OpenClaim := { program := "ytholkooikmbamaa", sum := "a5637e933f3c277a99281c5631b28d79194b8a09f071465fffa1ec8f06032b7c", func := "diorama/dioramalaw13.ArithNil", spec := "arithNil", unfollowed := true, recurses := true, apart := false, narrowed := true }
def ArithNilUptoSaid : Prop := arithNilUptoRow.holds Try.pinned (OpenSpec.upto arithNilSpec)

/-- 'dioramalaw13.ArithBack', WHERE WHAT IT READS IS OF BULK AT MOST 1048576: true; the input reads as it did. -/
def arithBackUptoRow : OpenClaim := { program := "ytholkooikmbamaa", sum := "a5637e933f3c277a99281c5631b28d79194b8a09f071465fffa1ec8f06032b7c", func := "diorama/dioramalaw13.ArithBack", spec := "arithBack", unfollowed := true, recurses := true, apart := false, narrowed := true }
def ArithBackUptoSaid : Prop := arithBackUptoRow.holds Try.pinned (OpenSpec.upto arithBackSpec)

end Rows
end Go.Proofs.Ytholkooikmbamaa
