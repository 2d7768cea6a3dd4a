/-
  No cell of these rows narrows 'for every input' (looked for: loops, veiled, ifaces, maps, wideKeys, modest, calm, conditions, laid).
  DERIVED. THE GIVEN ROWS OF THIS SEAT. 9 by the template 'for every input the law returns true; each argument reads behind the call as it read before'; 0 by the template 'total and deterministic' (their statements: YtndbhfbgigefnaaTotals.lean).
  GIVEN WITH THE SEED: the statements are not yours to turn. If you find one false, say at which input.
  Laid BY PROGRAM, IN A SANDBOX (cutbox-rows.mjs): the forced cells as the released guide's own fill.sh prints them over the translation 37501c09430a9ce3… (all of the seat's roots in one cut). By AI agents, Wed Nov 11 2026. No macro, syntax, notation, axiom, sorry.
-/
import Derived.Test.YtndbhfbgigefnaaChecked
import GoSem.Claim
import GoSem.ClaimJoined
import GoSem.ClaimMapViews
import Derived.JoinedTies
import Derived.KernelRfl
namespace Go.Proofs.Ytndbhfbgigefnaa
/- THE CELL 'sum', in the pinned program and in every row, IS THE sha256 OF THE DUMP (.gsa) THAT YtndbhfbgigefnaaProg.lean LOADS. Nothing in Lean hashes anything: it is a label: what it is worth is what the hold of that sum in a sandbox is worth. -/
noncomputable def Try.pinned : Pinned := { name := "ytndbhfbgigefnaa", sum := "37501c09430a9ce3db5732a9c2cb058b1e710c46898781f4e699236528b511d4", checked := Try.checked }
namespace Rows
def none {H : Type} : Left H := { results := [], args := [] }

/-- 'dioramalaw20.CodeCodes': WHATEVER THE INPUT: true; the input reads as it did. -/
def codeCodesSpec : ChangeSpec := { name := "codeCodes", fn := fun _ => fun
  | [d1, d2] => { results := [.lit (.bool true)], args := [d1, d2] }
  | _ => none }
def codeCodesRow : OpenClaim := { program := "ytndbhfbgigefnaa", sum := "37501c09430a9ce3db5732a9c2cb058b1e710c46898781f4e699236528b511d4", func := "diorama/dioramalaw20.CodeCodes", spec := "codeCodes", apart := false }
def CodeCodesSaid : Prop := codeCodesRow.holds Try.pinned (OpenSpec.ofChange codeCodesSpec)

/-- ITS FALSE NEIGHBOUR: 'it returns false'. Refute it at one input. -/
def codeCodesWrong : ChangeSpec := { name := "codeCodes", fn := fun _ => fun
  | [d1, d2] => { results := [.lit (.bool false)], args := [d1, d2] }
  | _ => none }
def CodeCodesWrongFalsely : Prop := codeCodesRow.holds Try.pinned (OpenSpec.ofChange codeCodesWrong)

/-- 'dioramalaw20.CodeAdds': WHATEVER THE INPUT: true; the input reads as it did. -/
def codeAddsSpec : ChangeSpec := { name := "codeAdds", fn := fun _ => fun
  | [d1, d2, d3] => { results := [.lit (.bool true)], args := [d1, d2, d3] }
  | _ => none }
def codeAddsRow : OpenClaim := { program := "ytndbhfbgigefnaa", sum := "37501c09430a9ce3db5732a9c2cb058b1e710c46898781f4e699236528b511d4", func := "diorama/dioramalaw20.CodeAdds", spec := "codeAdds", unfollowed := true, recurses := true, apart := false }
def CodeAddsSaid : Prop := codeAddsRow.holds Try.pinned (OpenSpec.ofChange codeAddsSpec)

/-- ITS FALSE NEIGHBOUR: 'it returns false'. Refute it at one input. -/
def codeAddsWrong : ChangeSpec := { name := "codeAdds", fn := fun _ => fun
  | [d1, d2, d3] => { results := [.lit (.bool false)], args := [d1, d2, d3] }
  | _ => none }
def CodeAddsWrongFalsely : Prop := codeAddsRow.holds Try.pinned (OpenSpec.ofChange codeAddsWrong)

/-- 'dioramalaw20.CodeWalks': WHATEVER THE INPUT: true; the input reads as it did. -/
def codeWalksSpec : ChangeSpec := { name := "codeWalks", fn := fun _ => fun
  | [d1, d2, d3] => { results := [.lit (.bool true)], args := [d1, d2, d3] }
  | _ => none }
def codeWalksRow : OpenClaim := { program := "ytndbhfbgigefnaa", sum := "37501c09430a9ce3db5732a9c2cb058b1e710c46898781f4e699236528b511d4", func := "diorama/dioramalaw20.CodeWalks", spec := "codeWalks", unfollowed := true, recurses := true, apart := false }
def CodeWalksSaid : Prop := codeWalksRow.holds Try.pinned (OpenSpec.ofChange codeWalksSpec)

/-- ITS FALSE NEIGHBOUR: 'it returns false'. Refute it at one input. -/
def codeWalksWrong : ChangeSpec := { name := "codeWalks", fn := fun _ => fun
  | [d1, d2, d3] => { results := [.lit (.bool false)], args := [d1, d2, d3] }
  | _ => none }
def CodeWalksWrongFalsely : Prop := codeWalksRow.holds Try.pinned (OpenSpec.ofChange codeWalksWrong)

/-- 'dioramalaw20.CodeOrders': WHATEVER THE INPUT: true; the input reads as it did. -/
def codeOrdersSpec : ChangeSpec := { name := "codeOrders", fn := fun _ => fun
  | [d1, d2, d3] => { results := [.lit (.bool true)], args := [d1, d2, d3] }
  | _ => none }
def codeOrdersRow : OpenClaim := { program := "ytndbhfbgigefnaa", sum := "37501c09430a9ce3db5732a9c2cb058b1e710c46898781f4e699236528b511d4", func := "diorama/dioramalaw20.CodeOrders", spec := "codeOrders", apart := false }
def CodeOrdersSaid : Prop := codeOrdersRow.holds Try.pinned (OpenSpec.ofChange codeOrdersSpec)

/-- ITS FALSE NEIGHBOUR: 'it returns false'. Refute it at one input. -/
def codeOrdersWrong : ChangeSpec := { name := "codeOrders", fn := fun _ => fun
  | [d1, d2, d3] => { results := [.lit (.bool false)], args := [d1, d2, d3] }
  | _ => none }
def CodeOrdersWrongFalsely : Prop := codeOrdersRow.holds Try.pinned (OpenSpec.ofChange codeOrdersWrong)

/-- 'dioramalaw20.CodeCounts': WHATEVER THE INPUT: true; the input reads as it did. -/
def codeCountsSpec : ChangeSpec := { name := "codeCounts", fn := fun _ => fun
  | [d1, d2] => { results := [.lit (.bool true)], args := [d1, d2] }
  | _ => none }
def codeCountsRow : OpenClaim := { program := "ytndbhfbgigefnaa", sum := "37501c09430a9ce3db5732a9c2cb058b1e710c46898781f4e699236528b511d4", func := "diorama/dioramalaw20.CodeCounts", spec := "codeCounts", apart := false }
def CodeCountsSaid : Prop := codeCountsRow.holds Try.pinned (OpenSpec.ofChange codeCountsSpec)

/-- ITS FALSE NEIGHBOUR: 'it returns false'. Refute it at one input. -/
def codeCountsWrong : ChangeSpec := { name := "codeCounts", fn := fun _ => fun
  | [d1, d2] => { results := [.lit (.bool false)], args := [d1, d2] }
  | _ => none }
def CodeCountsWrongFalsely : Prop := codeCountsRow.holds Try.pinned (OpenSpec.ofChange codeCountsWrong)

/-- 'dioramalaw20.CodeParses': WHATEVER THE INPUT: true; the input reads as it did. -/
def codeParsesSpec : ChangeSpec := { name := "codeParses", fn := fun _ => fun
  | [d1, d2] => { results := [.lit (.bool true)], args := [d1, d2] }
  | _ => none }
def codeParsesRow : OpenClaim := { program := "ytndbhfbgigefnaa", sum := "37501c09430a9ce3db5732a9c2cb058b1e710c46898781f4e699236528b511d4", func := "diorama/dioramalaw20.CodeParses", spec := "codeParses", apart := false }
def CodeParsesSaid : Prop := codeParsesRow.holds Try.pinned (OpenSpec.ofChange codeParsesSpec)

/-- ITS FALSE NEIGHBOUR: 'it returns false'. Refute it at one input. -/
def codeParsesWrong : ChangeSpec := { name := "codeParses", fn := fun _ => fun
  | [d1, d2] => { results := [.lit (.bool false)], args := [d1, d2] }
  | _ => none }
def CodeParsesWrongFalsely : Prop := codeParsesRow.holds Try.pinned (OpenSpec.ofChange codeParsesWrong)

/-- 'dioramalaw20.CodeReads': WHATEVER THE INPUT: true; the input reads as it did. -/
def codeReadsSpec : ChangeSpec := { name := "codeReads", fn := fun _ => fun
  | [d] => { results := [.lit (.bool true)], args := [d] }
  | _ => none }
def codeReadsRow : OpenClaim := { program := "ytndbhfbgigefnaa", sum := "37501c09430a9ce3db5732a9c2cb058b1e710c46898781f4e699236528b511d4", func := "diorama/dioramalaw20.CodeReads", spec := "codeReads", unfollowed := true, recurses := true, apart := false }
def CodeReadsSaid : Prop := codeReadsRow.holds Try.pinned (OpenSpec.ofChange codeReadsSpec)

/-- ITS FALSE NEIGHBOUR: 'it returns false'. Refute it at one input. -/
def codeReadsWrong : ChangeSpec := { name := "codeReads", fn := fun _ => fun
  | [d] => { results := [.lit (.bool false)], args := [d] }
  | _ => none }
def CodeReadsWrongFalsely : Prop := codeReadsRow.holds Try.pinned (OpenSpec.ofChange codeReadsWrong)

/-- 'dioramalaw20.CodeBack': WHATEVER THE INPUT: true; the input reads as it did. -/
def codeBackSpec : ChangeSpec := { name := "codeBack", fn := fun _ => fun
  | [d1, d2, d3] => { results := [.lit (.bool true)], args := [d1, d2, d3] }
  | _ => none }
def codeBackRow : OpenClaim := { program := "ytndbhfbgigefnaa", sum := "37501c09430a9ce3db5732a9c2cb058b1e710c46898781f4e699236528b511d4", func := "diorama/dioramalaw20.CodeBack", spec := "codeBack", apart := false }
def CodeBackSaid : Prop := codeBackRow.holds Try.pinned (OpenSpec.ofChange codeBackSpec)

/-- ITS FALSE NEIGHBOUR: 'it returns false'. Refute it at one input. -/
def codeBackWrong : ChangeSpec := { name := "codeBack", fn := fun _ => fun
  | [d1, d2, d3] => { results := [.lit (.bool false)], args := [d1, d2, d3] }
  | _ => none }
def CodeBackWrongFalsely : Prop := codeBackRow.holds Try.pinned (OpenSpec.ofChange codeBackWrong)

/-- 'dioramalaw20.CodeTracks': WHATEVER THE INPUT: true; the input reads as it did. -/
def codeTracksSpec : ChangeSpec := { name := "codeTracks", fn := fun _ => fun
  | [d1, d2, d3] => { results := [.lit (.bool true)], args := [d1, d2, d3] }
  | _ => none }
def codeTracksRow : OpenClaim := { program := "ytndbhfbgigefnaa", sum := "37501c09430a9ce3db5732a9c2cb058b1e710c46898781f4e699236528b511d4", func := "diorama/dioramalaw20.CodeTracks", spec := "codeTracks", apart := false }
def CodeTracksSaid : Prop := codeTracksRow.holds Try.pinned (OpenSpec.ofChange codeTracksSpec)

/-- ITS FALSE NEIGHBOUR: 'it returns false'. Refute it at one input. -/
def codeTracksWrong : ChangeSpec := { name := "codeTracks", fn := fun _ => fun
  | [d1, d2, d3] => { results := [.lit (.bool false)], args := [d1, d2, d3] }
  | _ => none }
def CodeTracksWrongFalsely : Prop := codeTracksRow.holds Try.pinned (OpenSpec.ofChange codeTracksWrong)

/- THE SECOND FORM. 'bulk': how many values and letters a reading holds, each counted each time it is reached (what is shared counts as often as it is met; a slice's spare places count too). A statement '..UptoSaid' is the law's where the arguments, and the package variables that the reading takes, are together of bulk at most 1048576: NARROWER than '..Said'. Prove '..Said' where nothing that the law and all that it calls make is longer than what came in: it says more and counts as full. Else prove '..UptoSaid'. A law counts once. -/
mutual
def uptoBulk {H : Type} : DataW H → Nat
  | .lit (.string bytes) => bytes.length + 1
  | .lit _ => 1
  | .nil => 1
  | .ptr d => uptoBulk d + 1
  | .slice elems spare => uptoBulkAll elems + uptoBulkAll spare + 1
  | .agg parts => uptoBulkAll parts + 1
  | .iface _ d => uptoBulk d + 1
  | .map entries => uptoBulkEntries entries + 1
  | .held _ => 1
def uptoBulkAll {H : Type} : List (DataW H) → Nat
  | [] => 0
  | d :: r => uptoBulk d + uptoBulkAll r
def uptoBulkEntries {H : Type} : List (Lit × DataW H) → Nat
  | [] => 0
  | x :: r => uptoBulkEntry x + uptoBulkEntries r
def uptoBulkEntry {H : Type} : Lit × DataW H → Nat
  | (.string bytes, d) => bytes.length + uptoBulk d + 1
  | (_, d) => uptoBulk d + 1
 end
def uptoSmall : (H : Type) → List (DataW H) → Bool := fun _ ds => decide (uptoBulkAll ds ≤ 1048576)
def OpenSpec.upto (s : _root_.Go.ChangeSpec) : _root_.Go.OpenSpec := { _root_.Go.OpenSpec.ofChange s with cond := some uptoSmall }

/-- 'dioramalaw20.CodeCodes', WHERE WHAT IT READS IS OF BULK AT MOST 1048576: true; the input reads as it did. -/
def codeCodesUptoRow : OpenClaim := { program := "ytndbhfbgigefnaa", sum := "37501c09430a9ce3db5732a9c2cb058b1e710c46898781f4e699236528b511d4", func := "diorama/dioramalaw20.CodeCodes", spec := "codeCodes", apart := false, narrowed := true }
def CodeCodesUptoSaid : Prop := codeCodesUptoRow.holds Try.pinned (OpenSpec.upto codeCodesSpec)

/-- 'dioramalaw20.CodeAdds', WHERE WHAT IT READS IS OF BULK AT MOST 1048576: true; the input reads as it did. -/
def codeAddsUptoRow : OpenClaim := { program := "ytndbhfbgigefnaa", sum := "37501c09430a9ce3db5732a9c2cb058b1e710c46898781f4e699236528b511d4", func := "diorama/dioramalaw20.CodeAdds", spec := "codeAdds", unfollowed := true, recurses := true, apart := false, narrowed := true }
def CodeAddsUptoSaid : Prop := codeAddsUptoRow.holds Try.pinned (OpenSpec.upto codeAddsSpec)

/-- 'dioramalaw20.CodeWalks', WHERE WHAT IT READS IS OF BULK AT MOST 1048576: true; the input reads as it did. -/
def codeWalksUptoRow : OpenClaim := { program := "ytndbhfbgigefnaa", sum := "37501c09430a9ce3db5732a9c2cb058b1e710c46898781f4e699236528b511d4", func := "diorama/dioramalaw20.CodeWalks", spec := "codeWalks", unfollowed := true, recurses := true, apart := false, narrowed := true }
def CodeWalksUptoSaid : Prop := codeWalksUptoRow.holds Try.pinned (OpenSpec.upto codeWalksSpec)

/-- 'dioramalaw20.CodeOrders', WHERE WHAT IT READS IS OF BULK AT MOST 1048576: true; the input reads as it did. -/
def codeOrdersUptoRow : OpenClaim := { program := "ytndbhfbgigefnaa", sum := "37501c09430a9ce3db5732a9c2cb058b1e710c46898781f4e699236528b511d4", func := "diorama/dioramalaw20.CodeOrders", spec := "codeOrders", apart := false, narrowed := true }
def CodeOrdersUptoSaid : Prop := codeOrdersUptoRow.holds Try.pinned (OpenSpec.upto codeOrdersSpec)

/-- 'dioramalaw20.CodeCounts', WHERE WHAT IT READS IS OF BULK AT MOST 1048576: true; the input reads as it did. -/
def codeCountsUptoRow : OpenClaim := { program := "ytndbhfbgigefnaa", sum := "37501c09430a9ce3db5732a9c2cb058b1e710c46898781f4e699236528b511d4", func := "diorama/dioramalaw20.CodeCounts", spec := "codeCounts", apart := false, narrowed := true }
def CodeCountsUptoSaid : Prop := codeCountsUptoRow.holds Try.pinned (OpenSpec.upto codeCountsSpec)

/-- 'dioramalaw20.CodeParses', WHERE WHAT IT READS IS OF BULK AT MOST 1048576: true; the input reads as it did. -/
def codeParsesUptoRow : OpenClaim := { program := "ytndbhfbgigefnaa", sum := "37501c09430a9ce3db5732a9c2cb058b1e710c46898781f4e699236528b511d4", func := "diorama/dioramalaw20.CodeParses", spec := "codeParses", apart := false, narrowed := true }
def CodeParsesUptoSaid : Prop := codeParsesUptoRow.holds Try.pinned (OpenSpec.upto codeParsesSpec)

/-- 'dioramalaw20.CodeReads', WHERE WHAT IT READS IS OF BULK AT MOST 1048576: true; the input reads as it did. -/
def codeReadsUptoRow : OpenClaim := { program := "ytndbhfbgigefnaa", sum := "37501c09430a9ce3db5732a9c2cb058b1e710c46898781f4e699236528b511d4", func := "diorama/dioramalaw20.CodeReads", spec := "codeReads", unfollowed := true, recurses := true, apart := false, narrowed := true }
def CodeReadsUptoSaid : Prop := codeReadsUptoRow.holds Try.pinned (OpenSpec.upto codeReadsSpec)

/-- 'dioramalaw20.CodeBack', WHERE WHAT IT READS IS OF BULK AT MOST 1048576: true; the input reads as it did. -/
def codeBackUptoRow : OpenClaim := { program := "ytndbhfbgigefnaa", sum := "37501c09430a9ce3db5732a9c2cb058b1e710c46898781f4e699236528b511d4", func := "diorama/dioramalaw20.CodeBack", spec := "codeBack", apart := false, narrowed := true }
def CodeBackUptoSaid : Prop := codeBackUptoRow.holds Try.pinned (OpenSpec.upto codeBackSpec)

/-- 'dioramalaw20.CodeTracks', WHERE WHAT IT READS IS OF BULK AT MOST 1048576: true; the input reads as it did. -/
def codeTracksUptoRow : OpenClaim := { program := "ytndbhfbgigefnaa", sum := "37501c09430a9ce3db5732a9c2cb058b1e710c46898781f4e699236528b511d4", func := "diorama/dioramalaw20.CodeTracks", spec := "codeTracks", apart := false, narrowed := true }
def CodeTracksUptoSaid : Prop := codeTracksUptoRow.holds Try.pinned (OpenSpec.upto codeTracksSpec)

end Rows
end Go.Proofs.Ytndbhfbgigefnaa
