/-
  NARROWER THAN 'FOR EVERY INPUT', by the rows' own cells (each row's printed sentence says how): StreamChooses: loops.
  DERIVED. THE GIVEN ROWS OF THIS SEAT. 6 by the template 'for every input the law returns true; each argument reads behind the call as it read before'; 0 by the template 'total and deterministic' (their statements: YtikbdeobghoglaaTotals.lean).
  GIVEN WITH THE SEED: the statements are not yours to turn. If you find one false, say at which input.
  Laid BY PROGRAM, IN A SANDBOX (cutbox-rows.mjs): the forced cells as the released guide's own fill.sh prints them over the translation d327e6dacf82ba74… (all of the seat's roots in one cut). By AI agents, Wed Nov 11 2026. No macro, syntax, notation, axiom, sorry.
-/
import Derived.Test.YtikbdeobghoglaaChecked
import GoSem.Claim
import GoSem.ClaimJoined
import GoSem.ClaimMapViews
import Derived.JoinedTies
import Derived.KernelRfl
namespace Go.Proofs.Ytikbdeobghoglaa
/- THE CELL 'sum', in the pinned program and in every row, IS THE sha256 OF THE DUMP (.gsa) THAT YtikbdeobghoglaaProg.lean LOADS. Nothing in Lean hashes anything: it is a label: what it is worth is what the hold of that sum in a sandbox is worth. -/
noncomputable def Try.pinned : Pinned := { name := "ytikbdeobghoglaa", sum := "d327e6dacf82ba74dd1d1e6c443de83b8b9fafb9605ec053862de15bb07bfe6f", checked := Try.checked }
namespace Rows
def none {H : Type} : Left H := { results := [], args := [] }

/-- 'dioramalaw27.StreamWindows': WHATEVER THE INPUT: true; the input reads as it did. -/
def streamWindowsSpec : ChangeSpec := { name := "streamWindows", fn := fun _ => fun
  | [d] => { results := [.lit (.bool true)], args := [d] }
  | _ => none }
def streamWindowsRow : OpenClaim := { program := "ytikbdeobghoglaa", sum := "d327e6dacf82ba74dd1d1e6c443de83b8b9fafb9605ec053862de15bb07bfe6f", func := "diorama/dioramalaw27.StreamWindows", spec := "streamWindows", unfollowed := true, recurses := true, plainKeys := false, apart := false }
def StreamWindowsSaid : Prop := streamWindowsRow.holds Try.pinned (OpenSpec.ofChange streamWindowsSpec)

/-- ITS FALSE NEIGHBOUR: 'it returns false'. Refute it at one input. -/
def streamWindowsWrong : ChangeSpec := { name := "streamWindows", fn := fun _ => fun
  | [d] => { results := [.lit (.bool false)], args := [d] }
  | _ => none }
def StreamWindowsWrongFalsely : Prop := streamWindowsRow.holds Try.pinned (OpenSpec.ofChange streamWindowsWrong)

/-- 'dioramalaw27.StreamFollows': WHATEVER THE INPUT: true; the input reads as it did. -/
def streamFollowsSpec : ChangeSpec := { name := "streamFollows", fn := fun _ => fun
  | [d1, d2, d3] => { results := [.lit (.bool true)], args := [d1, d2, d3] }
  | _ => none }
def streamFollowsRow : OpenClaim := { program := "ytikbdeobghoglaa", sum := "d327e6dacf82ba74dd1d1e6c443de83b8b9fafb9605ec053862de15bb07bfe6f", func := "diorama/dioramalaw27.StreamFollows", spec := "streamFollows", unfollowed := true, recurses := true, plainKeys := false, apart := false }
def StreamFollowsSaid : Prop := streamFollowsRow.holds Try.pinned (OpenSpec.ofChange streamFollowsSpec)

/-- ITS FALSE NEIGHBOUR: 'it returns false'. Refute it at one input. -/
def streamFollowsWrong : ChangeSpec := { name := "streamFollows", fn := fun _ => fun
  | [d1, d2, d3] => { results := [.lit (.bool false)], args := [d1, d2, d3] }
  | _ => none }
def StreamFollowsWrongFalsely : Prop := streamFollowsRow.holds Try.pinned (OpenSpec.ofChange streamFollowsWrong)

/-- 'dioramalaw27.StreamTransfers': WHATEVER THE INPUT: true; the input reads as it did. -/
def streamTransfersSpec : ChangeSpec := { name := "streamTransfers", fn := fun _ => fun
  | [d1, d2, d3] => { results := [.lit (.bool true)], args := [d1, d2, d3] }
  | _ => none }
def streamTransfersRow : OpenClaim := { program := "ytikbdeobghoglaa", sum := "d327e6dacf82ba74dd1d1e6c443de83b8b9fafb9605ec053862de15bb07bfe6f", func := "diorama/dioramalaw27.StreamTransfers", spec := "streamTransfers", unfollowed := true, recurses := true, plainKeys := false, apart := false }
def StreamTransfersSaid : Prop := streamTransfersRow.holds Try.pinned (OpenSpec.ofChange streamTransfersSpec)

/-- ITS FALSE NEIGHBOUR: 'it returns false'. Refute it at one input. -/
def streamTransfersWrong : ChangeSpec := { name := "streamTransfers", fn := fun _ => fun
  | [d1, d2, d3] => { results := [.lit (.bool false)], args := [d1, d2, d3] }
  | _ => none }
def StreamTransfersWrongFalsely : Prop := streamTransfersRow.holds Try.pinned (OpenSpec.ofChange streamTransfersWrong)

/-- 'dioramalaw27.StreamFaster': WHATEVER THE INPUT: true; the input reads as it did. -/
def streamFasterSpec : ChangeSpec := { name := "streamFaster", fn := fun _ => fun
  | [d] => { results := [.lit (.bool true)], args := [d] }
  | _ => none }
def streamFasterRow : OpenClaim := { program := "ytikbdeobghoglaa", sum := "d327e6dacf82ba74dd1d1e6c443de83b8b9fafb9605ec053862de15bb07bfe6f", func := "diorama/dioramalaw27.StreamFaster", spec := "streamFaster", unfollowed := true, recurses := true, plainKeys := false, apart := false }
def StreamFasterSaid : Prop := streamFasterRow.holds Try.pinned (OpenSpec.ofChange streamFasterSpec)

/-- ITS FALSE NEIGHBOUR: 'it returns false'. Refute it at one input. -/
def streamFasterWrong : ChangeSpec := { name := "streamFaster", fn := fun _ => fun
  | [d] => { results := [.lit (.bool false)], args := [d] }
  | _ => none }
def StreamFasterWrongFalsely : Prop := streamFasterRow.holds Try.pinned (OpenSpec.ofChange streamFasterWrong)

/-- 'dioramalaw27.StreamChooses': WHATEVER THE INPUT: true; the input reads as it did. -/
def streamChoosesSpec : ChangeSpec := { name := "streamChooses", fn := fun _ => fun
  | [d] => { results := [.lit (.bool true)], args := [d] }
  | _ => none }
def streamChoosesRow : OpenClaim := { program := "ytikbdeobghoglaa", sum := "d327e6dacf82ba74dd1d1e6c443de83b8b9fafb9605ec053862de15bb07bfe6f", func := "diorama/dioramalaw27.StreamChooses", spec := "streamChooses", unfollowed := true, recurses := true, loops := true, plainKeys := false, apart := false }
def StreamChoosesSaid : Prop := streamChoosesRow.holds Try.pinned (OpenSpec.ofChange streamChoosesSpec)

/-- ITS FALSE NEIGHBOUR: 'it returns false'. Refute it at one input. -/
def streamChoosesWrong : ChangeSpec := { name := "streamChooses", fn := fun _ => fun
  | [d] => { results := [.lit (.bool false)], args := [d] }
  | _ => none }
def StreamChoosesWrongFalsely : Prop := streamChoosesRow.holds Try.pinned (OpenSpec.ofChange streamChoosesWrong)

/-- 'dioramatop.TopWindows': WHATEVER THE INPUT: true; the input reads as it did. -/
def topWindowsSpec : ChangeSpec := { name := "topWindows", fn := fun _ => fun
  | [d1, d2, d3] => { results := [.lit (.bool true)], args := [d1, d2, d3] }
  | _ => none }
def topWindowsRow : OpenClaim := { program := "ytikbdeobghoglaa", sum := "d327e6dacf82ba74dd1d1e6c443de83b8b9fafb9605ec053862de15bb07bfe6f", func := "diorama/dioramatop.TopWindows", spec := "topWindows", unfollowed := true, recurses := true, plainKeys := false, apart := false }
def TopWindowsSaid : Prop := topWindowsRow.holds Try.pinned (OpenSpec.ofChange topWindowsSpec)

/-- ITS FALSE NEIGHBOUR: 'it returns false'. Refute it at one input. -/
def topWindowsWrong : ChangeSpec := { name := "topWindows", fn := fun _ => fun
  | [d1, d2, d3] => { results := [.lit (.bool false)], args := [d1, d2, d3] }
  | _ => none }
def TopWindowsWrongFalsely : Prop := topWindowsRow.holds Try.pinned (OpenSpec.ofChange topWindowsWrong)

/- THE SECOND FORM. 'bulk': how many values and letters a reading holds, each counted each time it is reached (what is shared counts as often as it is met; a slice's spare places count too). A statement '..UptoSaid' is the law's where the arguments, and the package variables that the reading takes, are together of bulk at most 1048576: NARROWER than '..Said'. Prove '..Said' where nothing that the law and all that it calls make is longer than what came in: it says more and counts as full. Else prove '..UptoSaid'. A law counts once. -/
mutual
def uptoBulk {H : Type} : DataW H → Nat
  | .lit (.string bytes) => bytes.length + 1
  | .lit _ => 1
  | .nil => 1
  | .ptr d => uptoBulk d + 1
  | .slice elems spare => uptoBulkAll elems + uptoBulkAll spare + 1
  | .agg parts => uptoBulkAll parts + 1
  | .iface _ d => uptoBulk d + 1
  | .map entries => uptoBulkEntries entries + 1
  | .held _ => 1
def uptoBulkAll {H : Type} : List (DataW H) → Nat
  | [] => 0
  | d :: r => uptoBulk d + uptoBulkAll r
def uptoBulkEntries {H : Type} : List (Lit × DataW H) → Nat
  | [] => 0
  | x :: r => uptoBulkEntry x + uptoBulkEntries r
def uptoBulkEntry {H : Type} : Lit × DataW H → Nat
  | (.string bytes, d) => bytes.length + uptoBulk d + 1
  | (_, d) => uptoBulk d + 1
 end
def uptoSmall : (H : Type) → List (DataW H) → Bool := fun _ ds => decide (uptoBulkAll ds ≤ 1048576)
def OpenSpec.upto (s : _root_.Go.ChangeSpec) : _root_.Go.OpenSpec := { _root_.Go.OpenSpec.ofChange s with cond := some uptoSmall }

/-- 'dioramalaw27.StreamWindows', WHERE WHAT IT READS IS OF BULK AT MOST 1048576: true; the input reads as it did. -/
def streamWindowsUptoRow : OpenClaim := { program := "ytikbdeobghoglaa", sum := "d327e6dacf82ba74dd1d1e6c443de83b8b9fafb9605ec053862de15bb07bfe6f", func := "diorama/dioramalaw27.StreamWindows", spec := "streamWindows", unfollowed := true, recurses := true, plainKeys := false, apart := false, narrowed := true }
def StreamWindowsUptoSaid : Prop := streamWindowsUptoRow.holds Try.pinned (OpenSpec.upto streamWindowsSpec)

/-- 'dioramalaw27.StreamFollows', WHERE WHAT IT READS IS OF BULK AT MOST 1048576: true; the input reads as it did. -/
def streamFollowsUptoRow : OpenClaim := { program := "ytikbdeobghoglaa", sum := "d327e6dacf82ba74dd1d1e6c443de83b8b9fafb9605ec053862de15bb07bfe6f", func := "diorama/dioramalaw27.StreamFollows", spec := "streamFollows", unfollowed := true, recurses := true, plainKeys := false, apart := false, narrowed := true }
def StreamFollowsUptoSaid : Prop := streamFollowsUptoRow.holds Try.pinned (OpenSpec.upto streamFollowsSpec)

/-- 'dioramalaw27.StreamTransfers', WHERE WHAT IT READS IS OF BULK AT MOST 1048576: true; the input reads as it did. -/
def streamTransfersUptoRow : OpenClaim := { program := "ytikbdeobghoglaa", sum := "d327e6dacf82ba74dd1d1e6c443de83b8b9fafb9605ec053862de15bb07bfe6f", func := "diorama/dioramalaw27.StreamTransfers", spec := "streamTransfers", unfollowed := true, recurses := true, plainKeys := false, apart := false, narrowed := true }
def StreamTransfersUptoSaid : Prop := streamTransfersUptoRow.holds Try.pinned (OpenSpec.upto streamTransfersSpec)

/-- 'dioramalaw27.StreamFaster', WHERE WHAT IT READS IS OF BULK AT MOST 1048576: true; the input reads as it did. -/
def streamFasterUptoRow : OpenClaim := { program := "ytikbdeobghoglaa", sum := "d327e6dacf82ba74dd1d1e6c443de83b8b9fafb9605ec053862de15bb07bfe6f", func := "diorama/dioramalaw27.StreamFaster", spec := "streamFaster", unfollowed := true, recurses := true, plainKeys := false, apart := false, narrowed := true }
def StreamFasterUptoSaid : Prop := streamFasterUptoRow.holds Try.pinned (OpenSpec.upto streamFasterSpec)

/-- 'dioramalaw27.StreamChooses', WHERE WHAT IT READS IS OF BULK AT MOST 1048576: true; the input reads as it did. -/
def streamChoosesUptoRow : OpenClaim := { program := "ytikbdeobghoglaa", sum := "d327e6dacf82ba74dd1d1e6c443de83b8b9fafb9605ec053862de15bb07bfe6f", func := "diorama/dioramalaw27.StreamChooses", spec := "streamChooses", unfollowed := true, recurses := true, loops := true, plainKeys := false, apart := false, narrowed := true }
def StreamChoosesUptoSaid : Prop := streamChoosesUptoRow.holds Try.pinned (OpenSpec.upto streamChoosesSpec)

/-- 'dioramatop.TopWindows', WHERE WHAT IT READS IS OF BULK AT MOST 1048576: true; the input reads as it did. -/
def topWindowsUptoRow : OpenClaim := { program := "ytikbdeobghoglaa", sum := "d327e6dacf82ba74dd1d1e6c443de83b8b9fafb9605ec053862de15bb07bfe6f", func := "diorama/dioramatop.TopWindows", spec := "topWindows", unfollowed := true, recurses := true, plainKeys := false, apart := false, narrowed := true }
def TopWindowsUptoSaid : Prop := topWindowsUptoRow.holds Try.pinned (OpenSpec.upto topWindowsSpec)

end Rows
end Go.Proofs.Ytikbdeobghoglaa
