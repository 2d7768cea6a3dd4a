/-
  No cell of these rows narrows 'for every input' (looked for: loops, veiled, ifaces, maps, wideKeys, modest, calm, conditions, laid).
  DERIVED. THE GIVEN ROWS OF THIS SEAT. 2 by the template 'for every input the law returns true; each argument reads behind the call as it read before'; 0 by the template 'total and deterministic' (their statements: YtbfbgkhlngkifaaTotals.lean).
  GIVEN WITH THE SEED: the statements are not yours to turn. If you find one false, say at which input.
  Laid BY PROGRAM, IN A SANDBOX (cutbox-rows.mjs): the forced cells as the released guide's own fill.sh prints them over the translation b80e29152e799537… (all of the seat's roots in one cut). By AI agents, Wed Nov 11 2026. No macro, syntax, notation, axiom, sorry.
-/
import Derived.Test.YtbfbgkhlngkifaaChecked
import GoSem.Claim
import GoSem.ClaimJoined
import GoSem.ClaimMapViews
import Derived.JoinedTies
import Derived.KernelRfl
namespace Go.Proofs.Ytbfbgkhlngkifaa
/- THE CELL 'sum', in the pinned program and in every row, IS THE sha256 OF THE DUMP (.gsa) THAT YtbfbgkhlngkifaaProg.lean LOADS. Nothing in Lean hashes anything: it is a label: what it is worth is what the hold of that sum in a sandbox is worth. -/
noncomputable def Try.pinned : Pinned := { name := "ytbfbgkhlngkifaa", sum := "b80e29152e7995379ddc4d5b3fbc98558d721feb7f67cbb00c1a20a893e1b93f", checked := Try.checked }
namespace Rows
def none {H : Type} : Left H := { results := [], args := [] }

/-- 'dioramatop.TopWindows': WHATEVER THE INPUT: true; the input reads as it did. -/
def topWindowsSpec : ChangeSpec := { name := "topWindows", fn := fun _ => fun
  | [d1, d2, d3] => { results := [.lit (.bool true)], args := [d1, d2, d3] }
  | _ => none }
def topWindowsRow : OpenClaim := { program := "ytbfbgkhlngkifaa", sum := "b80e29152e7995379ddc4d5b3fbc98558d721feb7f67cbb00c1a20a893e1b93f", func := "diorama/dioramatop.TopWindows", spec := "topWindows", unfollowed := true, recurses := true, plainKeys := false, apart := false }
def TopWindowsSaid : Prop := topWindowsRow.holds Try.pinned (OpenSpec.ofChange topWindowsSpec)

/-- ITS FALSE NEIGHBOUR: 'it returns false'. Refute it at one input. -/
def topWindowsWrong : ChangeSpec := { name := "topWindows", fn := fun _ => fun
  | [d1, d2, d3] => { results := [.lit (.bool false)], args := [d1, d2, d3] }
  | _ => none }
def TopWindowsWrongFalsely : Prop := topWindowsRow.holds Try.pinned (OpenSpec.ofChange topWindowsWrong)

/-- 'dioramalaw20.CodeRuns': WHATEVER THE INPUT: true; the input reads as it did. -/
def codeRunsSpec : ChangeSpec := { name := "codeRuns", fn := fun _ => fun
  | [d1, d2, d3] => { results := [.lit (.bool true)], args := [d1, d2, d3] }
  | _ => none }
def codeRunsRow : OpenClaim := { program := "ytbfbgkhlngkifaa", sum := "b80e29152e7995379ddc4d5b3fbc98558d721feb7f67cbb00c1a20a893e1b93f", func := "diorama/dioramalaw20.CodeRuns", spec := "codeRuns", unfollowed := true, recurses := true, plainKeys := false, apart := false }
def CodeRunsSaid : Prop := codeRunsRow.holds Try.pinned (OpenSpec.ofChange codeRunsSpec)

/-- ITS FALSE NEIGHBOUR: 'it returns false'. Refute it at one input. -/
def codeRunsWrong : ChangeSpec := { name := "codeRuns", fn := fun _ => fun
  | [d1, d2, d3] => { results := [.lit (.bool false)], args := [d1, d2, d3] }
  | _ => none }
def CodeRunsWrongFalsely : Prop := codeRunsRow.holds Try.pinned (OpenSpec.ofChange codeRunsWrong)

/- THE SECOND FORM. 'bulk': how many values and letters a reading holds, each counted each time it is reached (what is shared counts as often as it is met; a slice's spare places count too). A statement '..UptoSaid' is the law's where the arguments, and the package variables that the reading takes, are together of bulk at most 1048576: NARROWER than '..Said'. Prove '..Said' where nothing that the law and all that it calls make is longer than what came in: it says more and counts as full. Else prove '..UptoSaid'. A law counts once. -/
mutual
def uptoBulk {H : Type} : DataW H → Nat
  | .lit (.string bytes) => bytes.length + 1
  | .lit _ => 1
  | .nil => 1
  | .ptr d => uptoBulk d + 1
  | .slice elems spare => uptoBulkAll elems + uptoBulkAll spare + 1
  | .agg parts => uptoBulkAll parts + 1
  | .iface _ d => uptoBulk d + 1
  | .map entries => uptoBulkEntries entries + 1
  | .held _ => 1
def uptoBulkAll {H : Type} : List (DataW H) → Nat
  | [] => 0
  | d :: r => uptoBulk d + uptoBulkAll r
def uptoBulkEntries {H : Type} : List (Lit × DataW H) → Nat
  | [] => 0
  | x :: r => uptoBulkEntry x + uptoBulkEntries r
def uptoBulkEntry {H : Type} : Lit × DataW H → Nat
  | (.string bytes, d) => bytes.length + uptoBulk d + 1
  | (_, d) => uptoBulk d + 1
 end
def uptoSmall : (H : Type) → List (DataW H) → Bool := fun _ ds => decide (uptoBulkAll ds ≤ 1048576)
def OpenSpec.upto (s : _root_.Go.ChangeSpec) : _root_.Go.OpenSpec := { _root_.Go.OpenSpec.ofChange s with cond := some uptoSmall }

/-- 'dioramatop.TopWindows', WHERE WHAT IT READS IS OF BULK AT MOST 1048576: true; the input reads as it did. -/
def topWindowsUptoRow : OpenClaim := { program := "ytbfbgkhlngkifaa", sum := "b80e29152e7995379ddc4d5b3fbc98558d721feb7f67cbb00c1a20a893e1b93f", func := "diorama/dioramatop.TopWindows", spec := "topWindows", unfollowed := true, recurses := true, plainKeys := false, apart := false, narrowed := true }
def TopWindowsUptoSaid : Prop := topWindowsUptoRow.holds Try.pinned (OpenSpec.upto topWindowsSpec)

/-- 'dioramalaw20.CodeRuns', WHERE WHAT IT READS IS OF BULK AT MOST 1048576: true; the input reads as it did. -/
def codeRunsUptoRow : OpenClaim := { program := "ytbfbgkhlngkifaa", sum := "b80e29152e7995379ddc4d5b3fbc98558d721feb7f67cbb00c1a20a893e1b93f", func := "diorama/dioramalaw20.CodeRuns", spec := "codeRuns", unfollowed := true, recurses := true, plainKeys := false, apart := false, narrowed := true }
def CodeRunsUptoSaid : Prop := codeRunsUptoRow.holds Try.pinned (OpenSpec.upto codeRunsSpec)

end Rows
end Go.Proofs.Ytbfbgkhlngkifaa
