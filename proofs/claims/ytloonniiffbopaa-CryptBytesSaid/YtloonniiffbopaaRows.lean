/-
  No cell of these rows narrows 'for every input' (looked for: loops, veiled, ifaces, maps, wideKeys, modest, calm, conditions, laid).
  DERIVED. THE GIVEN ROWS OF THIS SEAT. 5 by the template 'for every input the law returns true; each argument reads behind the call as it read before'; 0 by the template 'total and deterministic' (their statements: YtloonniiffbopaaTotals.lean).
  GIVEN WITH THE SEED: the statements are not yours to turn. If you find one false, say at which input.
  Laid BY PROGRAM, IN A SANDBOX (cutbox-rows.mjs): the forced cells as the released guide's own fill.sh prints them over the translation 7e92985961a68cf7… (all of the seat's roots in one cut). By AI agents, Wed Nov 11 2026. No macro, syntax, notation, axiom, sorry.
-/
import Derived.Test.YtloonniiffbopaaChecked
import GoSem.Claim
import GoSem.ClaimJoined
import GoSem.ClaimMapViews
import Derived.JoinedTies
import Derived.KernelRfl
namespace Go.Proofs.Ytloonniiffbopaa
/- THE CELL 'sum', in the pinned program and in every row, IS THE sha256 OF THE DUMP (.gsa) THAT YtloonniiffbopaaProg.lean LOADS. Nothing in Lean hashes anything: it is a label: what it is worth is what the hold of that sum in a sandbox is worth. -/
noncomputable def Try.pinned : Pinned := { name := "ytloonniiffbopaa", sum := "7e92985961a68cf75656c88ebc4931c246c8ca8d3160cb7d7689b2d9c2f898c7", checked := Try.checked }
namespace Rows
def none {H : Type} : Left H := { results := [], args := [] }

/-- 'dioramalaw21.CryptBlocks': WHATEVER THE INPUT: true; the input reads as it did. -/
def cryptBlocksSpec : ChangeSpec := { name := "cryptBlocks", fn := fun _ => fun
  | [d] => { results := [.lit (.bool true)], args := [d] }
  | _ => none }
def cryptBlocksRow : OpenClaim := { program := "ytloonniiffbopaa", sum := "7e92985961a68cf75656c88ebc4931c246c8ca8d3160cb7d7689b2d9c2f898c7", func := "diorama/dioramalaw21.CryptBlocks", spec := "cryptBlocks", unfollowed := true, recurses := true, apart := false }
def CryptBlocksSaid : Prop := cryptBlocksRow.holds Try.pinned (OpenSpec.ofChange cryptBlocksSpec)

/-- ITS FALSE NEIGHBOUR: 'it returns false'. Refute it at one input. -/
def cryptBlocksWrong : ChangeSpec := { name := "cryptBlocks", fn := fun _ => fun
  | [d] => { results := [.lit (.bool false)], args := [d] }
  | _ => none }
def CryptBlocksWrongFalsely : Prop := cryptBlocksRow.holds Try.pinned (OpenSpec.ofChange cryptBlocksWrong)

/-- 'dioramalaw21.CryptSecrets': WHATEVER THE INPUT: true; the input reads as it did. -/
def cryptSecretsSpec : ChangeSpec := { name := "cryptSecrets", fn := fun _ => fun
  | [d1, d2] => { results := [.lit (.bool true)], args := [d1, d2] }
  | _ => none }
def cryptSecretsRow : OpenClaim := { program := "ytloonniiffbopaa", sum := "7e92985961a68cf75656c88ebc4931c246c8ca8d3160cb7d7689b2d9c2f898c7", func := "diorama/dioramalaw21.CryptSecrets", spec := "cryptSecrets", unfollowed := true, recurses := true, apart := false }
def CryptSecretsSaid : Prop := cryptSecretsRow.holds Try.pinned (OpenSpec.ofChange cryptSecretsSpec)

/-- ITS FALSE NEIGHBOUR: 'it returns false'. Refute it at one input. -/
def cryptSecretsWrong : ChangeSpec := { name := "cryptSecrets", fn := fun _ => fun
  | [d1, d2] => { results := [.lit (.bool false)], args := [d1, d2] }
  | _ => none }
def CryptSecretsWrongFalsely : Prop := cryptSecretsRow.holds Try.pinned (OpenSpec.ofChange cryptSecretsWrong)

/-- 'dioramalaw21.CryptProtects': WHATEVER THE INPUT: true; the input reads as it did. -/
def cryptProtectsSpec : ChangeSpec := { name := "cryptProtects", fn := fun _ => fun
  | [d1, d2, d3] => { results := [.lit (.bool true)], args := [d1, d2, d3] }
  | _ => none }
def cryptProtectsRow : OpenClaim := { program := "ytloonniiffbopaa", sum := "7e92985961a68cf75656c88ebc4931c246c8ca8d3160cb7d7689b2d9c2f898c7", func := "diorama/dioramalaw21.CryptProtects", spec := "cryptProtects", unfollowed := true, recurses := true, apart := false }
def CryptProtectsSaid : Prop := cryptProtectsRow.holds Try.pinned (OpenSpec.ofChange cryptProtectsSpec)

/-- ITS FALSE NEIGHBOUR: 'it returns false'. Refute it at one input. -/
def cryptProtectsWrong : ChangeSpec := { name := "cryptProtects", fn := fun _ => fun
  | [d1, d2, d3] => { results := [.lit (.bool false)], args := [d1, d2, d3] }
  | _ => none }
def CryptProtectsWrongFalsely : Prop := cryptProtectsRow.holds Try.pinned (OpenSpec.ofChange cryptProtectsWrong)

/-- 'dioramalaw21.CryptWhole': WHATEVER THE INPUT: true; the input reads as it did. -/
def cryptWholeSpec : ChangeSpec := { name := "cryptWhole", fn := fun _ => fun
  | [d1, d2, d3] => { results := [.lit (.bool true)], args := [d1, d2, d3] }
  | _ => none }
def cryptWholeRow : OpenClaim := { program := "ytloonniiffbopaa", sum := "7e92985961a68cf75656c88ebc4931c246c8ca8d3160cb7d7689b2d9c2f898c7", func := "diorama/dioramalaw21.CryptWhole", spec := "cryptWhole", unfollowed := true, recurses := true, apart := false }
def CryptWholeSaid : Prop := cryptWholeRow.holds Try.pinned (OpenSpec.ofChange cryptWholeSpec)

/-- ITS FALSE NEIGHBOUR: 'it returns false'. Refute it at one input. -/
def cryptWholeWrong : ChangeSpec := { name := "cryptWhole", fn := fun _ => fun
  | [d1, d2, d3] => { results := [.lit (.bool false)], args := [d1, d2, d3] }
  | _ => none }
def CryptWholeWrongFalsely : Prop := cryptWholeRow.holds Try.pinned (OpenSpec.ofChange cryptWholeWrong)

/-- 'dioramalaw21.CryptBytes': WHATEVER THE INPUT: true; the input reads as it did. -/
def cryptBytesSpec : ChangeSpec := { name := "cryptBytes", fn := fun _ => fun
  | [d1, d2] => { results := [.lit (.bool true)], args := [d1, d2] }
  | _ => none }
def cryptBytesRow : OpenClaim := { program := "ytloonniiffbopaa", sum := "7e92985961a68cf75656c88ebc4931c246c8ca8d3160cb7d7689b2d9c2f898c7", func := "diorama/dioramalaw21.CryptBytes", spec := "cryptBytes", unfollowed := true, recurses := true, apart := false }
def CryptBytesSaid : Prop := cryptBytesRow.holds Try.pinned (OpenSpec.ofChange cryptBytesSpec)

/-- ITS FALSE NEIGHBOUR: 'it returns false'. Refute it at one input. -/
def cryptBytesWrong : ChangeSpec := { name := "cryptBytes", fn := fun _ => fun
  | [d1, d2] => { results := [.lit (.bool false)], args := [d1, d2] }
  | _ => none }
def CryptBytesWrongFalsely : Prop := cryptBytesRow.holds Try.pinned (OpenSpec.ofChange cryptBytesWrong)

/- THE SECOND FORM. 'bulk': how many values and letters a reading holds, each counted each time it is reached (what is shared counts as often as it is met; a slice's spare places count too). A statement '..UptoSaid' is the law's where the arguments, and the package variables that the reading takes, are together of bulk at most 1048576: NARROWER than '..Said'. Prove '..Said' where nothing that the law and all that it calls make is longer than what came in: it says more and counts as full. Else prove '..UptoSaid'. A law counts once. -/
mutual
def uptoBulk {H : Type} : DataW H → Nat
  | .lit (.string bytes) => bytes.length + 1
  | .lit _ => 1
  | .nil => 1
  | .ptr d => uptoBulk d + 1
  | .slice elems spare => uptoBulkAll elems + uptoBulkAll spare + 1
  | .agg parts => uptoBulkAll parts + 1
  | .iface _ d => uptoBulk d + 1
  | .map entries => uptoBulkEntries entries + 1
  | .held _ => 1
def uptoBulkAll {H : Type} : List (DataW H) → Nat
  | [] => 0
  | d :: r => uptoBulk d + uptoBulkAll r
def uptoBulkEntries {H : Type} : List (Lit × DataW H) → Nat
  | [] => 0
  | x :: r => uptoBulkEntry x + uptoBulkEntries r
def uptoBulkEntry {H : Type} : Lit × DataW H → Nat
  | (.string bytes, d) => bytes.length + uptoBulk d + 1
  | (_, d) => uptoBulk d + 1
 end
def uptoSmall : (H : Type) → List (DataW H) → Bool := fun _ ds => decide (uptoBulkAll ds ≤ 1048576)
def OpenSpec.upto (s : _root_.Go.ChangeSpec) : _root_.Go.OpenSpec := { _root_.Go.OpenSpec.ofChange s with cond := some uptoSmall }

/-- 'dioramalaw21.CryptBlocks', WHERE WHAT IT READS IS OF BULK AT MOST 1048576: true; the input reads as it did. -/
def cryptBlocksUptoRow : OpenClaim := { program := "ytloonniiffbopaa", sum := "7e92985961a68cf75656c88ebc4931c246c8ca8d3160cb7d7689b2d9c2f898c7", func := "diorama/dioramalaw21.CryptBlocks", spec := "cryptBlocks", unfollowed := true, recurses := true, apart := false, narrowed := true }
def CryptBlocksUptoSaid : Prop := cryptBlocksUptoRow.holds Try.pinned (OpenSpec.upto cryptBlocksSpec)

/-- 'dioramalaw21.CryptSecrets', WHERE WHAT IT READS IS OF BULK AT MOST 1048576: true; the input reads as it did. -/
def cryptSecretsUptoRow : OpenClaim := { program := "ytloonniiffbopaa", sum := "7e92985961a68cf75656c88ebc4931c246c8ca8d3160cb7d7689b2d9c2f898c7", func := "diorama/dioramalaw21.CryptSecrets", spec := "cryptSecrets", unfollowed := true, recurses := true, apart := false, narrowed := true }
def CryptSecretsUptoSaid : Prop := cryptSecretsUptoRow.holds Try.pinned (OpenSpec.upto cryptSecretsSpec)

/-- 'dioramalaw21.CryptProtects', WHERE WHAT IT READS IS OF BULK AT MOST 1048576: true; the input reads as it did. -/
def cryptProtectsUptoRow : OpenClaim := { program := "ytloonniiffbopaa", sum := "7e92985961a68cf75656c88ebc4931c246c8ca8d3160cb7d7689b2d9c2f898c7", func := "diorama/dioramalaw21.CryptProtects", spec := "cryptProtects", unfollowed := true, recurses := true, apart := false, narrowed := true }
def CryptProtectsUptoSaid : Prop := cryptProtectsUptoRow.holds Try.pinned (OpenSpec.upto cryptProtectsSpec)

/-- 'dioramalaw21.CryptWhole', WHERE WHAT IT READS IS OF BULK AT MOST 1048576: true; the input reads as it did. -/
def cryptWholeUptoRow : OpenClaim := { program := "ytloonniiffbopaa", sum := "7e92985961a68cf75656c88ebc4931c246c8ca8d3160cb7d7689b2d9c2f898c7", func := "diorama/dioramalaw21.CryptWhole", spec := "cryptWhole", unfollowed := true, recurses := true, apart := false, narrowed := true }
def CryptWholeUptoSaid : Prop := cryptWholeUptoRow.holds Try.pinned (OpenSpec.upto cryptWholeSpec)

/-- 'dioramalaw21.CryptBytes', WHERE WHAT IT READS IS OF BULK AT MOST 1048576: true; the input reads as it did. -/
def cryptBytesUptoRow : OpenClaim := { program := "ytloonniiffbopaa", sum := "7e92985961a68cf75656c88ebc4931c246c8ca8d3160cb7d7689b2d9c2f898c7", func := "diorama/dioramalaw21.CryptBytes", spec := "cryptBytes", unfollowed := true, recurses := true, apart := false, narrowed := true }
def CryptBytesUptoSaid : Prop := cryptBytesUptoRow.holds Try.pinned (OpenSpec.upto cryptBytesSpec)

end Rows
end Go.Proofs.Ytloonniiffbopaa
