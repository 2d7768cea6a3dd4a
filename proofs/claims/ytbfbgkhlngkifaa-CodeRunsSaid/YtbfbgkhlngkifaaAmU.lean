/- Short words for printed code. Plain definitions.
   Conditions: none. -/
import Derived.Test.YtbfbgkhlngkifaaAmT
namespace Go.Proofs.Ytbfbgkhlngkifaa.Am
open Go Go.RowKit
abbrev T (i : Nat) : Operand := .tmp i
abbrev I (n : Int) : Operand := .const (.int .i64 n)
abbrev D (d : Nat) (k : AK) : AO := ⟨some d, none, k⟩
abbrev E (k : AK) : AO := ⟨none, none, k⟩
end Go.Proofs.Ytbfbgkhlngkifaa.Am
