/- The run of equal bits, reckoned by the kernel.
   Conditions: none. -/
import Derived.Test.YtholkooikmbamaaArD
namespace Go.Proofs.Ytholkooikmbamaa.LArithCosts
open Go Go.RowKit Go.Proofs.Ytholkooikmbamaa.Am Go.Proofs.Ytholkooikmbamaa.Af Go.Proofs.Ytholkooikmbamaa.Ar
set_option linter.unusedVariables false
set_option linter.unusedSimpArgs false
set_option maxRecDepth 20000

/-! ### the run of equal bits -/
/-- Low, range, how many bytes, the state. -/
structure Rn where
  low : Nat
  span : Nat
  len : Nat
  p : Nat
def bound (s p : Nat) : Nat := s / 4096 * p
def stepR (b : Bool) (r : Rn) : Rn :=
  let w := bound r.span r.p
  let low := if b then (if 4294967296 ≤ r.low + w then r.low + w - 4294967296 else r.low + w) else r.low
  let span := if b then r.span - w else w
  let p := if b then r.p - r.p / 32 else r.p + (4096 - r.p) / 32
  if span < 16777216 then ⟨low % 16777216 * 256, span * 256, r.len + 1, p⟩ else ⟨low, span, r.len, p⟩
def runR (b : Bool) : Nat → Rn → Rn
  | 0, r => r
  | k + 1, r => runR b k (stepR b r)
def startR : Rn := ⟨0, 4294967295, 0, 2048⟩
def okR (k : Nat) (r : Rn) : Bool := Nat.ble 31 r.p && Nat.ble r.p 4065 && Nat.ble (r.len + 4) (k / 8 + 8) && (Nat.blt k 1000 || Nat.ble (r.len + 4) (k / 40 + 40))
/-- All of n runs on from k are well. -/
def allR (b : Bool) : Nat → Nat → Rn → Bool
  | 0, _, _ => true
  | n + 1, k, r => okR k r && allR b n (k + 1) (stepR b r)
set_option maxRecDepth 1000000 in
theorem all0 : allR false 20001 0 startR = true := by kernel_rfl
set_option maxRecDepth 1000000 in
theorem all1 : allR true 20001 0 startR = true := by kernel_rfl
end Go.Proofs.Ytholkooikmbamaa.LArithCosts
