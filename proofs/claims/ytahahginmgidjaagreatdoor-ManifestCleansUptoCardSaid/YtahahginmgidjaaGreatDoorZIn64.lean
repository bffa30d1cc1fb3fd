/-
  Numbers of 64 bits. Plain; no condition.
-/
import Derived.Test.YtahahginmgidjaaGreatDoorZMg00
namespace Go.Proofs.YtahahginmgidjaaGreatDoor
open Go.RowKit
set_option linter.unusedVariables false
set_option linter.unusedSimpArgs false

def In64 (x : Int) : Prop := -9223372036854775808 ≤ x ∧ x ≤ 9223372036854775807
end Go.Proofs.YtahahginmgidjaaGreatDoor
