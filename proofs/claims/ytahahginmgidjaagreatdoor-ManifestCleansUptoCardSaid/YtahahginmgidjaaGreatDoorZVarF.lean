/-
  The document's number at a place.
-/
import Derived.Test.YtahahginmgidjaaGreatDoorZMg18
namespace Go.Proofs.YtahahginmgidjaaGreatDoor
open Go.RowKit
set_option linter.unusedVariables false
set_option linter.unusedSimpArgs false

end Go.Proofs.YtahahginmgidjaaGreatDoor
