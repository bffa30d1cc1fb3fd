/-
  The document's bytes of an edit: Put.
-/
import Derived.Test.YtahahginmgidjaaGreatDoorZVarF
import Derived.Test.YtahahginmgidjaaGreatDoorZVarD
namespace Go.Proofs.YtahahginmgidjaaGreatDoor
open Go.RowKit
set_option linter.unusedVariables false
set_option linter.unusedSimpArgs false

end Go.Proofs.YtahahginmgidjaaGreatDoor
