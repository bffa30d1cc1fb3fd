/-
  The law's sameVersion: a version and the document's list of it are told the same.
-/
import Derived.Test.YtahahginmgidjaaGreatDoorZMg14
import Derived.Test.YtahahginmgidjaaGreatDoorZVerH
import Derived.Deep.RegionHeld3
namespace Go.Proofs.YtahahginmgidjaaGreatDoor
open Go.RowKit
set_option linter.unusedVariables false
set_option linter.unusedSimpArgs false

/-- The levels from k on, as the document's list. -/
def tlF (f : Nat → List MetaV) : Nat → List PlaceV
  | 0 => flatF f
  | 1 => atLevel 1 (f 1) ++ (atLevel 2 (f 2) ++ atLevel 3 (f 3))
  | 2 => atLevel 2 (f 2) ++ atLevel 3 (f 3)
  | 3 => atLevel 3 (f 3)
  | _ => []
theorem tlF_step (f : Nat → List MetaV) {k : Nat} (hk : k < 4) : tlF f k = atLevel k (f k) ++ tlF f (k + 1) := by
  match k, hk with
  | 0, _ => rfl
  | 1, _ => rfl
  | 2, _ => rfl
  | 3, _ => simp [tlF]
end Go.Proofs.YtahahginmgidjaaGreatDoor
