/-
  The row's closed facts, each by itself: what the law can come to.
-/
import Derived.Test.YtljabmkmngbhkaaGreatDoorRows
import Derived.JoinedCond
import Derived.KernelRfl
import GoSem.ClaimSeven
namespace Go.Proofs.YtljabmkmngbhkaaGreatDoor.storeRefuses
open Go
set_option linter.unusedVariables false
set_option linter.unusedSimpArgs false
set_option maxRecDepth 100000
theorem and2 {a b : Bool} (ha : a = true) (hb : b = true) : (a && b) = true := by rw [ha, hb]; rfl
set_option maxHeartbeats 40000000 in
theorem facts : joinedFacts Tryz.prog 3 Tryz.f3 (OpenSpec.ofChange Rows.storeRefusesSpec).bare Rows.storeRefusesRow = true := by
  unfold joinedFacts
  repeat' (with_reducible refine and2 ?_ ?_)
  all_goals as_aux_lemma => kernel_rfl
end Go.Proofs.YtljabmkmngbhkaaGreatDoor.storeRefuses
