/-
  The card's closed facts, each by itself.
-/
import Derived.Test.YtljabmkmngbhkaaGreatDoorRows
import Derived.JoinedCond
import Derived.KernelRfl
import GoSem.ClaimSeven
namespace Go.Proofs.YtljabmkmngbhkaaGreatDoor.storeRefuses
open Go
set_option linter.unusedVariables false
set_option linter.unusedSimpArgs false
set_option maxRecDepth 100000
theorem name3 : Tryz.prog.funcNamed Rows.storeRefusesRow.func = some 3 := by kernel_rfl
theorem inst3 : Tryz.f3.isInstance Tryz.prog Rows.storeRefusesRow.origin Rows.storeRefusesRow.targs := of_decide_eq_true (by kernel_rfl)
theorem wrap3 : Tryz.f3.isWrapper Tryz.prog Rows.storeRefusesRow.wrapper Rows.storeRefusesRow.mainSum := by unfold Func.isWrapper; first | (rw [if_pos (by decide +kernel)]; kernel_rfl) | (rw [if_neg (by decide +kernel)]; exact ⟨rfl, rfl⟩)
theorem looks0 : true = Tryz.prog.looks [] := by kernel_rfl
theorem go1 : ((Tryz.prog.closure 3).any fun g => (Tryz.prog.funcs[g]?).any Func.goes) = false := by kernel_rfl
theorem go2 : (Tryz.prog.funcs.any Func.goes) = false := by kernel_rfl
theorem go3 : Tryz.prog.goes 3 = false := by
  unfold Program.goes
  rw [go1, go2, Bool.and_false]
  rfl
theorem goes0 : false = Rows.storeRefusesRow.goesBy Tryz.prog := by
  unfold OpenClaim.goesBy Program.goesAt Program.goesFrom
  rw [name3, Option.any_some, go3]
  rfl
theorem text0 : Rows.storeRefusesRow.wfByText (OpenSpec.ofChange Rows.storeRefusesSpec) = true := by kernel_rfl
theorem main0 : Tryz.prog.mainIs = some (true, "23ec1e330211a6c5089a1184197fe4d374512783e231c0f06ec35966fc7237cf".toList) := by kernel_rfl
end Go.Proofs.YtljabmkmngbhkaaGreatDoor.storeRefuses
