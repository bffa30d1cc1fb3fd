/-
  The card's closed facts, each by itself.
-/
import Derived.Test.YtjloddlkleileaaGreatDoorRows
import Derived.JoinedCond
import Derived.KernelRfl
import GoSem.ClaimSeven
namespace Go.Proofs.YtjloddlkleileaaGreatDoor.feedRefuses
open Go
set_option linter.unusedVariables false
set_option linter.unusedSimpArgs false
set_option maxRecDepth 100000
theorem name3 : Tryz.prog.funcNamed Rows.feedRefusesRow.func = some 3 := by kernel_rfl
theorem inst3 : Tryz.f3.isInstance Tryz.prog Rows.feedRefusesRow.origin Rows.feedRefusesRow.targs := of_decide_eq_true (by kernel_rfl)
theorem wrap3 : Tryz.f3.isWrapper Tryz.prog Rows.feedRefusesRow.wrapper Rows.feedRefusesRow.mainSum := by unfold Func.isWrapper; first | (rw [if_pos (by decide +kernel)]; kernel_rfl) | (rw [if_neg (by decide +kernel)]; exact ⟨rfl, rfl⟩)
theorem looks0 : true = Tryz.prog.looks [] := by kernel_rfl
theorem go1 : ((Tryz.prog.closure 3).any fun g => (Tryz.prog.funcs[g]?).any Func.goes) = false := by kernel_rfl
theorem go2 : (Tryz.prog.funcs.any Func.goes) = false := by kernel_rfl
theorem go3 : Tryz.prog.goes 3 = false := by
  unfold Program.goes
  rw [go1, go2, Bool.and_false]
  rfl
theorem goes0 : false = Rows.feedRefusesRow.goesBy Tryz.prog := by
  unfold OpenClaim.goesBy Program.goesAt Program.goesFrom
  rw [name3, Option.any_some, go3]
  rfl
theorem text0 : Rows.feedRefusesRow.wfByText (OpenSpec.ofChange Rows.feedRefusesSpec) = true := by kernel_rfl
theorem main0 : Tryz.prog.mainIs = some (true, "7a1c37b8576236fc96e17e6fe14f5271373321d7131bf73dcbe67b1549b8a8bd".toList) := by kernel_rfl
end Go.Proofs.YtjloddlkleileaaGreatDoor.feedRefuses
