/-
  What a grown slice changes. Plain; no condition.
-/
import Derived.Test.YtahahginmgidjaaGreatDoorZMg00
import Derived.Laws.AppendOwn
namespace Go.Proofs.YtahahginmgidjaaGreatDoor
open Go.RowKit
set_option linter.unusedVariables false
set_option linter.unusedSimpArgs false

theorem Chg.grown {S : Nat → Prop} {w w1 w2 : World} {row : Option Nat} (h : Chg S w w1) (hg : w1.grownBy w2 row) (hr : ∀ k, row = some k → k < w.heap.size → S k) : Chg S w w2 :=
  ⟨hg.os.trans h.os, hg.tape.trans h.tape, hg.output.trans h.output, Nat.le_trans h.size hg.size, fun k hk hn =>
    (hg.block k (Nat.lt_of_lt_of_le hk h.size) (fun e => hn (hr k e.symm hk))).trans (h.block k hk hn)⟩
theorem Chg.setOwn {w w1 : World} {g : Nat} (h : Chg (fun k => k = g) w w1) (i : Nat) (u : Value) : Chg (fun k => k = g) w (w1.setCell ⟨g, i, none⟩ u) := Chg.setCell h (fun _ => rfl) u
end Go.Proofs.YtahahginmgidjaaGreatDoor
