/-
  An argument that is a slice of texts; a world in which the library's listed tables are laid. Plain lemmas; no condition.
-/
import Derived.Test.YtjfbcjmnjlehaaaDoorFrame
import Derived.Test.YtjfbcjmnjlehaaaDoorWalL
import Derived.Test.YtjfbcjmnjlehaaaDoorCards
import Derived.Test.YtjfbcjmnjlehaaaDoorTie
import Derived.ProofKit
import Derived.OpenShut
import Derived.Deep.DeepHandedRow
import Derived.Deep.Strs
import Derived.Lib.LaidTab
namespace Go.Proofs.YtjfbcjmnjlehaaaDoor
open Go.ChangeShapes Go.WideShapes Go.ChangeAt Go.RowKit Go.Deep
set_option linter.unusedVariables false
set_option linter.unusedSimpArgs false
section
variable {H : Type} {enc : TypeId × Value → H}
set_option maxRecDepth 100000 in
theorem open_strs_at {W : World} {r : Reach} {b0 : Nat} {v : Value} {d : DataW H} {ps : List MemPlace} (hv : Value.okWide Tryd.prog W r b0 22 v) (h : DataW.Trod enc Tryd.prog W 0 (fun _ => true) true 22 v d ps) :
    ∃ A n c S, v = .slice A n c ∧ n ≤ c ∧ c ≤ maxLen ∧ StrsAt W A n S ∧ ∀ i, (S i).size ≤ maxLen := by
  obtain ⟨a0, n0, c0, rfl⟩ := okWide_slice Tryd.underlying22 hv
  obtain ⟨fuel, hf⟩ := h
  rcases open_strs Tryd.underlying22 Tryd.underlying9 (by kernel_rfl) hf with ⟨hcs, _⟩ | ⟨a, n, c, m, Sx, hcs, _, hl, hm, hmm, _, hcell⟩
  · simp [Value.cells] at hcs
    obtain ⟨rfl, rfl, rfl⟩ := hcs
    exact ⟨none, 0, 0, fun _ => ⟨#[]⟩, rfl, Nat.le_refl _, Nat.zero_le _, fun h => absurd h (Nat.lt_irrefl 0), fun _ => Nat.zero_le _⟩
  · simp [Value.cells] at hcs
    obtain ⟨rfl, rfl, rfl⟩ := hcs
    have hnm : n0 ≤ m := by rw [hmm]; split <;> omega
    refine ⟨some a, n0, c0, fun i => if i < m then Sx i else ⟨#[]⟩, rfl, hl, hm, fun h0 => ?_, fun i => ?_⟩
    · have h00 := (hcell 0 (by omega)).1
      have ha : a = ⟨a.block, a.off, none⟩ := by simpa [Addr.add] using addr_plain h00
      have hbl := World.block_lt_of_cell? W _ h00
      refine ⟨a.block, a.off, by rw [← ha], by simpa [Addr.add] using hbl, fun i hi => ?_⟩
      have := (hcell i (by omega)).1
      rw [ha, Addr.add_lit] at this
      simp only
      rw [if_pos (by omega)]
      exact this
    · simp only
      split
      · exact (hcell i (by assumption)).2
      · exact Nat.zero_le _
end
/-- The numbers of a table, as cells. -/
def litV : DataW Unit → List Value
  | .lit (.int k n) => [.int k n]
  | _ => []
def tabV : DataW Unit → List Value
  | .agg l => l.flatMap fun x => match x with
    | .agg m => m.flatMap litV
    | x => litV x
  | _ => []
/-- A world for the witness: the settled one, the listed tables as their initialisers lay them. -/
noncomputable def laidWorld (os : Os) : World :=
  let put := fun (d : DataW Unit) (o : Obj) => match o with
    | .cells _ t frozen => Obj.cells (tabV d).toArray t frozen
    | o => o
  { World.holding Tryd.prog os ⟨#[], #[], []⟩ with heap := (((((World.holding Tryd.prog os ⟨#[], #[], []⟩).heap.modify 0 (put Rows.laid_internal_strconv_uint64pow10)).modify 1 (put Rows.laid_unicode_utf8_first)).modify 2 (put Rows.laid_unicode_utf8_acceptRanges)).modify 4 (put Rows.laid_math_bits_deBruijn32tab)).modify 5 (put Rows.laid_math_bits_deBruijn64tab) }
end Go.Proofs.YtjfbcjmnjlehaaaDoor
