/-
  The law's items out of an argument whose bulk is bounded; the library's bound on short searches out of the world's shape. Plain lemmas; no condition.
-/
import Derived.Test.YtjloddlkleileaaGreatDoorFeeR
import Derived.Test.YtjloddlkleileaaGreatDoorFrameV
import Derived.Test.YtjloddlkleileaaGreatDoorFrameL
import Derived.Shelf.Vars
namespace Go.Proofs.YtjloddlkleileaaGreatDoor
open Go.ChangeShapes Go.WideShapes Go.ChangeAt Go.RowKit Go.Deep Go.Shelf
set_option linter.unusedVariables false
set_option linter.unusedSimpArgs false

section
variable {H : Type} {enc : TypeId × Value → H}
theorem bool_b {P : Program} {W : World} {B : Nat} {t : TypeId} {v : Value} (hu : P.underlying t = some .bool) (h : PartB H enc P W B t v) : ∃ x : Bool, v = .bool x := by
  obtain ⟨y, fuel, hy, _⟩ := h
  obtain ⟨x, e, _⟩ := DataW.trod_bool hu hy
  exact ⟨x, by simpa using e⟩
theorem u8_b {P : Program} {W : World} {B : Nat} {t : TypeId} {v : Value} (hu : P.underlying t = some (.int .u8)) (h : PartB H enc P W B t v) : ∃ x : UInt8, v = .int .u8 (x.toNat : Int) := by
  obtain ⟨y, fuel, hy, _⟩ := h
  obtain ⟨x, e, _, hw⟩ := DataW.trod_int hu hy
  simp [Lit.wf, IntKind.min, IntKind.max, IntKind.signed, IntKind.bits] at hw
  refine ⟨UInt8.ofNat x.toNat, ?_⟩
  have e1 : (UInt8.ofNat x.toNat).toNat = x.toNat := UInt8.toNat_ofNat_of_lt' (show x.toNat < 256 by omega)
  rw [e1]
  have e2 : v = .int .u8 x := by simpa using e
  rw [e2]
  congr 1
  omega
theorem items_b {W : World} {B : Nat} {v : Value} (hB : B ≤ 1048576) (h : PartB H enc Tryz.prog W B 22 v) : ∃ l : List ItemV, ReadItems W v l ∧ l.length ≤ 1048576 ∧ ∀ x ∈ l, Fit x := by
  obtain ⟨A, n, c, V, rfl, hnc, hcm, hnB, hrec, hV⟩ := recs_b Tryz.underlying22 Tryz.underlying55 (by kernel_rfl) (by kernel_rfl) (by decide) h
  have each : ∀ i, ∃ p : ItemV, i < n → V i 0 = .bool p.mark ∧ V i 1 = .int .i64 p.time ∧ V i 2 = .int .u8 (p.kind.toNat : Int) ∧ V i 3 = .int .i64 p.val ∧ Fit p := fun i => by
    by_cases hi : i < n
    · obtain ⟨x0, e0⟩ := bool_b Tryz.underlying4 (hV i hi 0 _ rfl)
      obtain ⟨x1, e1, b1⟩ := int_b Tryz.underlying2 (hV i hi 1 _ rfl)
      obtain ⟨x2, e2⟩ := u8_b Tryz.underlying5 (hV i hi 2 _ rfl)
      obtain ⟨x3, e3, b3⟩ := int_b Tryz.underlying2 (hV i hi 3 _ rfl)
      exact ⟨⟨x0, x1, x2, x3⟩, fun _ => ⟨e0, e1, e2, e3, b1.1, b1.2, b3.1, b3.2⟩⟩
    · exact ⟨⟨false, 0, 0, 0⟩, fun h => absurd h hi⟩
  have hlen : ((List.range n).map fun i => (each i).choose).length = n := by simp
  refine ⟨(List.range n).map fun i => (each i).choose, ⟨A, c, by rw [hlen], by omega, by rw [hlen]; unfold maxLen at hcm; omega, fun X x Y hl => ?_⟩, by omega, fun p hp => ?_⟩
  · have hX : X.length < n := by
      have := congrArg List.length hl
      rw [hlen] at this
      simp at this
      omega
    have hx : x = (each X.length).choose := by
      have : ((List.range n).map fun i => (each i).choose)[X.length]? = some x := by rw [hl]; simp
      rw [List.getElem?_map, List.getElem?_range hX] at this
      simpa using this.symm
    obtain ⟨b, off, e, hb, hr⟩ := hrec (by omega)
    obtain ⟨e0, e1, e2, e3, _⟩ := (each X.length).choose_spec hX
    rw [hx]
    refine ⟨b, off, e, hb, ?_, ?_, ?_, ?_⟩
    · rw [← e0]; exact hr _ hX 0 (by decide)
    · rw [← e1]; exact hr _ hX 1 (by decide)
    · rw [← e2]; exact hr _ hX 2 (by decide)
    · rw [← e3]; exact hr _ hX 3 (by decide)
  · obtain ⟨i, hi, rfl⟩ := List.mem_map.1 hp
    exact ((each i).choose_spec (List.mem_range.1 hi)).2.2.2.2
end
theorem max_of {W : World} (h : W.ShapedOpen Tryz.prog) : MaxOk W :=
  cell_of_shapedOpen_int (zero := #[.int .i64 0]) (t := 3) h (by decide +kernel) (by kernel_rfl) rfl (by kernel_rfl) (by kernel_rfl) Tryz.underlying3
end Go.Proofs.YtjloddlkleileaaGreatDoor
