/-
  The laws' argument []Edit, where what is read is of bulk at most 1048576: as edits, one by one.
-/
import Derived.Test.YtkhgfmmcjoglkaaVerKa
import Derived.Test.YtkhgfmmcjoglkaaFrameV
namespace Go.Proofs.Ytkhgfmmcjoglkaa
open Go.ChangeShapes Go.WideShapes Go.ChangeAt Go.RowKit Go.Deep
set_option linter.unusedVariables false
set_option linter.unusedSimpArgs false
section
variable {H : Type} {enc : TypeId × Value → H}
theorem rows_b {W : World} {B : Nat} {v : Value} (h : PartB H enc Try.prog W B 54 v) : ∃ l : List PlaceV, ReadRows W v l ∧ l.length ≤ B ∧ (∀ p ∈ l, I64 p.m.file) ∧ ∀ p ∈ l, p.m.lo.size ≤ B ∧ p.m.hi.size ≤ B := by
  obtain ⟨A, n, c, V, rfl, hnc, hcm, hnB, hrec, hV⟩ := recs_b Try.underlying54 Try.underlying58 (by kernel_rfl) (by kernel_rfl) (by decide) h
  have each : ∀ i, ∃ p : PlaceV, i < n → V i 0 = .int .i64 p.level ∧ V i 1 = .int .i64 p.m.file ∧ V i 2 = .int .i64 p.m.size ∧ V i 3 = .string p.m.lo ∧ V i 4 = .string p.m.hi ∧ I64 p.m.file ∧ p.m.lo.size ≤ B ∧ p.m.hi.size ≤ B := fun i => by
    by_cases hi : i < n
    · obtain ⟨x0, e0, _⟩ := int_b Try.underlying3 (hV i hi 0 _ rfl)
      obtain ⟨x1, e1, b1⟩ := int_b Try.underlying2 (hV i hi 1 _ rfl)
      obtain ⟨x2, e2, _⟩ := int_b Try.underlying2 (hV i hi 2 _ rfl)
      obtain ⟨x3, e3, b3⟩ := str_b Try.underlying9 (hV i hi 3 _ rfl)
      obtain ⟨x4, e4, b4⟩ := str_b Try.underlying9 (hV i hi 4 _ rfl)
      exact ⟨⟨x0, ⟨x1, x2, x3, x4⟩⟩, fun _ => ⟨e0, e1, e2, e3, e4, b1, b3, b4⟩⟩
    · exact ⟨⟨0, ⟨0, 0, ⟨#[]⟩, ⟨#[]⟩⟩⟩, fun h => absurd h hi⟩
  have hlen : ((List.range n).map fun i => (each i).choose).length = n := by simp
  refine ⟨(List.range n).map fun i => (each i).choose, ⟨A, c, by rw [hlen], by omega, by rw [hlen]; unfold maxLen at hcm; omega, fun X x Y hl => ?_⟩, by omega, fun p hp => ?_, fun p hp => ?_⟩
  · have hX : X.length < n := by
      have := congrArg List.length hl
      rw [hlen] at this
      simp at this
      omega
    have hx : x = (each X.length).choose := by
      have : ((List.range n).map fun i => (each i).choose)[X.length]? = some x := by rw [hl]; simp
      rw [List.getElem?_map, List.getElem?_range hX] at this
      simpa using this.symm
    obtain ⟨b, off, e, hb, hr⟩ := hrec (by omega)
    obtain ⟨e0, e1, e2, e3, e4, _⟩ := (each X.length).choose_spec hX
    rw [hx]
    refine ⟨b, off, e, hb, ?_, ?_, ?_, ?_, ?_⟩
    · rw [← e0]; exact hr _ hX 0 (by decide)
    · rw [← e1]; exact hr _ hX 1 (by decide)
    · rw [← e2]; exact hr _ hX 2 (by decide)
    · rw [← e3]; exact hr _ hX 3 (by decide)
    · rw [← e4]; exact hr _ hX 4 (by decide)
  · obtain ⟨i, hi, rfl⟩ := List.mem_map.1 hp
    exact ((each i).choose_spec (List.mem_range.1 hi)).2.2.2.2.2.1
  · obtain ⟨i, hi, rfl⟩ := List.mem_map.1 hp
    exact ((each i).choose_spec (List.mem_range.1 hi)).2.2.2.2.2.2
theorem eds_b {W : World} {v : Value} (h : PartB H enc Try.prog W 1048576 22 v) : ∃ (A : Option Addr) (n c : Nat) (Ed : Nat → EditV), v = .slice A n c ∧ n ≤ c ∧ c ≤ maxLen ∧ EdsAt W A n Ed ∧ ∀ i, i < n → EdFine (Ed i) := by
  obtain ⟨A, n, c, V, rfl, hnc, hcm, hnB, hrec, hV⟩ := recs_b Try.underlying22 Try.underlying56 (by kernel_rfl) (by kernel_rfl) (by decide) h
  have each : ∀ i, ∃ E : EditV, i < n → (ReadRows W (V i 0) E.add ∧ ReadInts W (V i 1) E.drop ∧ V i 2 = .int .i64 E.log ∧ V i 3 = .int .i64 E.next ∧ V i 4 = .int .i64 E.seq) ∧ EdFine E := fun i => by
    by_cases hi : i < n
    · obtain ⟨l, h0, hl, hfl, _⟩ := rows_b (hV i hi 0 _ rfl)
      obtain ⟨d, da, dc, e1, hdc, hdm, hdB, hdI, hdr⟩ := ints_b Try.underlying35 Try.underlying2 (by kernel_rfl) (hV i hi 1 _ rfl)
      obtain ⟨x2, e2, _⟩ := int_b Try.underlying2 (hV i hi 2 _ rfl)
      obtain ⟨x3, e3, b3⟩ := int_b Try.underlying2 (hV i hi 3 _ rfl)
      obtain ⟨x4, e4, _⟩ := int_b Try.underlying2 (hV i hi 4 _ rfl)
      exact ⟨⟨l, d, x2, x3, x4⟩, fun _ => ⟨⟨h0, ⟨da, dc, e1, hdc, (show d.length ≤ 9223372036854775807 by unfold maxLen at hdm; omega), hdr⟩, e2, e3, e4⟩, ⟨⟨hdI, hfl⟩, b3, hl, hdB⟩⟩⟩
    · exact ⟨⟨[], [], 0, 0, 0⟩, fun h => absurd h hi⟩
  refine ⟨A, n, c, fun i => (each i).choose, rfl, hnc, hcm, fun hn => ?_, fun i hi => ((each i).choose_spec hi).2⟩
  obtain ⟨b, off, e, hb, hr⟩ := hrec hn
  refine ⟨b, off, e, hb, fun i hi => ?_⟩
  obtain ⟨⟨h0, h1, e2, e3, e4⟩, _⟩ := (each i).choose_spec hi
  refine ⟨V i 0, V i 1, hr i hi 0 (by decide), hr i hi 1 (by decide), ?_, ?_, ?_, h0, h1⟩
  · rw [← e2]; exact hr i hi 2 (by decide)
  · rw [← e3]; exact hr i hi 3 (by decide)
  · rw [← e4]; exact hr i hi 4 (by decide)
end
end Go.Proofs.Ytkhgfmmcjoglkaa
