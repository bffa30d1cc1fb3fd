/-
  A column of []int in a slice of structs: plain lemmas over whatever law; no condition.
-/
import Derived.Test.YtlcggocfkanblaaFrameS
import Derived.Test.YtlcggocfkanblaaFrameI
namespace Go.Proofs.Ytlcggocfkanblaa
open Go.ChangeShapes Go.WideShapes Go.ChangeAt Go.RowKit Go.Deep
set_option linter.unusedVariables false
section
variable {H : Type} {enc : TypeId × Value → H} {P : Program}
theorem ints_of {t e : TypeId} {W : World} {v : Value} {y : DataW H × List MemPlace} {fuel : Nat} (ht : P.underlying t = some (.slice e)) (he : P.underlying e = some (.int .i64)) (hC : P.cellsOf e = 1) (hB : P.bytesOf e = 8)
    (hf : DataW.trod enc P W 0 (fun _ => true) true fuel t [v] = some y) (hw : ∀ n ∈ y.1.weights P t, n ≤ reachBytes) :
    ∃ l : List Int, RInts W v l ∧ l.length ≤ 17592186044416 := by
  rcases open_ints ht he hC hf with ⟨hcs, _⟩ | ⟨a, n0, c0, zs, hcs, _, hl, hm, hzl, hx, hcell, hwf⟩
  · simp at hcs
    subst hcs
    exact ⟨[], ⟨none, 0, rfl, by decide, by simp, by simp⟩, by simp⟩
  · simp at hcs
    subst hcs
    simp only [if_true] at hzl
    have hdx := congrArg Prod.fst hx
    simp only at hdx
    rw [hdx] at hw
    have hn : n0 ≤ 17592186044416 := by
      have := hw _ (by simp only [DataW.weights, ht]; exact List.mem_cons_self ..)
      rw [hB] at this
      simp only [lits, List.length_map, List.length_take, List.length_drop, reachBytes] at this
      omega
    have hlen : (zs.take n0).length = n0 := by rw [List.length_take]; omega
    refine ⟨zs.take n0, ⟨some a, c0, by rw [hlen], by omega, fun x hx => ?_, fun h0 => ?_⟩, by omega⟩
    · have := hwf x (List.mem_of_mem_take hx)
      simp [Lit.wf, IntKind.min, IntKind.max, IntKind.signed, IntKind.bits] at this
      omega
    · have h00 := hcell 0 (by omega)
      have ha : a = ⟨a.block, a.off, none⟩ := by simpa [Addr.add] using addr_plain h00
      refine ⟨a.block, a.off, by rw [← ha], fun i x hi => ?_⟩
      have hil : i < n0 := by
        have := (List.getElem?_eq_some_iff.1 hi).1
        omega
      have := hcell i (by omega)
      rw [List.getElem?_take_of_lt hil] at hi
      simp only [List.getD, hi, Option.getD_some] at this
      rw [ha] at this
      rw [← this]
      congr 1
      unfold Addr.add
      split
      · first | (simp; done) | (simp; omega)
      · first | (simp; done) | (simp; omega)
theorem ints_column_sized {e : TypeId} {W : World} {n : Nat} {V : Nat → Nat → Value} {fs : Array Field} {j : Nat} {f : Field} (h : ∀ i, i < n → ∀ j f, fs[j]? = some f → ∃ y fuel, DataW.trod enc P W 0 (fun _ => true) true fuel f.type [V i j] = some y ∧ ∀ n ∈ y.1.weights P f.type, n ≤ reachBytes) (hf : fs[j]? = some f)
    (ht : P.underlying f.type = some (.slice e)) (he : P.underlying e = some (.int .i64)) (hC : P.cellsOf e = 1) (hB : P.bytesOf e = 8) :
    ∃ L : Nat → List Int, ∀ i, i < n → RInts W (V i j) (L i) ∧ (L i).length ≤ 17592186044416 := by
  have each : ∀ i, ∃ l : List Int, i < n → RInts W (V i j) l ∧ l.length ≤ 17592186044416 := by
    intro i
    by_cases hi : i < n
    · obtain ⟨y, fuel, hy, hwy⟩ := h i hi j f hf
      obtain ⟨l, h1, h2⟩ := ints_of ht he hC hB hy hwy
      exact ⟨l, fun _ => ⟨h1, h2⟩⟩
    · exact ⟨[], fun h => absurd h hi⟩
  exact ⟨fun i => (each i).choose, fun i hi => (each i).choose_spec hi⟩
end
def dRow (Do N M : Nat → Int) (A B : Nat → ByteArray) (bv : Nat → Value) (i j : Nat) : Value :=
  match j with | 0 => .int .i64 (Do i) | 1 => .string (A i) | 2 => .string (B i) | 3 => .int .i64 (N i) | 4 => .int .i64 (M i) | _ => bv i
end Go.Proofs.Ytlcggocfkanblaa
