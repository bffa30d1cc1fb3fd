/-
  Arguments that are slices of int, or arrays of two ints, with the form's own reach: plain lemmas; no condition.
-/
import Derived.Test.YtjfbcjmnjlehaaaDoorFrameS
import Derived.Test.YtjfbcjmnjlehaaaDoorDiskD
namespace Go.Proofs.YtjfbcjmnjlehaaaDoor
open Go.ChangeShapes Go.WideShapes Go.ChangeAt Go.RowKit Go.Deep
set_option linter.unusedVariables false
section
variable {H : Type} {enc : TypeId × Value → H} {P : Program}
theorem open_ints_sized {t e : TypeId} {W : World} {r : Reach} {b0 : Nat} {v : Value} {d : DataW H} {ps : List MemPlace} (ht : P.underlying t = some (.slice e)) (he : P.underlying e = some (.int .i64)) (hC : P.cellsOf e = 1) (hB : P.bytesOf e = 8)
    (hv : Value.okWide P W r b0 t v) (h : DataW.Trod enc P W 0 (fun _ => true) true t v d ps) (hw : ∀ n ∈ d.weights P t, n ≤ reachBytes) :
    ∃ l : List Int, RInts W v l ∧ l.length ≤ 17592186044416 := by
  obtain ⟨a0, n0, c0, rfl⟩ := okWide_slice ht hv
  obtain ⟨fuel, hf⟩ := h
  rcases open_ints ht he hC hf with ⟨hcs, _⟩ | ⟨a, n, c, zs, hcs, _, hl, hm, hzl, hx, hcell, hwf⟩
  · simp [Value.cells] at hcs
    obtain ⟨rfl, rfl, rfl⟩ := hcs
    exact ⟨[], ⟨none, 0, rfl, by decide, by simp, by simp⟩, by simp⟩
  · simp [Value.cells] at hcs
    obtain ⟨rfl, rfl, rfl⟩ := hcs
    simp only [if_true] at hzl
    have hdx := congrArg Prod.fst hx
    simp only at hdx
    subst hdx
    have hn : n0 ≤ 17592186044416 := by
      have := hw _ (by simp only [DataW.weights, ht]; exact List.mem_cons_self ..)
      rw [hB] at this
      simp only [lits, List.length_map, List.length_take, List.length_drop, reachBytes] at this
      omega
    have hlen : (zs.take n0).length = n0 := by rw [List.length_take]; omega
    refine ⟨zs.take n0, ⟨some a, c0, by rw [hlen], by omega, fun x hx => ?_, fun h0 => ?_⟩, by omega⟩
    · have := hwf x (List.mem_of_mem_take hx)
      simp [Lit.wf, IntKind.min, IntKind.max, IntKind.signed, IntKind.bits] at this
      omega
    · have h00 := hcell 0 (by omega)
      have ha : a = ⟨a.block, a.off, none⟩ := by simpa [Addr.add] using addr_plain h00
      refine ⟨a.block, a.off, by rw [← ha], fun i x hi => ?_⟩
      have hil : i < n0 := by
        have := (List.getElem?_eq_some_iff.1 hi).1
        omega
      have := hcell i (by omega)
      rw [List.getElem?_take_of_lt hil] at hi
      simp only [List.getD, hi, Option.getD_some] at this
      rw [ha] at this
      rw [← this]
      congr 1
      unfold Addr.add
      split
      · first | (simp; done) | (simp; omega)
      · first | (simp; done) | (simp; omega)
theorem arr_two {α : Type} {a : Array α} (h : a.size = 2) : ∃ x0 x1, a = #[x0, x1] := by
  obtain ⟨l⟩ := a
  match l, h with
  | [x0, x1], _ => exact ⟨x0, x1, rfl⟩
/-- An argument that is an array of two int. -/
theorem open_arr2 {t e : TypeId} {W : World} {r : Reach} {b0 : Nat} {v : Value} {d : DataW H} {ps : List MemPlace} (ht : P.underlying t = some (.array 2 e)) (he : P.underlying e = some (.int .i64)) (hC : P.cellsOf t = 2) (he1 : P.cellsOf e = 1)
    (hv : Value.okWide P W r b0 t v) (h : DataW.Trod enc P W 0 (fun _ => true) true t v d ps) :
    ∃ a b : Int, v = .agg #[.int .i64 a, .int .i64 b] ∧ (-9223372036854775808 ≤ a ∧ a ≤ 9223372036854775807) ∧ -9223372036854775808 ≤ b ∧ b ≤ 9223372036854775807 := by
  unfold Value.okWide at hv
  rw [ht] at hv
  obtain ⟨cs, rfl, hsz, _⟩ := hv
  obtain ⟨c0, c1, rfl⟩ := arr_two (hsz.trans hC)
  obtain ⟨fuel, hf⟩ := h
  obtain ⟨xs, m, _, _, _, hxl, hff⟩ := DataW.trod_array ht hf
  have one : ∀ i c, i < 2 → ((Value.agg #[c0, c1]).cells.toList.drop i).take 1 = [c] → ∃ x : Int, c = .int .i64 x ∧ -9223372036854775808 ≤ x ∧ x ≤ 9223372036854775807 := by
    intro i c hi hc
    have h1 := hff i hi
    rw [he1, Nat.mul_one, hc, List.getElem?_eq_getElem (by omega)] at h1
    obtain ⟨x, e, _, hw⟩ := DataW.trod_int he h1
    simp only [List.cons.injEq, and_true] at e
    refine ⟨x, e, ?_⟩
    simp [Lit.wf, IntKind.min, IntKind.max, IntKind.signed, IntKind.bits] at hw
    omega
  obtain ⟨x0, rfl, b0⟩ := one 0 c0 (by omega) rfl
  obtain ⟨x1, rfl, b1⟩ := one 1 c1 (by omega) rfl
  exact ⟨x0, x1, rfl, b0, b1⟩
end
end Go.Proofs.YtjfbcjmnjlehaaaDoor
