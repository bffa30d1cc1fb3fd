/-
  An argument that is a struct of one-cell fields, with the form's own reach: plain lemmas; no condition.
-/
import Derived.Test.YtlcggocfkanblaaFrameS
namespace Go.Proofs.Ytlcggocfkanblaa
open Go.ChangeShapes Go.WideShapes Go.ChangeAt Go.RowKit Go.Deep
set_option linter.unusedVariables false
section
variable {H : Type} {enc : TypeId × Value → H} {P : Program}
theorem open_agg_sized {t : TypeId} {fs : Array Field} {W : World} {r : Reach} {b0 : Nat} {v : Value} {d : DataW H} {ps : List MemPlace} (he : P.underlying t = some (.struct fs))
    (hone : oneCellFields P fs = true) (hC : P.cellsOf t = fs.size) (hv : Value.okWide P W r b0 t v) (h : DataW.Trod enc P W 0 (fun _ => true) true t v d ps) (hw : ∀ n ∈ d.weights P t, n ≤ reachBytes) :
    ∃ cs : Array Value, v = .agg cs ∧ cs.size = fs.size ∧ ∀ j f, fs[j]? = some f → ∃ y fuel, DataW.trod enc P W 0 (fun _ => true) true fuel f.type [cs.toList.getD j .nilFunc] = some y ∧ ∀ n ∈ y.1.weights P f.type, n ≤ reachBytes := by
  obtain ⟨cs, rfl, hsz⟩ := okWide_struct he hv
  obtain ⟨fuel, hf⟩ := h
  obtain ⟨xs, k', _, hxe, hcl, hxl, hff⟩ := DataW.trod_struct he hf
  have hd := congrArg Prod.fst hxe
  simp only at hd
  subst hd
  refine ⟨cs, rfl, hsz.trans hC, fun j fd hfd => ?_⟩
  obtain ⟨ho, hk⟩ := hone_of hone j fd hfd
  have hj : j < fs.size := (Array.getElem?_eq_some_iff.1 hfd).1
  have hl : cs.toList.length = fs.size := by rw [Array.length_toList]; exact hsz.trans hC
  have h1 := hff j fd hfd
  rw [ho, hk] at h1
  have hd : ((Value.agg cs).cells.toList.drop j).take 1 = [cs.toList.getD j .nilFunc] := by
    have hg : cs.toList.getD j .nilFunc = cs.toList[j] := by simp [List.getD, List.getElem?_eq_getElem (show j < cs.toList.length by omega)]
    show (cs.toList.drop j).take 1 = _
    rw [hg, List.drop_eq_getElem_cons (by omega)]
    rfl
  rw [hd] at h1
  have hjx : j < xs.length := by rw [hxl]; omega
  rw [List.getElem?_eq_getElem hjx] at h1
  refine ⟨_, _, h1, fun n hn => hw n ?_⟩
  simp only [DataW.weights, he]
  refine DataW.weights_mem_each (j := j) (t := fd.type) (d := xs[j].1) ?_ ?_ n hn
  · rw [List.getElem?_map, Array.getElem?_toList, hfd]
    rfl
  · rw [List.getElem?_map, List.getElem?_eq_getElem hjx]
    rfl
theorem array5 {α : Type} {a : Array α} (h : a.size = 5) : ∃ x0 x1 x2 x3 x4, a = #[x0, x1, x2, x3, x4] := by
  obtain ⟨l⟩ := a
  match l, h with
  | [x0, x1, x2, x3, x4], _ => exact ⟨x0, x1, x2, x3, x4, rfl⟩
theorem int_of_sized {W : World} {v : Value} {f : TypeId} (h : ∃ y fuel, DataW.trod enc P W 0 (fun _ => true) true fuel f [v] = some y ∧ ∀ n ∈ y.1.weights P f, n ≤ reachBytes) (hu : P.underlying f = some (.int .i64)) :
    ∃ x : Int, v = .int .i64 x ∧ -9223372036854775808 ≤ x ∧ x ≤ 9223372036854775807 := by
  obtain ⟨y, fuel, hy, _⟩ := h
  obtain ⟨x, e, _, hw⟩ := DataW.trod_int hu hy
  refine ⟨x, by simpa using e, ?_⟩
  simp [Lit.wf, IntKind.min, IntKind.max, IntKind.signed, IntKind.bits] at hw
  omega
theorem str_of_sized {W : World} {v : Value} {f : TypeId} (h : ∃ y fuel, DataW.trod enc P W 0 (fun _ => true) true fuel f [v] = some y ∧ ∀ n ∈ y.1.weights P f, n ≤ reachBytes) (hu : P.underlying f = some .string) :
    ∃ s : ByteArray, v = .string s ∧ s.size ≤ 140737488351232 := by
  obtain ⟨y, fuel, hy, hwy⟩ := h
  obtain ⟨s, e, hx, hs⟩ := DataW.trod_string hu hy
  subst hx
  refine ⟨s, by simpa using e, ?_⟩
  have := hwy s.data.toList.length (by simp [DataW.weights])
  simp only [Array.length_toList, reachBytes] at this
  exact this
end
end Go.Proofs.Ytlcggocfkanblaa
