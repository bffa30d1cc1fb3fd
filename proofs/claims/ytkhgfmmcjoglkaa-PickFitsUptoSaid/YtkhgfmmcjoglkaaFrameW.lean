/-
  Arguments that are a struct of one-cell fields or an array of texts: plain lemmas; no condition.
-/
import Derived.Test.YtkhgfmmcjoglkaaFrameV
namespace Go.Proofs.Ytkhgfmmcjoglkaa
open Go.ChangeShapes Go.WideShapes Go.ChangeAt Go.RowKit Go.Deep
set_option linter.unusedVariables false
section
variable {H : Type} {enc : TypeId × Value → H} {P : Program}
theorem open_agg_plain {t : TypeId} {fs : Array Field} {W : World} {r : Reach} {b0 : Nat} {v : Value} {d : DataW H} {ps : List MemPlace} (he : P.underlying t = some (.struct fs))
    (hone : oneCellFields P fs = true) (hC : P.cellsOf t = fs.size) (hv : Value.okWide P W r b0 t v) (h : DataW.Trod enc P W 0 (fun _ => true) true t v d ps) :
    ∃ cs : Array Value, v = .agg cs ∧ cs.size = fs.size ∧ ∀ j f, fs[j]? = some f → ∃ y fuel, DataW.trod enc P W 0 (fun _ => true) true fuel f.type [cs.toList.getD j .nilFunc] = some y := by
  obtain ⟨cs, rfl, hsz⟩ := okWide_struct he hv
  obtain ⟨fuel, hf⟩ := h
  obtain ⟨xs, k', _, hxe, hcl, hxl, hff⟩ := DataW.trod_struct he hf
  refine ⟨cs, rfl, hsz.trans hC, fun j fd hfd => ?_⟩
  obtain ⟨ho, hk⟩ := hone_of hone j fd hfd
  have hj : j < fs.size := (Array.getElem?_eq_some_iff.1 hfd).1
  have hl : cs.toList.length = fs.size := by rw [Array.length_toList]; exact hsz.trans hC
  have h1 := hff j fd hfd
  rw [ho, hk] at h1
  have hd : ((Value.agg cs).cells.toList.drop j).take 1 = [cs.toList.getD j .nilFunc] := by
    have hg : cs.toList.getD j .nilFunc = cs.toList[j] := by simp [List.getD, List.getElem?_eq_getElem (show j < cs.toList.length by omega)]
    show (cs.toList.drop j).take 1 = _
    rw [hg, List.drop_eq_getElem_cons (by omega)]
    rfl
  rw [hd] at h1
  have hjx : j < xs.length := by rw [hxl]; omega
  rw [List.getElem?_eq_getElem hjx] at h1
  exact ⟨_, _, h1⟩
theorem int_plain {W : World} {v : Value} {f : TypeId} (h : ∃ y fuel, DataW.trod enc P W 0 (fun _ => true) true fuel f [v] = some y) (hu : P.underlying f = some (.int .i64)) :
    ∃ x : Int, v = .int .i64 x ∧ -9223372036854775808 ≤ x ∧ x ≤ 9223372036854775807 := by
  obtain ⟨y, fuel, hy⟩ := h
  obtain ⟨x, e, _, hw⟩ := DataW.trod_int hu hy
  refine ⟨x, by simpa using e, ?_⟩
  simp [Lit.wf, IntKind.min, IntKind.max, IntKind.signed, IntKind.bits] at hw
  omega
theorem array3 {α : Type} {a : Array α} (h : a.size = 3) : ∃ x0 x1 x2, a = #[x0, x1, x2] := by
  obtain ⟨l⟩ := a
  match l, h with
  | [x0, x1, x2], _ => exact ⟨x0, x1, x2, rfl⟩
theorem array4 {α : Type} {a : Array α} (h : a.size = 4) : ∃ x0 x1 x2 x3, a = #[x0, x1, x2, x3] := by
  obtain ⟨l⟩ := a
  match l, h with
  | [x0, x1, x2, x3], _ => exact ⟨x0, x1, x2, x3, rfl⟩
theorem open_strs4 {t e : TypeId} {W : World} {r : Reach} {b0 : Nat} {v : Value} {d : DataW H} {ps : List MemPlace} (ht : P.underlying t = some (.array 4 e)) (he : P.underlying e = some .string) (hC : P.cellsOf t = 4) (he1 : P.cellsOf e = 1)
    (hv : Value.okWide P W r b0 t v) (h : DataW.Trod enc P W 0 (fun _ => true) true t v d ps) :
    ∃ a b c d : ByteArray, v = .agg #[.string a, .string b, .string c, .string d] := by
  unfold Value.okWide at hv
  rw [ht] at hv
  obtain ⟨cs, rfl, hsz, _⟩ := hv
  obtain ⟨c0, c1, c2, c3, rfl⟩ := array4 (hsz.trans hC)
  obtain ⟨fuel, hf⟩ := h
  obtain ⟨xs, m, _, _, _, hxl, hff⟩ := DataW.trod_array ht hf
  have one : ∀ i c, i < 4 → ((Value.agg #[c0, c1, c2, c3]).cells.toList.drop i).take 1 = [c] → ∃ x : ByteArray, c = .string x := by
    intro i c hi hc
    have h1 := hff i hi
    rw [he1, Nat.mul_one, hc, List.getElem?_eq_getElem (by omega)] at h1
    obtain ⟨x, e, _⟩ := DataW.trod_string he h1
    simp only [List.cons.injEq, and_true] at e
    exact ⟨x, e⟩
  obtain ⟨x0, rfl⟩ := one 0 c0 (by omega) rfl
  obtain ⟨x1, rfl⟩ := one 1 c1 (by omega) rfl
  obtain ⟨x2, rfl⟩ := one 2 c2 (by omega) rfl
  obtain ⟨x3, rfl⟩ := one 3 c3 (by omega) rfl
  exact ⟨x0, x1, x2, x3, rfl⟩
end
end Go.Proofs.Ytkhgfmmcjoglkaa
