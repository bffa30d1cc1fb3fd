/-
  A slice of structs with a string among the fields, with the form's own reach: plain lemmas over whatever law; no condition.
-/
import Derived.Test.YtjfbcjmnjlehaaaDoorFrame
import Derived.SizedLaws
namespace Go.Proofs.YtjfbcjmnjlehaaaDoor
open Go.ChangeShapes Go.WideShapes Go.ChangeAt Go.RowKit Go.Deep
set_option linter.unusedVariables false
section
variable {H : Type} {enc : TypeId × Value → H} {P : Program}
theorem weights_all_mem {e : TypeId} : ∀ {l : List (DataW H)} {d : DataW H}, d ∈ l → ∀ n ∈ d.weights P e, n ∈ DataW.weightsAll P e l
  | d' :: r, d, hd, n, hn => by
    simp only [DataW.weightsAll, List.mem_append]
    rcases List.mem_cons.1 hd with rfl | h
    · exact Or.inl hn
    · exact Or.inr (weights_all_mem h n hn)

/-- As open_recs, and each field's weights lie within the reach. -/
theorem open_recs_sized {t e : TypeId} {fs : Array Field} {W : World} {r : Reach} {b0 : Nat} {v : Value} {d : DataW H} {ps : List MemPlace} (ht : P.underlying t = some (.slice e)) (he : P.underlying e = some (.struct fs))
    (hone : oneCellFields P fs = true) (hC : P.cellsOf e = fs.size) (hsz : 0 < fs.size) (hv : Value.okWide P W r b0 t v) (h : DataW.Trod enc P W 0 (fun _ => true) true t v d ps) (hw : ∀ n ∈ d.weights P t, n ≤ reachBytes) :
    ∃ A n c V, v = .slice A n c ∧ n ≤ c ∧ c ≤ maxLen ∧ Rec W W.heap.size fs.size A n V ∧
      ∀ i, i < n → ∀ j f, fs[j]? = some f → ∃ y fuel, DataW.trod enc P W 0 (fun _ => true) true fuel f.type [V i j] = some y ∧ ∀ n ∈ y.1.weights P f.type, n ≤ reachBytes := by
  obtain ⟨a0, n0, c0, rfl⟩ := okWide_slice ht hv
  obtain ⟨fuel, hf⟩ := h
  rcases open_slice ht hf with ⟨hcs, _⟩ | ⟨a, n, c, m, k, D, Pl, hcs, _, hl, hm, hmm, hx, hi⟩
  · simp [Value.cells] at hcs
    obtain ⟨rfl, rfl, rfl⟩ := hcs
    exact ⟨none, 0, 0, fun _ _ => .nilFunc, rfl, Nat.le_refl _, by decide, fun h => absurd h (by omega), fun i hi => absurd hi (by omega)⟩
  · simp [Value.cells] at hcs
    obtain ⟨rfl, rfl, rfl⟩ := hcs
    have hnm : n0 ≤ m := by rw [hmm]; split <;> omega
    have hdx := congrArg Prod.fst hx
    simp only at hdx
    subst hdx
    have hwD : ∀ i, i < n0 → ∀ n ∈ (D i).weights P e, n ≤ reachBytes := fun i hin n hn => hw n (by
      simp only [DataW.weights, ht]
      refine List.mem_cons_of_mem _ (List.mem_append.2 (.inl (weights_all_mem (d := D i) ?_ n hn)))
      exact List.mem_map.2 ⟨i, List.mem_range.2 hin, rfl⟩)
    have each : ∀ i, i < n0 → ∃ f : Nat → Value, ∀ j, j < fs.size → W.cell? ((a.add (i * fs.size)).add j) = some (f j) ∧ ∀ fd, fs[j]? = some fd → ∃ y fuel, DataW.trod enc P W 0 (fun _ => true) true fuel fd.type [f j] = some y ∧ ∀ n ∈ y.1.weights P fd.type, n ≤ reachBytes := by
      intro i hin
      obtain ⟨cs', hc, htr⟩ := hi i (by omega)
      rw [hC] at hc
      obtain ⟨xs, k', _, hxe, _, hxl, hff⟩ := DataW.trod_struct he htr
      have hDi := congrArg Prod.fst hxe
      simp only at hDi
      obtain ⟨_, hcl, hat⟩ := World.cells?_some hc
      refine ⟨fun j => cs'.getD j .nilFunc, fun j hj => ⟨?_, fun fd hfd => ?_⟩⟩
      · rw [hat j hj]
        simp [List.getD, List.getElem?_eq_getElem (show j < cs'.length by omega)]
      · obtain ⟨ho, hk⟩ := hone_of hone j fd hfd
        have h1 := hff j fd hfd
        rw [ho, hk] at h1
        have hd : (cs'.drop j).take 1 = [cs'.getD j .nilFunc] := by
          have hg : cs'.getD j .nilFunc = cs'[j] := by simp [List.getD, List.getElem?_eq_getElem (show j < cs'.length by omega)]
          rw [hg, List.drop_eq_getElem_cons (by omega)]
          rfl
        rw [hd] at h1
        have hjx : j < xs.length := by omega
        rw [List.getElem?_eq_getElem hjx] at h1
        refine ⟨_, _, h1, fun n hn => hwD i hin n ?_⟩
        rw [hDi]
        simp only [DataW.weights, he]
        refine DataW.weights_mem_each (j := j) (t := fd.type) (d := xs[j].1) ?_ ?_ n hn
        · rw [List.getElem?_map, Array.getElem?_toList, hfd]
          rfl
        · rw [List.getElem?_map, List.getElem?_eq_getElem hjx]
          rfl
    obtain ⟨V, hV⟩ := choose_lt (α := Nat → Value) (p := fun i f => ∀ j, j < fs.size → W.cell? ((a.add (i * fs.size)).add j) = some (f j) ∧ ∀ fd, fs[j]? = some fd → ∃ y fuel, DataW.trod enc P W 0 (fun _ => true) true fuel fd.type [f j] = some y ∧ ∀ n ∈ y.1.weights P fd.type, n ≤ reachBytes) each
    refine ⟨some a, n0, c0, V, rfl, hl, hm, fun hn => ?_, fun i hin j fd hfd => ((hV i hin) j (Array.getElem?_eq_some_iff.1 hfd).1).2 fd hfd⟩
    have h0 := ((hV 0 hn) 0 hsz).1
    have ha : a = ⟨a.block, a.off, none⟩ := by simpa [Addr.add] using addr_plain h0
    refine ⟨a.block, a.off, by rw [← ha], ?_, fun i hin j hj => ?_⟩
    · have := World.block_lt_of_cell? W _ h0
      simpa [Addr.add] using this
    · have := ((hV i hin) j hj).1
      rw [Go.Deep.add_add, ha] at this
      rw [← this]
      congr 1
      unfold Addr.add
      split
      · first | (simp; done) | (simp; omega)
      · first | (simp; done) | (simp; omega)

/-- A column of int64 of such a slice. -/
theorem int_column_sized {W : World} {n : Nat} {V : Nat → Nat → Value} {fs : Array Field} {j : Nat} {f : Field} (h : ∀ i, i < n → ∀ j f, fs[j]? = some f → ∃ y fuel, DataW.trod enc P W 0 (fun _ => true) true fuel f.type [V i j] = some y ∧ ∀ n ∈ y.1.weights P f.type, n ≤ reachBytes) (hf : fs[j]? = some f) (hu : P.underlying f.type = some (.int .i64)) :
    ∃ F : Nat → Int, (∀ i, i < n → V i j = .int .i64 (F i)) ∧ ∀ i, -9223372036854775808 ≤ F i ∧ F i ≤ 9223372036854775807 :=
  int_column (fun i hi j f hf => (h i hi j f hf).imp fun y hy => hy.imp fun fuel hfy => hfy.1) hf hu
/-- A column of strings of such a slice, each within the reach. -/
theorem str_column_sized {W : World} {n : Nat} {V : Nat → Nat → Value} {fs : Array Field} {j : Nat} {f : Field} (h : ∀ i, i < n → ∀ j f, fs[j]? = some f → ∃ y fuel, DataW.trod enc P W 0 (fun _ => true) true fuel f.type [V i j] = some y ∧ ∀ n ∈ y.1.weights P f.type, n ≤ reachBytes) (hf : fs[j]? = some f) (hu : P.underlying f.type = some .string) :
    ∃ F : Nat → ByteArray, (∀ i, i < n → V i j = .string (F i)) ∧ ∀ i, (F i).size ≤ 140737488351232 := by
  have each : ∀ i, ∃ x : ByteArray, (i < n → V i j = .string x) ∧ x.size ≤ 140737488351232 := by
    intro i
    by_cases hi : i < n
    · obtain ⟨y, fuel, hy, hwy⟩ := h i hi j f hf
      obtain ⟨s, e, hx, hs⟩ := DataW.trod_string hu hy
      subst hx
      refine ⟨s, fun _ => by simpa using e, ?_⟩
      have := hwy s.data.toList.length (by simp [DataW.weights])
      simp only [Array.length_toList, reachBytes] at this
      exact this
    · exact ⟨ByteArray.empty, fun h => absurd h hi, by decide⟩
  exact ⟨fun i => (each i).choose, fun i hi => (each i).choose_spec.1 hi, fun i => (each i).choose_spec.2⟩
end
end Go.Proofs.YtjfbcjmnjlehaaaDoor
