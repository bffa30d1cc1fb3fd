/-
  A slice of structs with a string among the fields, with the form's own reach: plain lemmas over whatever law; no condition.
  A slice of rows of whatever width, with the form's own reach; a row that is a struct, field by field. Plain lemmas over whatever law; no condition.
  Arguments that are slices of int, or arrays of two ints, with the form's own reach: plain lemmas; no condition.
  A column of []int in a slice of structs: plain lemmas over whatever law; no condition.
-/
import Derived.Test.YtjfbcjmnjlehaaaGreatDoorZMg01
import Derived.SizedLaws
import Derived.Test.YtjfbcjmnjlehaaaGreatDoorZMg06
namespace Go.Proofs.YtjfbcjmnjlehaaaGreatDoor
open Go.ChangeShapes Go.WideShapes Go.ChangeAt Go.RowKit Go.Deep
set_option linter.unusedVariables false
section
variable {H : Type} {enc : TypeId × Value → H} {P : Program}
theorem weights_all_mem {e : TypeId} : ∀ {l : List (DataW H)} {d : DataW H}, d ∈ l → ∀ n ∈ d.weights P e, n ∈ DataW.weightsAll P e l
  | d' :: r, d, hd, n, hn => by
    simp only [DataW.weightsAll, List.mem_append]
    rcases List.mem_cons.1 hd with rfl | h
    · exact Or.inl hn
    · exact Or.inr (weights_all_mem h n hn)

/-- As open_recs, and each field's weights lie within the reach. -/
theorem open_recs_sized {t e : TypeId} {fs : Array Field} {W : World} {r : Reach} {b0 : Nat} {v : Value} {d : DataW H} {ps : List MemPlace} (ht : P.underlying t = some (.slice e)) (he : P.underlying e = some (.struct fs))
    (hone : oneCellFields P fs = true) (hC : P.cellsOf e = fs.size) (hsz : 0 < fs.size) (hv : Value.okWide P W r b0 t v) (h : DataW.Trod enc P W 0 (fun _ => true) true t v d ps) (hw : ∀ n ∈ d.weights P t, n ≤ reachBytes) :
    ∃ A n c V, v = .slice A n c ∧ n ≤ c ∧ c ≤ maxLen ∧ Rec W W.heap.size fs.size A n V ∧
      ∀ i, i < n → ∀ j f, fs[j]? = some f → ∃ y fuel, DataW.trod enc P W 0 (fun _ => true) true fuel f.type [V i j] = some y ∧ ∀ n ∈ y.1.weights P f.type, n ≤ reachBytes := by
  obtain ⟨a0, n0, c0, rfl⟩ := okWide_slice ht hv
  obtain ⟨fuel, hf⟩ := h
  rcases open_slice ht hf with ⟨hcs, _⟩ | ⟨a, n, c, m, k, D, Pl, hcs, _, hl, hm, hmm, hx, hi⟩
  · simp [Value.cells] at hcs
    obtain ⟨rfl, rfl, rfl⟩ := hcs
    exact ⟨none, 0, 0, fun _ _ => .nilFunc, rfl, Nat.le_refl _, by decide, fun h => absurd h (by omega), fun i hi => absurd hi (by omega)⟩
  · simp [Value.cells] at hcs
    obtain ⟨rfl, rfl, rfl⟩ := hcs
    have hnm : n0 ≤ m := by rw [hmm]; split <;> omega
    have hdx := congrArg Prod.fst hx
    simp only at hdx
    subst hdx
    have hwD : ∀ i, i < n0 → ∀ n ∈ (D i).weights P e, n ≤ reachBytes := fun i hin n hn => hw n (by
      simp only [DataW.weights, ht]
      refine List.mem_cons_of_mem _ (List.mem_append.2 (.inl (weights_all_mem (d := D i) ?_ n hn)))
      exact List.mem_map.2 ⟨i, List.mem_range.2 hin, rfl⟩)
    have each : ∀ i, i < n0 → ∃ f : Nat → Value, ∀ j, j < fs.size → W.cell? ((a.add (i * fs.size)).add j) = some (f j) ∧ ∀ fd, fs[j]? = some fd → ∃ y fuel, DataW.trod enc P W 0 (fun _ => true) true fuel fd.type [f j] = some y ∧ ∀ n ∈ y.1.weights P fd.type, n ≤ reachBytes := by
      intro i hin
      obtain ⟨cs', hc, htr⟩ := hi i (by omega)
      rw [hC] at hc
      obtain ⟨xs, k', _, hxe, _, hxl, hff⟩ := DataW.trod_struct he htr
      have hDi := congrArg Prod.fst hxe
      simp only at hDi
      obtain ⟨_, hcl, hat⟩ := World.cells?_some hc
      refine ⟨fun j => cs'.getD j .nilFunc, fun j hj => ⟨?_, fun fd hfd => ?_⟩⟩
      · rw [hat j hj]
        simp [List.getD, List.getElem?_eq_getElem (show j < cs'.length by omega)]
      · obtain ⟨ho, hk⟩ := hone_of hone j fd hfd
        have h1 := hff j fd hfd
        rw [ho, hk] at h1
        have hd : (cs'.drop j).take 1 = [cs'.getD j .nilFunc] := by
          have hg : cs'.getD j .nilFunc = cs'[j] := by simp [List.getD, List.getElem?_eq_getElem (show j < cs'.length by omega)]
          rw [hg, List.drop_eq_getElem_cons (by omega)]
          rfl
        rw [hd] at h1
        have hjx : j < xs.length := by omega
        rw [List.getElem?_eq_getElem hjx] at h1
        refine ⟨_, _, h1, fun n hn => hwD i hin n ?_⟩
        rw [hDi]
        simp only [DataW.weights, he]
        refine DataW.weights_mem_each (j := j) (t := fd.type) (d := xs[j].1) ?_ ?_ n hn
        · rw [List.getElem?_map, Array.getElem?_toList, hfd]
          rfl
        · rw [List.getElem?_map, List.getElem?_eq_getElem hjx]
          rfl
    obtain ⟨V, hV⟩ := choose_lt (α := Nat → Value) (p := fun i f => ∀ j, j < fs.size → W.cell? ((a.add (i * fs.size)).add j) = some (f j) ∧ ∀ fd, fs[j]? = some fd → ∃ y fuel, DataW.trod enc P W 0 (fun _ => true) true fuel fd.type [f j] = some y ∧ ∀ n ∈ y.1.weights P fd.type, n ≤ reachBytes) each
    refine ⟨some a, n0, c0, V, rfl, hl, hm, fun hn => ?_, fun i hin j fd hfd => ((hV i hin) j (Array.getElem?_eq_some_iff.1 hfd).1).2 fd hfd⟩
    have h0 := ((hV 0 hn) 0 hsz).1
    have ha : a = ⟨a.block, a.off, none⟩ := by simpa [Addr.add] using addr_plain h0
    refine ⟨a.block, a.off, by rw [← ha], ?_, fun i hin j hj => ?_⟩
    · have := World.block_lt_of_cell? W _ h0
      simpa [Addr.add] using this
    · have := ((hV i hin) j hj).1
      rw [Go.Deep.add_add, ha] at this
      rw [← this]
      congr 1
      unfold Addr.add
      split
      · first | (simp; done) | (simp; omega)
      · first | (simp; done) | (simp; omega)

/-- A column of int64 of such a slice. -/
theorem int_column_sized {W : World} {n : Nat} {V : Nat → Nat → Value} {fs : Array Field} {j : Nat} {f : Field} (h : ∀ i, i < n → ∀ j f, fs[j]? = some f → ∃ y fuel, DataW.trod enc P W 0 (fun _ => true) true fuel f.type [V i j] = some y ∧ ∀ n ∈ y.1.weights P f.type, n ≤ reachBytes) (hf : fs[j]? = some f) (hu : P.underlying f.type = some (.int .i64)) :
    ∃ F : Nat → Int, (∀ i, i < n → V i j = .int .i64 (F i)) ∧ ∀ i, -9223372036854775808 ≤ F i ∧ F i ≤ 9223372036854775807 :=
  int_column (fun i hi j f hf => (h i hi j f hf).imp fun y hy => hy.imp fun fuel hfy => hfy.1) hf hu
/-- A column of strings of such a slice, each within the reach. -/
theorem str_column_sized {W : World} {n : Nat} {V : Nat → Nat → Value} {fs : Array Field} {j : Nat} {f : Field} (h : ∀ i, i < n → ∀ j f, fs[j]? = some f → ∃ y fuel, DataW.trod enc P W 0 (fun _ => true) true fuel f.type [V i j] = some y ∧ ∀ n ∈ y.1.weights P f.type, n ≤ reachBytes) (hf : fs[j]? = some f) (hu : P.underlying f.type = some .string) :
    ∃ F : Nat → ByteArray, (∀ i, i < n → V i j = .string (F i)) ∧ ∀ i, (F i).size ≤ 140737488351232 := by
  have each : ∀ i, ∃ x : ByteArray, (i < n → V i j = .string x) ∧ x.size ≤ 140737488351232 := by
    intro i
    by_cases hi : i < n
    · obtain ⟨y, fuel, hy, hwy⟩ := h i hi j f hf
      obtain ⟨s, e, hx, hs⟩ := DataW.trod_string hu hy
      subst hx
      refine ⟨s, fun _ => by simpa using e, ?_⟩
      have := hwy s.data.toList.length (by simp [DataW.weights])
      simp only [Array.length_toList, reachBytes] at this
      exact this
    · exact ⟨ByteArray.empty, fun h => absurd h hi, by decide⟩
  exact ⟨fun i => (each i).choose, fun i hi => (each i).choose_spec.1 hi, fun i => (each i).choose_spec.2⟩
end
end Go.Proofs.YtjfbcjmnjlehaaaGreatDoor
namespace Go.Proofs.YtjfbcjmnjlehaaaGreatDoor
open Go.ChangeShapes Go.WideShapes Go.ChangeAt Go.RowKit Go.Deep
set_option linter.unusedVariables false
set_option linter.unusedSimpArgs false
section
variable {H : Type} {enc : TypeId × Value → H} {P : Program}
theorem range_getD (l : List Value) : (List.range l.length).map (fun j => l.getD j .nilFunc) = l := by
  apply List.ext_getElem
  · simp
  · intro i h1 h2
    simp [List.getD, List.getElem?_eq_getElem h2]
theorem open_rows_sized {t e : TypeId} {K : Nat} {W : World} {r : Reach} {b0 : Nat} {v : Value} {d : DataW H} {ps : List MemPlace} (ht : P.underlying t = some (.slice e)) (hC : P.cellsOf e = K) (hK : 0 < K)
    (hv : Value.okWide P W r b0 t v) (h : DataW.Trod enc P W 0 (fun _ => true) true t v d ps) (hw : ∀ n ∈ d.weights P t, n ≤ reachBytes) :
    ∃ A n c V, v = .slice A n c ∧ n ≤ c ∧ c ≤ maxLen ∧ Rec W W.heap.size K A n V ∧
      ∀ i, i < n → ∃ y fuel, DataW.trod enc P W 0 (fun _ => true) true fuel e ((List.range K).map (V i)) = some y ∧ ∀ n ∈ y.1.weights P e, n ≤ reachBytes := by
  obtain ⟨a0, n0, c0, rfl⟩ := okWide_slice ht hv
  obtain ⟨fuel, hf⟩ := h
  rcases open_slice ht hf with ⟨hcs, _⟩ | ⟨a, n, c, m, k, D, Pl, hcs, _, hl, hm, hmm, hx, hi⟩
  · simp [Value.cells] at hcs
    obtain ⟨rfl, rfl, rfl⟩ := hcs
    exact ⟨none, 0, 0, fun _ _ => .nilFunc, rfl, Nat.le_refl _, by decide, fun h => absurd h (by omega), fun i hi => absurd hi (by omega)⟩
  · simp [Value.cells] at hcs
    obtain ⟨rfl, rfl, rfl⟩ := hcs
    have hnm : n0 ≤ m := by rw [hmm]; split <;> omega
    have hdx := congrArg Prod.fst hx
    simp only at hdx
    subst hdx
    have hwD : ∀ i, i < n0 → ∀ n ∈ (D i).weights P e, n ≤ reachBytes := fun i hin n hn => hw n (by
      simp only [DataW.weights, ht]
      refine List.mem_cons_of_mem _ (List.mem_append.2 (.inl (weights_all_mem (d := D i) ?_ n hn)))
      exact List.mem_map.2 ⟨i, List.mem_range.2 hin, rfl⟩)
    have each : ∀ i, i < n0 → ∃ f : Nat → Value, (∀ j, j < K → W.cell? ((a.add (i * K)).add j) = some (f j)) ∧ ∃ y fuel, DataW.trod enc P W 0 (fun _ => true) true fuel e ((List.range K).map f) = some y ∧ ∀ n ∈ y.1.weights P e, n ≤ reachBytes := by
      intro i hin
      obtain ⟨cs', hc, htr⟩ := hi i (by omega)
      rw [hC] at hc
      obtain ⟨_, hcl, hat⟩ := World.cells?_some hc
      refine ⟨fun j => cs'.getD j .nilFunc, fun j hj => ?_, ?_⟩
      · rw [hat j hj]
        simp [List.getD, List.getElem?_eq_getElem (show j < cs'.length by omega)]
      · have e1 := range_getD cs'
        rw [hcl] at e1
        rw [e1]
        exact ⟨_, _, htr, hwD i hin⟩
    obtain ⟨V, hV⟩ := choose_lt (α := Nat → Value) (p := fun i f => (∀ j, j < K → W.cell? ((a.add (i * K)).add j) = some (f j)) ∧ ∃ y fuel, DataW.trod enc P W 0 (fun _ => true) true fuel e ((List.range K).map f) = some y ∧ ∀ n ∈ y.1.weights P e, n ≤ reachBytes) each
    refine ⟨some a, n0, c0, V, rfl, hl, hm, fun hn => ?_, fun i hin => (hV i hin).2⟩
    have h0 := (hV 0 hn).1 0 hK
    have ha : a = ⟨a.block, a.off, none⟩ := by simpa [Addr.add] using addr_plain h0
    refine ⟨a.block, a.off, by rw [← ha], ?_, fun i hin j hj => ?_⟩
    · have := World.block_lt_of_cell? W _ h0
      simpa [Addr.add] using this
    · have := (hV i hin).1 j hj
      rw [Go.Deep.add_add, ha] at this
      rw [← this]
      congr 1
      unfold Addr.add
      split
      · first | (simp; done) | (simp; omega)
      · first | (simp; done) | (simp; omega)
/-- A field of a row. -/
theorem row_field {e : TypeId} {fs : Array Field} {W : World} {fuel : Nat} {cs : List Value} {y : DataW H × List MemPlace} (he : P.underlying e = some (.struct fs)) (h : DataW.trod enc P W 0 (fun _ => true) true fuel e cs = some y) (hw : ∀ n ∈ y.1.weights P e, n ≤ reachBytes) (j : Nat) {fd : Field} (hfd : fs[j]? = some fd) :
    ∃ y' fuel', DataW.trod enc P W 0 (fun _ => true) true fuel' fd.type ((cs.drop fd.offset).take (P.cellsOf fd.type)) = some y' ∧ ∀ n ∈ y'.1.weights P fd.type, n ≤ reachBytes := by
  obtain ⟨xs, k', _, hxe, _, hxl, hff⟩ := DataW.trod_struct he h
  have h1 := hff j fd hfd
  have hjf := (Array.getElem?_eq_some_iff.1 hfd).1
  have hjx : j < xs.length := by omega
  have hDi := congrArg Prod.fst hxe
  simp only at hDi
  rw [List.getElem?_eq_getElem hjx] at h1
  refine ⟨_, _, h1, fun n hn => hw n ?_⟩
  rw [hDi]
  simp only [DataW.weights, he]
  refine DataW.weights_mem_each (j := j) (t := fd.type) (d := xs[j].1) ?_ ?_ n hn
  · rw [List.getElem?_map, Array.getElem?_toList, hfd]
    rfl
  · rw [List.getElem?_map, List.getElem?_eq_getElem hjx]
    rfl
theorem row_cells {e : TypeId} {fs : Array Field} {W : World} {fuel : Nat} {cs : List Value} {y : DataW H × List MemPlace} (he : P.underlying e = some (.struct fs)) (h : DataW.trod enc P W 0 (fun _ => true) true fuel e cs = some y) (hw : ∀ n ∈ y.1.weights P e, n ≤ reachBytes) (j : Nat) {t : TypeId} {o k : Nat} (hf : (fs[j]?).map (fun f => (f.type, f.offset)) = some (t, o)) (hc : P.cellsOf t = k) {l : List Value} (hl : (cs.drop o).take k = l) :
    ∃ y' fuel', DataW.trod enc P W 0 (fun _ => true) true fuel' t l = some y' ∧ ∀ n ∈ y'.1.weights P t, n ≤ reachBytes := by
  obtain ⟨fd, hfd, he2⟩ := Option.map_eq_some_iff.1 hf
  have h1 : fd.type = t := congrArg Prod.fst he2
  have h2 : fd.offset = o := congrArg Prod.snd he2
  have := row_field he h hw j hfd
  rw [h1, h2, hc, hl] at this
  exact this
end
end Go.Proofs.YtjfbcjmnjlehaaaGreatDoor
namespace Go.Proofs.YtjfbcjmnjlehaaaGreatDoor
open Go.ChangeShapes Go.WideShapes Go.ChangeAt Go.RowKit Go.Deep
set_option linter.unusedVariables false
section
variable {H : Type} {enc : TypeId × Value → H} {P : Program}
theorem open_ints_sized {t e : TypeId} {W : World} {r : Reach} {b0 : Nat} {v : Value} {d : DataW H} {ps : List MemPlace} (ht : P.underlying t = some (.slice e)) (he : P.underlying e = some (.int .i64)) (hC : P.cellsOf e = 1) (hB : P.bytesOf e = 8)
    (hv : Value.okWide P W r b0 t v) (h : DataW.Trod enc P W 0 (fun _ => true) true t v d ps) (hw : ∀ n ∈ d.weights P t, n ≤ reachBytes) :
    ∃ l : List Int, RInts W v l ∧ l.length ≤ 17592186044416 := by
  obtain ⟨a0, n0, c0, rfl⟩ := okWide_slice ht hv
  obtain ⟨fuel, hf⟩ := h
  rcases open_ints ht he hC hf with ⟨hcs, _⟩ | ⟨a, n, c, zs, hcs, _, hl, hm, hzl, hx, hcell, hwf⟩
  · simp [Value.cells] at hcs
    obtain ⟨rfl, rfl, rfl⟩ := hcs
    exact ⟨[], ⟨none, 0, rfl, by decide, by simp, by simp⟩, by simp⟩
  · simp [Value.cells] at hcs
    obtain ⟨rfl, rfl, rfl⟩ := hcs
    simp only [if_true] at hzl
    have hdx := congrArg Prod.fst hx
    simp only at hdx
    subst hdx
    have hn : n0 ≤ 17592186044416 := by
      have := hw _ (by simp only [DataW.weights, ht]; exact List.mem_cons_self ..)
      rw [hB] at this
      simp only [lits, List.length_map, List.length_take, List.length_drop, reachBytes] at this
      omega
    have hlen : (zs.take n0).length = n0 := by rw [List.length_take]; omega
    refine ⟨zs.take n0, ⟨some a, c0, by rw [hlen], by omega, fun x hx => ?_, fun h0 => ?_⟩, by omega⟩
    · have := hwf x (List.mem_of_mem_take hx)
      simp [Lit.wf, IntKind.min, IntKind.max, IntKind.signed, IntKind.bits] at this
      omega
    · have h00 := hcell 0 (by omega)
      have ha : a = ⟨a.block, a.off, none⟩ := by simpa [Addr.add] using addr_plain h00
      refine ⟨a.block, a.off, by rw [← ha], fun i x hi => ?_⟩
      have hil : i < n0 := by
        have := (List.getElem?_eq_some_iff.1 hi).1
        omega
      have := hcell i (by omega)
      rw [List.getElem?_take_of_lt hil] at hi
      simp only [List.getD, hi, Option.getD_some] at this
      rw [ha] at this
      rw [← this]
      congr 1
      unfold Addr.add
      split
      · first | (simp; done) | (simp; omega)
      · first | (simp; done) | (simp; omega)
theorem arr_two {α : Type} {a : Array α} (h : a.size = 2) : ∃ x0 x1, a = #[x0, x1] := by
  obtain ⟨l⟩ := a
  match l, h with
  | [x0, x1], _ => exact ⟨x0, x1, rfl⟩
/-- An argument that is an array of two int. -/
theorem open_arr2 {t e : TypeId} {W : World} {r : Reach} {b0 : Nat} {v : Value} {d : DataW H} {ps : List MemPlace} (ht : P.underlying t = some (.array 2 e)) (he : P.underlying e = some (.int .i64)) (hC : P.cellsOf t = 2) (he1 : P.cellsOf e = 1)
    (hv : Value.okWide P W r b0 t v) (h : DataW.Trod enc P W 0 (fun _ => true) true t v d ps) :
    ∃ a b : Int, v = .agg #[.int .i64 a, .int .i64 b] ∧ (-9223372036854775808 ≤ a ∧ a ≤ 9223372036854775807) ∧ -9223372036854775808 ≤ b ∧ b ≤ 9223372036854775807 := by
  unfold Value.okWide at hv
  rw [ht] at hv
  obtain ⟨cs, rfl, hsz, _⟩ := hv
  obtain ⟨c0, c1, rfl⟩ := arr_two (hsz.trans hC)
  obtain ⟨fuel, hf⟩ := h
  obtain ⟨xs, m, _, _, _, hxl, hff⟩ := DataW.trod_array ht hf
  have one : ∀ i c, i < 2 → ((Value.agg #[c0, c1]).cells.toList.drop i).take 1 = [c] → ∃ x : Int, c = .int .i64 x ∧ -9223372036854775808 ≤ x ∧ x ≤ 9223372036854775807 := by
    intro i c hi hc
    have h1 := hff i hi
    rw [he1, Nat.mul_one, hc, List.getElem?_eq_getElem (by omega)] at h1
    obtain ⟨x, e, _, hw⟩ := DataW.trod_int he h1
    simp only [List.cons.injEq, and_true] at e
    refine ⟨x, e, ?_⟩
    simp [Lit.wf, IntKind.min, IntKind.max, IntKind.signed, IntKind.bits] at hw
    omega
  obtain ⟨x0, rfl, b0⟩ := one 0 c0 (by omega) rfl
  obtain ⟨x1, rfl, b1⟩ := one 1 c1 (by omega) rfl
  exact ⟨x0, x1, rfl, b0, b1⟩
end
end Go.Proofs.YtjfbcjmnjlehaaaGreatDoor
namespace Go.Proofs.YtjfbcjmnjlehaaaGreatDoor
open Go.ChangeShapes Go.WideShapes Go.ChangeAt Go.RowKit Go.Deep
set_option linter.unusedVariables false
section
variable {H : Type} {enc : TypeId × Value → H} {P : Program}
theorem ints_of {t e : TypeId} {W : World} {v : Value} {y : DataW H × List MemPlace} {fuel : Nat} (ht : P.underlying t = some (.slice e)) (he : P.underlying e = some (.int .i64)) (hC : P.cellsOf e = 1) (hB : P.bytesOf e = 8)
    (hf : DataW.trod enc P W 0 (fun _ => true) true fuel t [v] = some y) (hw : ∀ n ∈ y.1.weights P t, n ≤ reachBytes) :
    ∃ l : List Int, RInts W v l ∧ l.length ≤ 17592186044416 := by
  rcases open_ints ht he hC hf with ⟨hcs, _⟩ | ⟨a, n0, c0, zs, hcs, _, hl, hm, hzl, hx, hcell, hwf⟩
  · simp at hcs
    subst hcs
    exact ⟨[], ⟨none, 0, rfl, by decide, by simp, by simp⟩, by simp⟩
  · simp at hcs
    subst hcs
    simp only [if_true] at hzl
    have hdx := congrArg Prod.fst hx
    simp only at hdx
    rw [hdx] at hw
    have hn : n0 ≤ 17592186044416 := by
      have := hw _ (by simp only [DataW.weights, ht]; exact List.mem_cons_self ..)
      rw [hB] at this
      simp only [lits, List.length_map, List.length_take, List.length_drop, reachBytes] at this
      omega
    have hlen : (zs.take n0).length = n0 := by rw [List.length_take]; omega
    refine ⟨zs.take n0, ⟨some a, c0, by rw [hlen], by omega, fun x hx => ?_, fun h0 => ?_⟩, by omega⟩
    · have := hwf x (List.mem_of_mem_take hx)
      simp [Lit.wf, IntKind.min, IntKind.max, IntKind.signed, IntKind.bits] at this
      omega
    · have h00 := hcell 0 (by omega)
      have ha : a = ⟨a.block, a.off, none⟩ := by simpa [Addr.add] using addr_plain h00
      refine ⟨a.block, a.off, by rw [← ha], fun i x hi => ?_⟩
      have hil : i < n0 := by
        have := (List.getElem?_eq_some_iff.1 hi).1
        omega
      have := hcell i (by omega)
      rw [List.getElem?_take_of_lt hil] at hi
      simp only [List.getD, hi, Option.getD_some] at this
      rw [ha] at this
      rw [← this]
      congr 1
      unfold Addr.add
      split
      · first | (simp; done) | (simp; omega)
      · first | (simp; done) | (simp; omega)
theorem ints_column_sized {e : TypeId} {W : World} {n : Nat} {V : Nat → Nat → Value} {fs : Array Field} {j : Nat} {f : Field} (h : ∀ i, i < n → ∀ j f, fs[j]? = some f → ∃ y fuel, DataW.trod enc P W 0 (fun _ => true) true fuel f.type [V i j] = some y ∧ ∀ n ∈ y.1.weights P f.type, n ≤ reachBytes) (hf : fs[j]? = some f)
    (ht : P.underlying f.type = some (.slice e)) (he : P.underlying e = some (.int .i64)) (hC : P.cellsOf e = 1) (hB : P.bytesOf e = 8) :
    ∃ L : Nat → List Int, ∀ i, i < n → RInts W (V i j) (L i) ∧ (L i).length ≤ 17592186044416 := by
  have each : ∀ i, ∃ l : List Int, i < n → RInts W (V i j) l ∧ l.length ≤ 17592186044416 := by
    intro i
    by_cases hi : i < n
    · obtain ⟨y, fuel, hy, hwy⟩ := h i hi j f hf
      obtain ⟨l, h1, h2⟩ := ints_of ht he hC hB hy hwy
      exact ⟨l, fun _ => ⟨h1, h2⟩⟩
    · exact ⟨[], fun h => absurd h hi⟩
  exact ⟨fun i => (each i).choose, fun i hi => (each i).choose_spec hi⟩
end
def dRow (Do N M : Nat → Int) (A B : Nat → ByteArray) (bv : Nat → Value) (i j : Nat) : Value :=
  match j with | 0 => .int .i64 (Do i) | 1 => .string (A i) | 2 => .string (B i) | 3 => .int .i64 (N i) | 4 => .int .i64 (M i) | _ => bv i
end Go.Proofs.YtjfbcjmnjlehaaaGreatDoor
