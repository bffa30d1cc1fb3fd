/-
  The card of FeedRefuses: whatever the input, the law returns true, and the input reads as it did; the listed tables and errors hold what the program's text lays. No condition of ours.
-/
import Derived.Test.YtjloddlkleileaaGreatDoorFrame
import Derived.SizedLaws
import Derived.Test.YtjloddlkleileaaGreatDoorFrfF
import Derived.Test.YtjloddlkleileaaGreatDoorFeeU
import Derived.Test.YtjloddlkleileaaGreatDoorFrfHC
import Derived.Test.YtjloddlkleileaaGreatDoorFrfKC
namespace Go.Proofs.YtjloddlkleileaaGreatDoor
open Go.ChangeShapes Go.WideShapes Go.ChangeAt Go.RowKit Go.Deep
set_option linter.unusedVariables false
section
variable {H : Type} {enc : TypeId × Value → H} {P : Program}
theorem weights_all_mem {e : TypeId} : ∀ {l : List (DataW H)} {d : DataW H}, d ∈ l → ∀ n ∈ d.weights P e, n ∈ DataW.weightsAll P e l
  | d' :: r, d, hd, n, hn => by
    simp only [DataW.weightsAll, List.mem_append]
    rcases List.mem_cons.1 hd with rfl | h
    · exact Or.inl hn
    · exact Or.inr (weights_all_mem h n hn)

/-- As open_recs, and each field's weights lie within the reach. -/
theorem open_recs_sized {t e : TypeId} {fs : Array Field} {W : World} {r : Reach} {b0 : Nat} {v : Value} {d : DataW H} {ps : List MemPlace} (ht : P.underlying t = some (.slice e)) (he : P.underlying e = some (.struct fs))
    (hone : oneCellFields P fs = true) (hC : P.cellsOf e = fs.size) (hsz : 0 < fs.size) (hv : Value.okWide P W r b0 t v) (h : DataW.Trod enc P W 0 (fun _ => true) true t v d ps) (hw : ∀ n ∈ d.weights P t, n ≤ reachBytes) :
    ∃ A n c V, v = .slice A n c ∧ n ≤ c ∧ c ≤ maxLen ∧ Rec W W.heap.size fs.size A n V ∧
      ∀ i, i < n → ∀ j f, fs[j]? = some f → ∃ y fuel, DataW.trod enc P W 0 (fun _ => true) true fuel f.type [V i j] = some y ∧ ∀ n ∈ y.1.weights P f.type, n ≤ reachBytes := by
  obtain ⟨a0, n0, c0, rfl⟩ := okWide_slice ht hv
  obtain ⟨fuel, hf⟩ := h
  rcases open_slice ht hf with ⟨hcs, _⟩ | ⟨a, n, c, m, k, D, Pl, hcs, _, hl, hm, hmm, hx, hi⟩
  · simp [Value.cells] at hcs
    obtain ⟨rfl, rfl, rfl⟩ := hcs
    exact ⟨none, 0, 0, fun _ _ => .nilFunc, rfl, Nat.le_refl _, by decide, fun h => absurd h (by omega), fun i hi => absurd hi (by omega)⟩
  · simp [Value.cells] at hcs
    obtain ⟨rfl, rfl, rfl⟩ := hcs
    have hnm : n0 ≤ m := by rw [hmm]; split <;> omega
    have hdx := congrArg Prod.fst hx
    simp only at hdx
    subst hdx
    have hwD : ∀ i, i < n0 → ∀ n ∈ (D i).weights P e, n ≤ reachBytes := fun i hin n hn => hw n (by
      simp only [DataW.weights, ht]
      refine List.mem_cons_of_mem _ (List.mem_append.2 (.inl (weights_all_mem (d := D i) ?_ n hn)))
      exact List.mem_map.2 ⟨i, List.mem_range.2 hin, rfl⟩)
    have each : ∀ i, i < n0 → ∃ f : Nat → Value, ∀ j, j < fs.size → W.cell? ((a.add (i * fs.size)).add j) = some (f j) ∧ ∀ fd, fs[j]? = some fd → ∃ y fuel, DataW.trod enc P W 0 (fun _ => true) true fuel fd.type [f j] = some y ∧ ∀ n ∈ y.1.weights P fd.type, n ≤ reachBytes := by
      intro i hin
      obtain ⟨cs', hc, htr⟩ := hi i (by omega)
      rw [hC] at hc
      obtain ⟨xs, k', _, hxe, _, hxl, hff⟩ := DataW.trod_struct he htr
      have hDi := congrArg Prod.fst hxe
      simp only at hDi
      obtain ⟨_, hcl, hat⟩ := World.cells?_some hc
      refine ⟨fun j => cs'.getD j .nilFunc, fun j hj => ⟨?_, fun fd hfd => ?_⟩⟩
      · rw [hat j hj]
        simp [List.getD, List.getElem?_eq_getElem (show j < cs'.length by omega)]
      · obtain ⟨ho, hk⟩ := hone_of hone j fd hfd
        have h1 := hff j fd hfd
        rw [ho, hk] at h1
        have hd : (cs'.drop j).take 1 = [cs'.getD j .nilFunc] := by
          have hg : cs'.getD j .nilFunc = cs'[j] := by simp [List.getD, List.getElem?_eq_getElem (show j < cs'.length by omega)]
          rw [hg, List.drop_eq_getElem_cons (by omega)]
          rfl
        rw [hd] at h1
        have hjx : j < xs.length := by omega
        rw [List.getElem?_eq_getElem hjx] at h1
        refine ⟨_, _, h1, fun n hn => hwD i hin n ?_⟩
        rw [hDi]
        simp only [DataW.weights, he]
        refine DataW.weights_mem_each (j := j) (t := fd.type) (d := xs[j].1) ?_ ?_ n hn
        · rw [List.getElem?_map, Array.getElem?_toList, hfd]
          rfl
        · rw [List.getElem?_map, List.getElem?_eq_getElem hjx]
          rfl
    obtain ⟨V, hV⟩ := choose_lt (α := Nat → Value) (p := fun i f => ∀ j, j < fs.size → W.cell? ((a.add (i * fs.size)).add j) = some (f j) ∧ ∀ fd, fs[j]? = some fd → ∃ y fuel, DataW.trod enc P W 0 (fun _ => true) true fuel fd.type [f j] = some y ∧ ∀ n ∈ y.1.weights P fd.type, n ≤ reachBytes) each
    refine ⟨some a, n0, c0, V, rfl, hl, hm, fun hn => ?_, fun i hin j fd hfd => ((hV i hin) j (Array.getElem?_eq_some_iff.1 hfd).1).2 fd hfd⟩
    have h0 := ((hV 0 hn) 0 hsz).1
    have ha : a = ⟨a.block, a.off, none⟩ := by simpa [Addr.add] using addr_plain h0
    refine ⟨a.block, a.off, by rw [← ha], ?_, fun i hin j hj => ?_⟩
    · have := World.block_lt_of_cell? W _ h0
      simpa [Addr.add] using this
    · have := ((hV i hin) j hj).1
      rw [Go.Deep.add_add, ha] at this
      rw [← this]
      congr 1
      unfold Addr.add
      split
      · first | (simp; done) | (simp; omega)
      · first | (simp; done) | (simp; omega)

/-- A column of int64 of such a slice. -/
theorem int_column_sized {W : World} {n : Nat} {V : Nat → Nat → Value} {fs : Array Field} {j : Nat} {f : Field} (h : ∀ i, i < n → ∀ j f, fs[j]? = some f → ∃ y fuel, DataW.trod enc P W 0 (fun _ => true) true fuel f.type [V i j] = some y ∧ ∀ n ∈ y.1.weights P f.type, n ≤ reachBytes) (hf : fs[j]? = some f) (hu : P.underlying f.type = some (.int .i64)) :
    ∃ F : Nat → Int, (∀ i, i < n → V i j = .int .i64 (F i)) ∧ ∀ i, -9223372036854775808 ≤ F i ∧ F i ≤ 9223372036854775807 :=
  int_column (fun i hi j f hf => (h i hi j f hf).imp fun y hy => hy.imp fun fuel hfy => hfy.1) hf hu
/-- A column of strings of such a slice, each within the reach. -/
theorem str_column_sized {W : World} {n : Nat} {V : Nat → Nat → Value} {fs : Array Field} {j : Nat} {f : Field} (h : ∀ i, i < n → ∀ j f, fs[j]? = some f → ∃ y fuel, DataW.trod enc P W 0 (fun _ => true) true fuel f.type [V i j] = some y ∧ ∀ n ∈ y.1.weights P f.type, n ≤ reachBytes) (hf : fs[j]? = some f) (hu : P.underlying f.type = some .string) :
    ∃ F : Nat → ByteArray, (∀ i, i < n → V i j = .string (F i)) ∧ ∀ i, (F i).size ≤ 140737488351232 := by
  have each : ∀ i, ∃ x : ByteArray, (i < n → V i j = .string x) ∧ x.size ≤ 140737488351232 := by
    intro i
    by_cases hi : i < n
    · obtain ⟨y, fuel, hy, hwy⟩ := h i hi j f hf
      obtain ⟨s, e, hx, hs⟩ := DataW.trod_string hu hy
      subst hx
      refine ⟨s, fun _ => by simpa using e, ?_⟩
      have := hwy s.data.toList.length (by simp [DataW.weights])
      simp only [Array.length_toList, reachBytes] at this
      exact this
    · exact ⟨ByteArray.empty, fun h => absurd h hi, by decide⟩
  exact ⟨fun i => (each i).choose, fun i hi => (each i).choose_spec.1 hi, fun i => (each i).choose_spec.2⟩
end
end Go.Proofs.YtjloddlkleileaaGreatDoor
namespace Go.Proofs.YtjloddlkleileaaGreatDoor
open Go.ChangeShapes Go.WideShapes Go.ChangeAt Go.RowKit Go.Deep
set_option linter.unusedVariables false
section
variable {H : Type} {enc : TypeId × Value → H} {P : Program}
theorem open_agg_sized {t : TypeId} {fs : Array Field} {W : World} {r : Reach} {b0 : Nat} {v : Value} {d : DataW H} {ps : List MemPlace} (he : P.underlying t = some (.struct fs))
    (hone : oneCellFields P fs = true) (hC : P.cellsOf t = fs.size) (hv : Value.okWide P W r b0 t v) (h : DataW.Trod enc P W 0 (fun _ => true) true t v d ps) (hw : ∀ n ∈ d.weights P t, n ≤ reachBytes) :
    ∃ cs : Array Value, v = .agg cs ∧ cs.size = fs.size ∧ ∀ j f, fs[j]? = some f → ∃ y fuel, DataW.trod enc P W 0 (fun _ => true) true fuel f.type [cs.toList.getD j .nilFunc] = some y ∧ ∀ n ∈ y.1.weights P f.type, n ≤ reachBytes := by
  obtain ⟨cs, rfl, hsz⟩ := okWide_struct he hv
  obtain ⟨fuel, hf⟩ := h
  obtain ⟨xs, k', _, hxe, hcl, hxl, hff⟩ := DataW.trod_struct he hf
  have hd := congrArg Prod.fst hxe
  simp only at hd
  subst hd
  refine ⟨cs, rfl, hsz.trans hC, fun j fd hfd => ?_⟩
  obtain ⟨ho, hk⟩ := hone_of hone j fd hfd
  have hj : j < fs.size := (Array.getElem?_eq_some_iff.1 hfd).1
  have hl : cs.toList.length = fs.size := by rw [Array.length_toList]; exact hsz.trans hC
  have h1 := hff j fd hfd
  rw [ho, hk] at h1
  have hd : ((Value.agg cs).cells.toList.drop j).take 1 = [cs.toList.getD j .nilFunc] := by
    have hg : cs.toList.getD j .nilFunc = cs.toList[j] := by simp [List.getD, List.getElem?_eq_getElem (show j < cs.toList.length by omega)]
    show (cs.toList.drop j).take 1 = _
    rw [hg, List.drop_eq_getElem_cons (by omega)]
    rfl
  rw [hd] at h1
  have hjx : j < xs.length := by rw [hxl]; omega
  rw [List.getElem?_eq_getElem hjx] at h1
  refine ⟨_, _, h1, fun n hn => hw n ?_⟩
  simp only [DataW.weights, he]
  refine DataW.weights_mem_each (j := j) (t := fd.type) (d := xs[j].1) ?_ ?_ n hn
  · rw [List.getElem?_map, Array.getElem?_toList, hfd]
    rfl
  · rw [List.getElem?_map, List.getElem?_eq_getElem hjx]
    rfl
theorem array5 {α : Type} {a : Array α} (h : a.size = 5) : ∃ x0 x1 x2 x3 x4, a = #[x0, x1, x2, x3, x4] := by
  obtain ⟨l⟩ := a
  match l, h with
  | [x0, x1, x2, x3, x4], _ => exact ⟨x0, x1, x2, x3, x4, rfl⟩
theorem int_of_sized {W : World} {v : Value} {f : TypeId} (h : ∃ y fuel, DataW.trod enc P W 0 (fun _ => true) true fuel f [v] = some y ∧ ∀ n ∈ y.1.weights P f, n ≤ reachBytes) (hu : P.underlying f = some (.int .i64)) :
    ∃ x : Int, v = .int .i64 x ∧ -9223372036854775808 ≤ x ∧ x ≤ 9223372036854775807 := by
  obtain ⟨y, fuel, hy, _⟩ := h
  obtain ⟨x, e, _, hw⟩ := DataW.trod_int hu hy
  refine ⟨x, by simpa using e, ?_⟩
  simp [Lit.wf, IntKind.min, IntKind.max, IntKind.signed, IntKind.bits] at hw
  omega
theorem str_of_sized {W : World} {v : Value} {f : TypeId} (h : ∃ y fuel, DataW.trod enc P W 0 (fun _ => true) true fuel f [v] = some y ∧ ∀ n ∈ y.1.weights P f, n ≤ reachBytes) (hu : P.underlying f = some .string) :
    ∃ s : ByteArray, v = .string s ∧ s.size ≤ 140737488351232 := by
  obtain ⟨y, fuel, hy, hwy⟩ := h
  obtain ⟨s, e, hx, hs⟩ := DataW.trod_string hu hy
  subst hx
  refine ⟨s, by simpa using e, ?_⟩
  have := hwy s.data.toList.length (by simp [DataW.weights])
  simp only [Array.length_toList, reachBytes] at this
  exact this
end
end Go.Proofs.YtjloddlkleileaaGreatDoor
namespace Go.Proofs.YtjloddlkleileaaGreatDoor
open Go.ChangeShapes Go.WideShapes Go.ChangeAt Go.RowKit Go.Deep Go.Shelf
set_option linter.unusedVariables false
set_option linter.unusedSimpArgs false
section
variable {H : Type} {enc : TypeId × Value → H}
theorem part_toB {P : Program} {W : World} {t : TypeId} {v : Value} {Q : (DataW H × List MemPlace) → Prop} (h : ∃ y fuel, DataW.trod enc P W 0 (fun _ => true) true fuel t [v] = some y ∧ Q y) : ∃ B, PartB H enc P W B t v := by
  obtain ⟨y, fuel, hy, _⟩ := h
  exact ⟨_, y, fuel, hy, Nat.le_refl _⟩
theorem slice_bytes {P : Program} {t e : TypeId} {W : World} {A : Option Addr} {n c : Nat} {d : DataW H} {ps : List MemPlace} (ht : P.underlying t = some (.slice e)) (h : DataW.Trod enc P W 0 (fun _ => true) true t (.slice A n c) d ps) (hw : ∀ n ∈ d.weights P t, n ≤ reachBytes) : n * P.bytesOf e ≤ reachBytes := by
  obtain ⟨fuel, hf⟩ := h
  rcases open_slice ht hf with ⟨hcs, _⟩ | ⟨a, n', c', m, k, D, Pl, hcs, _, hl, hm, hmm, hx, hi⟩
  · simp [Value.cells] at hcs
    obtain ⟨rfl, rfl, rfl⟩ := hcs
    simp
  · simp [Value.cells] at hcs
    obtain ⟨rfl, rfl, rfl⟩ := hcs
    have hdx := congrArg Prod.fst hx
    simp only at hdx
    subst hdx
    refine Nat.le_trans ?_ (hw _ (by simp only [DataW.weights, ht]; exact List.mem_cons_self))
    refine Nat.mul_le_mul ?_ (Nat.le_refl _)
    simp
theorem arr8s {cs : Array Value} (h : cs.size = 8) : ∃ a b c d e f g i, cs = #[a, b, c, d, e, f, g, i] := by
  obtain ⟨l⟩ := cs
  match l, h with
  | [a, b, c, d, e, f, g, i], _ => exact ⟨a, b, c, d, e, f, g, i, rfl⟩
set_option maxRecDepth 100000 in
set_option maxHeartbeats 2000000 in
theorem items_s {W : World} {r : Reach} {b0 : Nat} {v : Value} {d : DataW H} {ps : List MemPlace} (hv : Value.okWide Tryz.prog W r b0 22 v) (h : DataW.Trod enc Tryz.prog W 0 (fun _ => true) true 22 v d ps) (hw : ∀ n ∈ d.weights Tryz.prog 22, n ≤ reachBytes) : ∃ l : List ItemV, ReadItems W v l ∧ l.length ≤ 4398046511103 ∧ ∀ x ∈ l, Fit x := by
  obtain ⟨A, n, c, V, rfl, hnc, hcm, hrec, hV⟩ := open_recs_sized Tryz.underlying22 Tryz.underlying55 (by kernel_rfl) (by kernel_rfl) (by decide) hv h hw
  have hbytes : n ≤ 4398046511103 := by
    have h1 := slice_bytes Tryz.underlying22 h hw
    rw [show Tryz.prog.bytesOf 55 = 32 by kernel_rfl] at h1
    unfold reachBytes at h1
    omega
  have each : ∀ i, ∃ p : ItemV, i < n → V i 0 = .bool p.mark ∧ V i 1 = .int .i64 p.time ∧ V i 2 = .int .u8 (p.kind.toNat : Int) ∧ V i 3 = .int .i64 p.val ∧ Fit p := fun i => by
    by_cases hi : i < n
    · obtain ⟨x0, e0⟩ := bool_b Tryz.underlying4 (part_toB (hV i hi 0 _ rfl)).choose_spec
      obtain ⟨x1, e1, b1⟩ := int_b Tryz.underlying2 (part_toB (hV i hi 1 _ rfl)).choose_spec
      obtain ⟨x2, e2⟩ := u8_b Tryz.underlying5 (part_toB (hV i hi 2 _ rfl)).choose_spec
      obtain ⟨x3, e3, b3⟩ := int_b Tryz.underlying2 (part_toB (hV i hi 3 _ rfl)).choose_spec
      exact ⟨⟨x0, x1, x2, x3⟩, fun _ => ⟨e0, e1, e2, e3, b1.1, b1.2, b3.1, b3.2⟩⟩
    · exact ⟨⟨false, 0, 0, 0⟩, fun h => absurd h hi⟩
  have hlen : ((List.range n).map fun i => (each i).choose).length = n := by simp
  refine ⟨(List.range n).map fun i => (each i).choose, ⟨A, c, by rw [hlen], by omega, by rw [hlen]; unfold maxLen at hcm; omega, fun X x Y hl => ?_⟩, by rw [hlen]; exact hbytes, fun p hp => ?_⟩
  · have hX : X.length < n := by
      have := congrArg List.length hl
      rw [hlen] at this
      simp at this
      omega
    have hx : x = (each X.length).choose := by
      have : ((List.range n).map fun i => (each i).choose)[X.length]? = some x := by rw [hl]; simp
      rw [List.getElem?_map, List.getElem?_range hX] at this
      simpa using this.symm
    obtain ⟨b, off, e, hb, hr⟩ := hrec (by omega)
    obtain ⟨e0, e1, e2, e3, _⟩ := (each X.length).choose_spec hX
    rw [hx]
    refine ⟨b, off, e, hb, ?_, ?_, ?_, ?_⟩
    · rw [← e0]; exact hr _ hX 0 (by decide)
    · rw [← e1]; exact hr _ hX 1 (by decide)
    · rw [← e2]; exact hr _ hX 2 (by decide)
    · rw [← e3]; exact hr _ hX 3 (by decide)
  · obtain ⟨i, hi, rfl⟩ := List.mem_map.1 hp
    exact ((each i).choose_spec (List.mem_range.1 hi)).2.2.2.2
set_option maxRecDepth 100000 in
set_option maxHeartbeats 2000000 in
theorem conf_s {W : World} {r : Reach} {b0 : Nat} {v : Value} {d : DataW H} {ps : List MemPlace} (hv : Value.okWide Tryz.prog W r b0 25 v) (h : DataW.Trod enc Tryz.prog W 0 (fun _ => true) true 25 v d ps) (hw : ∀ n ∈ d.weights Tryz.prog 25, n ≤ reachBytes) :
    ∃ (n0 n1 n2 n3 n4 n5 n6 : Int) (cv : Value) (L : List Int), v = .agg #[.int .i64 n0, .int .i64 n1, .int .i64 n2, .int .i64 n3, .int .i64 n4, .int .i64 n5, .int .i64 n6, cv] ∧ CInts W cv L ∧ (-9223372036854775808 ≤ n0 ∧ n0 ≤ 9223372036854775807) ∧ (-9223372036854775808 ≤ n1 ∧ n1 ≤ 9223372036854775807) ∧ (-9223372036854775808 ≤ n2 ∧ n2 ≤ 9223372036854775807) ∧ (-9223372036854775808 ≤ n3 ∧ n3 ≤ 9223372036854775807) := by
  obtain ⟨cs, rfl, hsz, hf⟩ := open_agg_sized Tryz.underlying25 (by kernel_rfl) (by kernel_rfl) hv h hw
  obtain ⟨c0, c1, c2, c3, c4, c5, c6, c7, rfl⟩ := arr8s hsz
  obtain ⟨x0, e0, b0⟩ := int_b Tryz.underlying2 (part_toB (hf 0 _ rfl)).choose_spec
  obtain ⟨x1, e1, b1⟩ := int_b Tryz.underlying3 (part_toB (hf 1 _ rfl)).choose_spec
  obtain ⟨x2, e2, b2⟩ := int_b Tryz.underlying3 (part_toB (hf 2 _ rfl)).choose_spec
  obtain ⟨x3, e3, b3⟩ := int_b Tryz.underlying2 (part_toB (hf 3 _ rfl)).choose_spec
  obtain ⟨x4, e4, _⟩ := int_b Tryz.underlying3 (part_toB (hf 4 _ rfl)).choose_spec
  obtain ⟨x5, e5, _⟩ := int_b Tryz.underlying2 (part_toB (hf 5 _ rfl)).choose_spec
  obtain ⟨x6, e6, _⟩ := int_b Tryz.underlying2 (part_toB (hf 6 _ rfl)).choose_spec
  obtain ⟨dl, da, dc, e7, hdc, hdm, hdB, hdI, hdr⟩ := ints_b Tryz.underlying23 Tryz.underlying3 (by kernel_rfl) (part_toB (hf 7 _ rfl)).choose_spec
  have e0' : c0 = .int .i64 x0 := e0
  have e1' : c1 = .int .i64 x1 := e1
  have e2' : c2 = .int .i64 x2 := e2
  have e3' : c3 = .int .i64 x3 := e3
  have e4' : c4 = .int .i64 x4 := e4
  have e5' : c5 = .int .i64 x5 := e5
  have e6' : c6 = .int .i64 x6 := e6
  have e7' : c7 = .slice da dl.length dc := e7
  subst e0' e1' e2' e3' e4' e5' e6' e7'
  refine ⟨x0, x1, x2, x3, x4, x5, x6, _, dl, rfl, ⟨da, dc, rfl, hdc, by unfold maxLen at hdm; omega, fun hp => ?_⟩, b0, b1, b2, b3⟩
  obtain ⟨b, off, e, _, hc⟩ := hdr (fun e => by rw [e] at hp; simp at hp)
  exact ⟨b, off, e, hc⟩
end
end Go.Proofs.YtjloddlkleileaaGreatDoor
namespace Go.Proofs.YtjloddlkleileaaGreatDoor.feedRefuses
open Go.ChangeShapes Go.WideShapes Go.ChangeAt Go.RowKit Go.Deep Go.Joins
set_option linter.unusedVariables false
set_option linter.unusedSimpArgs false

theorem laid_met (os : Os) : laidMetH Tryz.prog Rows.feedRefusesRow.laid ((laidWorld os).forCall (fun _ _ => 0) ⟨#[], #[.string ⟨#[]⟩, .slice none 0 0, .agg #[.int .i64 0, .int .i64 0, .int .i64 0, .int .i64 0, .int .i64 0, .int .i64 0, .int .i64 0, .slice none 0 0]], []⟩).memory :=
  laidMet_of_run' 8 (by kernel_rfl) (by kernel_rfl)
theorem reads (os : Os) {H : Type} (enc : TypeId × Value → H) : ∃ places, DataW.whole enc Tryz.prog ((laidWorld os).forCall (fun _ _ => 0) ⟨#[], #[.string ⟨#[]⟩, .slice none 0 0, .agg #[.int .i64 0, .int .i64 0, .int .i64 0, .int .i64 0, .int .i64 0, .int .i64 0, .int .i64 0, .slice none 0 0]], []⟩).memory Tryz.f3.params.toList Rows.feedRefusesSpec.vars false #[Value.string ⟨#[]⟩, .slice none 0 0, .agg #[.int .i64 0, .int .i64 0, .int .i64 0, .int .i64 0, .int .i64 0, .int .i64 0, .int .i64 0, .slice none 0 0]].toList 8 = some ([.lit (.string []), .nil, .agg [.lit (.int .i64 0), .lit (.int .i64 0), .lit (.int .i64 0), .lit (.int .i64 0), .lit (.int .i64 0), .lit (.int .i64 0), .lit (.int .i64 0), .nil]], [], places) :=
  ⟨[], by kernel_rfl⟩

set_option maxRecDepth 100000 in
theorem lifted (os : Os) (started : os.Started) (H : Type) (enc : TypeId × Value → H) (F : Stop.Interp) :
    ReturnsInHanded {} Tryz.checked os 3 .any ((OpenSpec.ofChange Rows.feedRefusesSpec).preRow enc Tryz.prog Tryz.f3 Rows.feedRefusesRow.domain false Rows.feedRefusesRow.laid) (((OpenSpec.ofChange Rows.feedRefusesSpec).at F).post enc Tryz.prog Tryz.f3 false true false false) := by
  obtain ⟨places, hx⟩ := reads os enc
  refine returnsInHanded_of_row (C := Tryz.checked) (s := OpenSpec.ofChange Rows.feedRefusesSpec) own_none started (by kernel_rfl) Tryz.func3
    (witness_row_at (enc := enc) (C := Tryz.checked) false (laidWorld os) #[.string ⟨#[]⟩, .slice none 0 0, .agg #[.int .i64 0, .int .i64 0, .int .i64 0, .int .i64 0, .int .i64 0, .int .i64 0, .int .i64 0, .slice none 0 0]] rfl (by kernel_rfl) (by kernel_rfl) (by kernel_rfl)
      (OpenSpec.preRow_of_cond 8 hx (by kernel_rfl) (fun k hk => by cases hk) (by kernel_rfl) (laid_met os))) ?_
  intro W base args ds gs before hval0 hW _ _ hsz0 hL hsh _
  have hval : ∀ (j : Nat) t v, Tryz.f3.params[j]? = some t → args[j]? = some v → Value.okWide Tryz.prog W .any base t v := hval0
  have hW' := hW
  obtain ⟨p, q, hA0, hV, rfl, hfz, hnd⟩ := hW
  have hA : DataW.TrodAll enc Tryz.prog W 0 (fun _ => true) true Tryz.f3.params.toList args.toList ds p := hA0
  rw [Tryz.params3] at hA hval
  obtain ⟨v0, vs0, d0, ds0, p0, q0, hargs, rfl, rfl, h0, r0⟩ := trodAll_cons hA
  obtain ⟨v1, vs1, d1, ds1, p1, q1, rfl, rfl, rfl, h1, r1⟩ := trodAll_cons r0
  obtain ⟨v2, vs2, d2, ds2, p2, q2, rfl, rfl, rfl, h2, r2⟩ := trodAll_cons r1
  obtain ⟨rfl, rfl, rfl⟩ := trodAll_nil r2
  obtain rfl : args = #[v0, v1, v2] := by cases args; simp_all
  obtain ⟨rfl, rfl⟩ := trodVars_none hV
  have hw1 : ∀ n ∈ d1.weights Tryz.prog 22, n ≤ reachBytes := fun n hn => by simpa using List.all_eq_true.1 hsz0 n (DataW.weights_mem_each (j := 1) (t := 22) rfl rfl n hn)
  have hw2 : ∀ n ∈ d2.weights Tryz.prog 25, n ≤ reachBytes := fun n hn => by simpa using List.all_eq_true.1 hsz0 n (DataW.weights_mem_each (j := 2) (t := 25) rfl rfl n hn)
  obtain ⟨k, rfl, _, _, _⟩ := Go.ChangeMaps.open_string Tryz.underlying9 (hval 0 9 v0 rfl rfl) h0
  obtain ⟨l, hl, hlen, hfit⟩ := items_s (hval 1 22 v1 rfl rfl) h1 hw1
  obtain ⟨n0, n1, n2, n3, n4, n5, n6, cv, L, rfl, hcv, g0, g1, g2, g3⟩ := conf_s (hval 2 25 v2 rfl rfl) h2 hw2
  have ht : Tab W := tab_of hL (by kernel_rfl)
  have he : ErrOk W := err_of hL (t1 := [105, 110, 118, 97, 108, 105, 100, 32, 115, 121, 110, 116, 97, 120]) (t2 := [118, 97, 108, 117, 101, 32, 111, 117, 116, 32, 111, 102, 32, 114, 97, 110, 103, 101]) (by kernel_rfl) (by kernel_rfl)
  refine (feed_refuses k _ l n0 n1 n2 n3 n4 n5 n6 g0 g1 g2 g3 cv L W hl hlen hcv ht he (max_of hsh)).mono fun e W' ⟨he, hc⟩ => ?_
  subst he
  exact ⟨_, rfl, law_post laid_out hW' rfl (by kernel_rfl) rfl Tryz.underlying4 rfl hc.below⟩

theorem said : Rows.FeedRefusesSaid :=
  OpenClaim.holds_of_cond 3 Tryz.f3 rfl rfl rfl rfl rfl rfl rfl ⟨rfl, rfl, rfl, rfl, rfl⟩ rfl rfl rfl rfl rfl name3 Tryz.func3 facts inst3 wrap3
    (fun os started H enc _ F => by rw [OpenClaim.pre_eq_preRow]; exact lifted os started H enc F)

theorem plain (f : FuncId) (fn : Func) (hf : Tryz.pinned.checked.prog.funcNamed "oxbow/oxbowlaw23.FeedRefuses" = some f) (hfn : Tryz.pinned.checked.prog.funcs[f]? = some fn) :
    true = Tryz.pinned.checked.prog.looks [] ∧ ∀ (j : Nat) t, fn.params[j]? = some t → Tryz.pinned.checked.prog.wantsStandIn t = false := by
  obtain rfl : f = 3 := Option.some.inj ((show Tryz.prog.funcNamed "oxbow/oxbowlaw23.FeedRefuses" = some 3 by kernel_rfl).symm.trans hf) |>.symm
  obtain rfl : fn = Tryz.f3 := (Option.some.inj (Tryz.func3.symm.trans hfn)).symm
  refine ⟨looks0, fun j t ht => ?_⟩
  rw [Tryz.params3] at ht
  have hm := Array.mem_of_getElem? ht
  have h2 : t = 9 ∨ t = 22 ∨ t = 25 := by simpa using hm
  rcases h2 with rfl | rfl | rfl
  · exact (show Tryz.prog.wantsStandIn 9 = false by kernel_rfl)
  · exact (show Tryz.prog.wantsStandIn 22 = false by kernel_rfl)
  · exact (show Tryz.prog.wantsStandIn 25 = false by kernel_rfl)

theorem proved : Rows.FeedRefusesCardSaid :=
  Claim7.holds_tied_plain_at .later [] _ _ _ _ said (fun _ h => by cases h) text0 (fun _ h => by cases h) feedRefuses_row_tie rfl ⟨rfl, rfl⟩ main0 rfl plain goes0
#print axioms proved
end Go.Proofs.YtjloddlkleileaaGreatDoor.feedRefuses
