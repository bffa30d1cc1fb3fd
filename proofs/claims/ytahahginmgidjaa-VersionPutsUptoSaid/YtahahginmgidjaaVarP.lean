/-
  The law's argument Edit, where what is read is of bulk at most 1048576.
-/
import Derived.Test.YtahahginmgidjaaVarN
import Derived.Test.YtahahginmgidjaaFrameV
namespace Go.Proofs.Ytahahginmgidjaa
open Go.ChangeShapes Go.WideShapes Go.ChangeAt Go.RowKit Go.Deep
set_option linter.unusedVariables false
set_option linter.unusedSimpArgs false
section
variable {H : Type} {enc : TypeId × Value → H}
theorem open_agg_b {P : Program} {t : TypeId} {fs : Array Field} {W : World} {r : Reach} {b0 B : Nat} {v : Value} {d : DataW H} {ps : List MemPlace} (he : P.underlying t = some (.struct fs))
    (hone : oneCellFields P fs = true) (hC : P.cellsOf t = fs.size) (hv : Value.okWide P W r b0 t v) (h : DataW.Trod enc P W 0 (fun _ => true) true t v d ps) (hB : Rows.uptoBulk d ≤ B) :
    ∃ cs : Array Value, v = .agg cs ∧ cs.size = fs.size ∧ ∀ j f, fs[j]? = some f → PartB H enc P W B f.type (cs.toList.getD j .nilFunc) := by
  obtain ⟨cs, rfl, hsz⟩ := okWide_struct he hv
  obtain ⟨fuel, hf⟩ := h
  obtain ⟨xs, k', _, hxe, hcl, hxl, hff⟩ := DataW.trod_struct he hf
  have hd := congrArg Prod.fst hxe
  simp only at hd
  subst hd
  refine ⟨cs, rfl, hsz.trans hC, fun j fd hfd => ?_⟩
  obtain ⟨ho, hk⟩ := hone_of hone j fd hfd
  have hj : j < fs.size := (Array.getElem?_eq_some_iff.1 hfd).1
  have hl : cs.toList.length = fs.size := by rw [Array.length_toList]; exact hsz.trans hC
  have h1 := hff j fd hfd
  rw [ho, hk] at h1
  have hd : ((Value.agg cs).cells.toList.drop j).take 1 = [cs.toList.getD j .nilFunc] := by
    have hg : cs.toList.getD j .nilFunc = cs.toList[j] := by simp [List.getD, List.getElem?_eq_getElem (show j < cs.toList.length by omega)]
    show (cs.toList.drop j).take 1 = _
    rw [hg, List.drop_eq_getElem_cons (by omega)]
    rfl
  rw [hd] at h1
  have hjx : j < xs.length := by rw [hxl]; omega
  rw [List.getElem?_eq_getElem hjx] at h1
  refine ⟨_, _, h1, ?_⟩
  simp only [Rows.uptoBulk] at hB
  have := bulk_mem (d := xs[j].1) (l := xs.map (·.1)) (List.mem_map.2 ⟨xs[j], List.getElem_mem _, rfl⟩)
  omega
theorem arr5 {α : Type} {a : Array α} (h : a.size = 5) : ∃ x0 x1 x2 x3 x4, a = #[x0, x1, x2, x3, x4] := by
  obtain ⟨l⟩ := a
  match l, h with
  | [x0, x1, x2, x3, x4], _ => exact ⟨x0, x1, x2, x3, x4, rfl⟩
theorem rows_fit {W : World} {B : Nat} {v : Value} (hB : B ≤ 1048576) (h : PartB H enc Try.prog W B 22 v) : ∃ l : List PlaceV, ReadRows W v l ∧ l.length ≤ B ∧ ∀ p ∈ l, PFit p := by
  obtain ⟨A, n, c, V, rfl, hnc, hcm, hnB, hrec, hV⟩ := recs_b Try.underlying22 Try.underlying44 (by kernel_rfl) (by kernel_rfl) (by decide) h
  have each : ∀ i, ∃ p : PlaceV, i < n → V i 0 = .int .i64 p.level ∧ V i 1 = .int .i64 p.m.file ∧ V i 2 = .int .i64 p.m.size ∧ V i 3 = .string p.m.lo ∧ V i 4 = .string p.m.hi ∧ PFit p := fun i => by
    by_cases hi : i < n
    · obtain ⟨x0, e0, b0⟩ := int_b Try.underlying3 (hV i hi 0 _ rfl)
      obtain ⟨x1, e1, b1⟩ := int_b Try.underlying2 (hV i hi 1 _ rfl)
      obtain ⟨x2, e2, b2⟩ := int_b Try.underlying2 (hV i hi 2 _ rfl)
      obtain ⟨x3, e3, b3⟩ := str_b Try.underlying9 (hV i hi 3 _ rfl)
      obtain ⟨x4, e4, b4⟩ := str_b Try.underlying9 (hV i hi 4 _ rfl)
      exact ⟨⟨x0, ⟨x1, x2, x3, x4⟩⟩, fun _ => ⟨e0, e1, e2, e3, e4, b0, b1, b2, Nat.le_trans b3 hB, Nat.le_trans b4 hB⟩⟩
    · exact ⟨⟨0, ⟨0, 0, ⟨#[]⟩, ⟨#[]⟩⟩⟩, fun h => absurd h hi⟩
  have hlen : ((List.range n).map fun i => (each i).choose).length = n := by simp
  refine ⟨(List.range n).map fun i => (each i).choose, ⟨A, c, by rw [hlen], by omega, by rw [hlen]; unfold maxLen at hcm; omega, fun X x Y hl => ?_⟩, by omega, fun p hp => ?_⟩
  · have hX : X.length < n := by
      have := congrArg List.length hl
      rw [hlen] at this
      simp at this
      omega
    have hx : x = (each X.length).choose := by
      have : ((List.range n).map fun i => (each i).choose)[X.length]? = some x := by rw [hl]; simp
      rw [List.getElem?_map, List.getElem?_range hX] at this
      simpa using this.symm
    obtain ⟨b, off, e, hb, hr⟩ := hrec (by omega)
    obtain ⟨e0, e1, e2, e3, e4, _⟩ := (each X.length).choose_spec hX
    rw [hx]
    refine ⟨b, off, e, hb, ?_, ?_, ?_, ?_, ?_⟩
    · rw [← e0]; exact hr _ hX 0 (by decide)
    · rw [← e1]; exact hr _ hX 1 (by decide)
    · rw [← e2]; exact hr _ hX 2 (by decide)
    · rw [← e3]; exact hr _ hX 3 (by decide)
    · rw [← e4]; exact hr _ hX 4 (by decide)
  · obtain ⟨i, hi, rfl⟩ := List.mem_map.1 hp
    exact ((each i).choose_spec (List.mem_range.1 hi)).2.2.2.2.2
set_option maxRecDepth 100000 in
theorem edit_b {W : World} {r : Reach} {b0 B : Nat} {v : Value} {d : DataW H} {ps : List MemPlace} (hBB : B ≤ 1048576) (hv : Value.okWide Try.prog W r b0 25 v) (h : DataW.Trod enc Try.prog W 0 (fun _ => true) true 25 v d ps) (hB : Rows.uptoBulk d ≤ B) :
    ∃ (E : EditV) (av dv : Value), v = .agg #[av, dv, .int .i64 E.log, .int .i64 E.next, .int .i64 E.seq] ∧ ReadRows W av E.add ∧ ReadInts W dv E.drop ∧ EdFit E := by
  obtain ⟨cs, rfl, hsz, hf⟩ := open_agg_b Try.underlying25 (by kernel_rfl) (by kernel_rfl) hv h hB
  obtain ⟨c0, c1, c2, c3, c4, rfl⟩ := arr5 hsz
  obtain ⟨l, h0, hl, hp⟩ := rows_fit hBB (hf 0 _ rfl)
  obtain ⟨dl, da, dc, e1, hdc, hdm, hdB, hdI, hdr⟩ := ints_b Try.underlying23 Try.underlying2 (by kernel_rfl) (hf 1 _ rfl)
  obtain ⟨x2, e2, b2⟩ := int_b Try.underlying2 (hf 2 _ rfl)
  obtain ⟨x3, e3, b3⟩ := int_b Try.underlying2 (hf 3 _ rfl)
  obtain ⟨x4, e4, b4⟩ := int_b Try.underlying2 (hf 4 _ rfl)
  have e1' : c1 = .slice da dl.length dc := e1
  have e2' : c2 = .int .i64 x2 := e2
  have e3' : c3 = .int .i64 x3 := e3
  have e4' : c4 = .int .i64 x4 := e4
  subst e1' e2' e3' e4'
  exact ⟨⟨l, dl, x2, x3, x4⟩, _, _, rfl, h0, ⟨da, dc, rfl, hdc, (show dl.length ≤ 9223372036854775807 by unfold maxLen at hdm; omega), hdr⟩, ⟨b2, b3, b4, hdI, hp, (show l.length ≤ 50000000 by omega), (show dl.length ≤ 50000000 by omega)⟩⟩
end
end Go.Proofs.Ytahahginmgidjaa
