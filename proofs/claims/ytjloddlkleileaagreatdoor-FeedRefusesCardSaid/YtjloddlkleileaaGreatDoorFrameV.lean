/-
  Arguments where what is read is of bulk at most a bound: slices of structs of one-cell fields, slices of numbers, strings, within one another: plain lemmas; no condition.
-/
import Derived.Test.YtjloddlkleileaaGreatDoorFrame
import Derived.JoinedCond
namespace Go.Proofs.YtjloddlkleileaaGreatDoor
open Go.ChangeShapes Go.WideShapes Go.ChangeAt Go.RowKit Go.Deep
set_option linter.unusedVariables false
set_option linter.unusedSimpArgs false

theorem bulk_one {H : Type} (d : DataW H) : 1 ≤ Rows.uptoBulk d := by
  cases d with
  | lit l => cases l <;> simp [Rows.uptoBulk]
  | nil => simp [Rows.uptoBulk]
  | ptr d => simp [Rows.uptoBulk]
  | slice elems spare => simp [Rows.uptoBulk]
  | agg parts => simp [Rows.uptoBulk]
  | iface t d => simp [Rows.uptoBulk]
  | map entries => simp [Rows.uptoBulk]
  | held h => simp [Rows.uptoBulk]
theorem bulk_mem {H : Type} {d : DataW H} {l : List (DataW H)} (h : d ∈ l) : Rows.uptoBulk d ≤ Rows.uptoBulkAll l := by
  induction l with
  | nil => cases h
  | cons x r ih =>
    simp only [Rows.uptoBulkAll]
    cases List.mem_cons.1 h with
    | inl e => subst e; omega
    | inr e => have := ih e; omega
theorem bulk_len {H : Type} (l : List (DataW H)) : l.length ≤ Rows.uptoBulkAll l := by
  induction l with
  | nil => simp [Rows.uptoBulkAll]
  | cons x r ih => have := bulk_one x; simp only [Rows.uptoBulkAll, List.length_cons]; omega

section
variable {H : Type} {enc : TypeId × Value → H} {P : Program}
/-- A value of one cell that reads as something of bulk at most B. -/
def PartB (H : Type) (enc : TypeId × Value → H) (P : Program) (W : World) (B : Nat) (t : TypeId) (v : Value) : Prop :=
  ∃ y fuel, DataW.trod enc P W 0 (fun _ => true) true fuel t [v] = some y ∧ Rows.uptoBulk y.1 ≤ B
theorem recs_b {t e : TypeId} {fs : Array Field} {W : World} {B : Nat} {v : Value} (ht : P.underlying t = some (.slice e)) (he : P.underlying e = some (.struct fs))
    (hone : oneCellFields P fs = true) (hC : P.cellsOf e = fs.size) (hsz : 0 < fs.size) (h : PartB H enc P W B t v) :
    ∃ A n c V, v = .slice A n c ∧ n ≤ c ∧ c ≤ maxLen ∧ n ≤ B ∧ Rec W W.heap.size fs.size A n V ∧
      ∀ i, i < n → ∀ j f, fs[j]? = some f → PartB H enc P W B f.type (V i j) := by
  obtain ⟨y, fuel, hf, hB⟩ := h
  rcases open_slice ht hf with ⟨hcs, _⟩ | ⟨a, n, c, m, k, D, Pl, hcs, _, hl, hm, hmm, hx, hi⟩
  · simp at hcs
    subst hcs
    exact ⟨none, 0, 0, fun _ _ => .nilFunc, rfl, Nat.le_refl _, by decide, Nat.zero_le _, fun h => absurd h (by omega), fun i hi => absurd hi (by omega)⟩
  · simp at hcs
    subst hcs
    have hnm : n ≤ m := by rw [hmm]; split <;> omega
    have hdx := congrArg Prod.fst hx
    simp only at hdx
    rw [hdx] at hB
    simp only [Rows.uptoBulk] at hB
    have hwD : ∀ i, i < n → Rows.uptoBulk (D i) ≤ B := fun i hin => by
      have := bulk_mem (d := D i) (l := (List.range n).map D) (List.mem_map.2 ⟨i, List.mem_range.2 hin, rfl⟩)
      omega
    have hnB : n ≤ B := by
      have := bulk_len ((List.range n).map D)
      rw [List.length_map, List.length_range] at this
      omega
    have each : ∀ i, i < n → ∃ f : Nat → Value, ∀ j, j < fs.size → W.cell? ((a.add (i * fs.size)).add j) = some (f j) ∧ ∀ fd, fs[j]? = some fd → PartB H enc P W B fd.type (f j) := by
      intro i hin
      obtain ⟨cs', hc, htr⟩ := hi i (by omega)
      rw [hC] at hc
      obtain ⟨xs, k', _, hxe, _, hxl, hff⟩ := DataW.trod_struct he htr
      have hDi := congrArg Prod.fst hxe
      simp only at hDi
      obtain ⟨_, hcl, hat⟩ := World.cells?_some hc
      refine ⟨fun j => cs'.getD j .nilFunc, fun j hj => ⟨?_, fun fd hfd => ?_⟩⟩
      · rw [hat j hj]
        simp [List.getD, List.getElem?_eq_getElem (show j < cs'.length by omega)]
      · obtain ⟨ho, hk⟩ := hone_of hone j fd hfd
        have h1 := hff j fd hfd
        rw [ho, hk] at h1
        have hd : (cs'.drop j).take 1 = [cs'.getD j .nilFunc] := by
          have hg : cs'.getD j .nilFunc = cs'[j] := by simp [List.getD, List.getElem?_eq_getElem (show j < cs'.length by omega)]
          rw [hg, List.drop_eq_getElem_cons (by omega)]
          rfl
        rw [hd] at h1
        have hjx : j < xs.length := by omega
        rw [List.getElem?_eq_getElem hjx] at h1
        refine ⟨_, _, h1, ?_⟩
        have hDb := hwD i hin
        rw [hDi] at hDb
        simp only [Rows.uptoBulk] at hDb
        have := bulk_mem (d := xs[j].1) (l := xs.map (·.1)) (List.mem_map.2 ⟨xs[j], List.getElem_mem _, rfl⟩)
        omega
    obtain ⟨V, hV⟩ := choose_lt (α := Nat → Value) (p := fun i f => ∀ j, j < fs.size → W.cell? ((a.add (i * fs.size)).add j) = some (f j) ∧ ∀ fd, fs[j]? = some fd → PartB H enc P W B fd.type (f j)) each
    refine ⟨some a, n, c, V, rfl, hl, hm, hnB, fun hn => ?_, fun i hin j fd hfd => ((hV i hin) j (Array.getElem?_eq_some_iff.1 hfd).1).2 fd hfd⟩
    have h0 := ((hV 0 hn) 0 hsz).1
    have ha : a = ⟨a.block, a.off, none⟩ := by simpa [Addr.add] using addr_plain h0
    refine ⟨a.block, a.off, by rw [← ha], ?_, fun i hin j hj => ?_⟩
    · have := World.block_lt_of_cell? W _ h0
      simpa [Addr.add] using this
    · have := ((hV i hin) j hj).1
      rw [Go.Deep.add_add, ha] at this
      rw [← this]
      congr 1
      unfold Addr.add
      split
      · first | (simp; done) | (simp; omega)
      · first | (simp; done) | (simp; omega)
theorem int_b {W : World} {B : Nat} {t : TypeId} {v : Value} (hu : P.underlying t = some (.int .i64)) (h : PartB H enc P W B t v) : ∃ x : Int, v = .int .i64 x ∧ -9223372036854775808 ≤ x ∧ x ≤ 9223372036854775807 := by
  obtain ⟨y, fuel, hy, _⟩ := h
  obtain ⟨x, e, _, hw⟩ := DataW.trod_int hu hy
  refine ⟨x, by simpa using e, ?_⟩
  simp [Lit.wf, IntKind.min, IntKind.max, IntKind.signed, IntKind.bits] at hw
  omega
theorem str_b {W : World} {B : Nat} {t : TypeId} {v : Value} (hu : P.underlying t = some .string) (h : PartB H enc P W B t v) : ∃ s : ByteArray, v = .string s ∧ s.size ≤ B := by
  obtain ⟨y, fuel, hy, hB⟩ := h
  obtain ⟨s, e, hx, hs⟩ := DataW.trod_string hu hy
  subst hx
  refine ⟨s, by simpa using e, ?_⟩
  simp only [Rows.uptoBulk, Array.length_toList] at hB
  have : s.size = s.data.size := rfl
  omega
theorem ints_b {t e : TypeId} {W : World} {B : Nat} {v : Value} (ht : P.underlying t = some (.slice e)) (he : P.underlying e = some (.int .i64)) (hC : P.cellsOf e = 1) (h : PartB H enc P W B t v) :
    ∃ (l : List Int) (a : Option Addr) (c : Nat), v = .slice a l.length c ∧ l.length ≤ c ∧ c ≤ maxLen ∧ l.length ≤ B ∧ (∀ x ∈ l, -9223372036854775808 ≤ x ∧ x ≤ 9223372036854775807) ∧ (l ≠ [] → ∃ b off, a = some ⟨b, off, none⟩ ∧ b < W.heap.size ∧ ∀ i x, l[i]? = some x → W.cell? ⟨b, off + i, none⟩ = some (.int .i64 x)) := by
  obtain ⟨y, fuel, hf, hB⟩ := h
  rcases open_ints ht he hC hf with ⟨hcs, _⟩ | ⟨a, n0, c0, zs, hcs, _, hl, hm, hzl, hx, hcell, hwf⟩
  · simp at hcs
    subst hcs
    exact ⟨[], none, 0, rfl, Nat.le_refl _, by decide, by simp, by simp, by simp⟩
  · simp at hcs
    subst hcs
    simp only [if_true] at hzl
    have hdx := congrArg Prod.fst hx
    simp only at hdx
    rw [hdx] at hB
    have hlen : (zs.take n0).length = n0 := by rw [List.length_take]; omega
    have hn : n0 ≤ B := by
      simp only [Rows.uptoBulk] at hB
      have := bulk_len (H := H) (lits IntKind.i64 (zs.take n0))
      simp only [lits, List.length_map, List.length_take, List.length_drop] at this hB
      omega
    refine ⟨zs.take n0, some a, c0, by rw [hlen], by omega, by omega, by omega, fun x hx => ?_, fun h0 => ?_⟩
    · have := hwf x (List.mem_of_mem_take hx)
      simp [Lit.wf, IntKind.min, IntKind.max, IntKind.signed, IntKind.bits] at this
      omega
    · have hn0 : 0 < n0 := by
        rcases Nat.eq_zero_or_pos n0 with e | e
        · subst e; simp at h0
        · exact e
      have h00 := hcell 0 (by omega)
      have ha : a = ⟨a.block, a.off, none⟩ := by simpa [Addr.add] using addr_plain h00
      refine ⟨a.block, a.off, by rw [← ha], ?_, fun i x hi => ?_⟩
      · have := World.block_lt_of_cell? W _ h00
        simpa [Addr.add] using this
      have hil : i < n0 := by
        have := (List.getElem?_eq_some_iff.1 hi).1
        omega
      have := hcell i (by omega)
      rw [List.getElem?_take_of_lt hil] at hi
      simp only [List.getD, hi, Option.getD_some] at this
      rw [ha] at this
      rw [← this]
      congr 1
      unfold Addr.add
      split
      · first | (simp; done) | (simp; omega)
      · first | (simp; done) | (simp; omega)
theorem open_agg_b {P : Program} {t : TypeId} {fs : Array Field} {W : World} {r : Reach} {b0 B : Nat} {v : Value} {d : DataW H} {ps : List MemPlace} (he : P.underlying t = some (.struct fs))
    (hone : oneCellFields P fs = true) (hC : P.cellsOf t = fs.size) (hv : Value.okWide P W r b0 t v) (h : DataW.Trod enc P W 0 (fun _ => true) true t v d ps) (hB : Rows.uptoBulk d ≤ B) :
    ∃ cs : Array Value, v = .agg cs ∧ cs.size = fs.size ∧ ∀ j f, fs[j]? = some f → PartB H enc P W B f.type (cs.toList.getD j .nilFunc) := by
  obtain ⟨cs, rfl, hsz⟩ := okWide_struct he hv
  obtain ⟨fuel, hf⟩ := h
  obtain ⟨xs, k', _, hxe, hcl, hxl, hff⟩ := DataW.trod_struct he hf
  have hd := congrArg Prod.fst hxe
  simp only at hd
  subst hd
  refine ⟨cs, rfl, hsz.trans hC, fun j fd hfd => ?_⟩
  obtain ⟨ho, hk⟩ := hone_of hone j fd hfd
  have hj : j < fs.size := (Array.getElem?_eq_some_iff.1 hfd).1
  have hl : cs.toList.length = fs.size := by rw [Array.length_toList]; exact hsz.trans hC
  have h1 := hff j fd hfd
  rw [ho, hk] at h1
  have hd : ((Value.agg cs).cells.toList.drop j).take 1 = [cs.toList.getD j .nilFunc] := by
    have hg : cs.toList.getD j .nilFunc = cs.toList[j] := by simp [List.getD, List.getElem?_eq_getElem (show j < cs.toList.length by omega)]
    show (cs.toList.drop j).take 1 = _
    rw [hg, List.drop_eq_getElem_cons (by omega)]
    rfl
  rw [hd] at h1
  have hjx : j < xs.length := by rw [hxl]; omega
  rw [List.getElem?_eq_getElem hjx] at h1
  refine ⟨_, _, h1, ?_⟩
  simp only [Rows.uptoBulk] at hB
  have := bulk_mem (d := xs[j].1) (l := xs.map (·.1)) (List.mem_map.2 ⟨xs[j], List.getElem_mem _, rfl⟩)
  omega
/-- An argument of one cell. -/
theorem part_of {t : TypeId} {W : World} {B : Nat} {v : Value} {d : DataW H} {ps : List MemPlace} (hv : v.cells.toList = [v]) (h : DataW.Trod enc P W 0 (fun _ => true) true t v d ps) (hB : Rows.uptoBulk d ≤ B) : PartB H enc P W B t v := by
  obtain ⟨fuel, hf⟩ := h
  rw [hv] at hf
  exact ⟨_, _, hf, hB⟩
end
end Go.Proofs.YtjloddlkleileaaGreatDoor
