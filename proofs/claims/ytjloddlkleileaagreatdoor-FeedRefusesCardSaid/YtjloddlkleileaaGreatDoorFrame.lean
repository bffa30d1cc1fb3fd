/-
  From a law's walk ('true' is returned; nothing that was there before has changed) to the row's own words: plain lemmas over whatever law; no condition.
-/
import Derived.Test.YtjloddlkleileaaGreatDoorRows
import Derived.Test.YtjloddlkleileaaGreatDoorRec
import Derived.WalkKit
import Derived.ProofKit
import Derived.OpenShut
import Derived.Deep.Slices
import Derived.Deep.Fields
import Derived.ChangeSame
import Derived.Lib.SmallJoins
namespace Go.Proofs.YtjloddlkleileaaGreatDoor
open Go.ChangeShapes Go.WideShapes Go.ChangeAt Go.RowKit Go.Deep
set_option linter.unusedVariables false

theorem own_none : ownKnob Tryz.prog.godebug = none := by kernel_rfl
theorem laid_out : laidOutB Tryz.prog = true := by kernel_rfl

section
variable {H : Type} {enc : TypeId × Value → H} {P : Program}
/-- The arguments read behind the call as they read before. -/
theorem trodAll_stays (hl : laidOutB P = true) {W W' : World} (hb : Below W.heap.size W W') : ∀ {ts : List TypeId} {vs : List Value} {ds : List (DataW H)} {ps : List MemPlace},
    (∀ t ∈ ts, P.readableRec t = true ∧ t < P.types.size) → (∀ x ∈ ps, x.block < W.heap.size) → DataW.TrodAll enc P W 0 (fun _ => true) true ts vs ds ps → DataW.TrodAll enc P W' 0 (fun b => decide (b < W.heap.size)) true ts vs ds ps
  | [], [], [], _, _, _, h => h
  | [], _ :: _, _, _, _, _, h => h.elim
  | [], [], _ :: _, _, _, _, h => h.elim
  | _ :: _, [], _, _, _, _, h => h.elim
  | _ :: _, _ :: _, [], _, _, _, h => h.elim
  | t :: ts, v :: vs, d :: ds, ps, hr, hlt, h => by
    obtain ⟨p, q, h1, h2, rfl⟩ := h
    exact ⟨p, q, Below.trod hl (hr t (by simp)).1 (hr t (by simp)).2 h1 hb (fun x hx => hlt x (by simp [hx])), trodAll_stays hl hb (fun t ht => hr t (by simp [ht])) (fun x hx => hlt x (by simp [hx])) h2, rfl⟩

/-- What a law's row asks behind the call. -/
theorem law_post {f : Func} {s : ChangeSpec} {W W' : World} {args : Array Value} {ds gs : List (DataW H)} {before : List MemPlace} {b : TypeId} (hl : laidOutB P = true)
    (hW : DataW.Whole enc P f.params.toList s.vars false W args.toList ds gs before) (hv : s.vars = []) (hts : (f.params.toList.all fun t => P.readableRec t && decide (t < P.types.size)) = true)
    (hres : f.resultTypes = #[b]) (hb : P.underlying b = some .bool) (hfn : s.fn H (ds ++ []) = { results := [.lit (.bool true)], args := ds }) (hbel : Below W.heap.size W W') :
    s.post enc P f false true false false W args (.bool true) W' := by
  obtain ⟨p, q, hA, hV, rfl, hfz, hnd⟩ := hW
  have hW' : DataW.Whole enc P f.params.toList s.vars false W args.toList ds gs (p ++ q) := ⟨p, q, hA, hV, rfl, hfz, hnd⟩
  have hV' := hV
  rw [hv] at hV'
  obtain ⟨rfl, rfl⟩ := trodVars_none hV'
  have hr : ∀ t ∈ f.params.toList, P.readableRec t = true ∧ t < P.types.size := fun t ht => by
    have := List.all_eq_true.1 hts t ht
    simpa using this
  have hA' := trodAll_stays hl hbel hr hA.lt hA
  refine ⟨ds, [], p ++ [], [], p, [], hW', ?_, ?_, ?_, hbel.frame _, fun h => by cases h⟩
  · rw [hres, hfn]
    exact trodAll_mk1 (shut_bool hb true)
  · rw [hfn]
    exact hA'
  · rw [hfn, hv]
    rfl
end

section
variable {H : Type} {enc : TypeId × Value → H} {P : Program}
theorem addr_plain {w : World} {a : Addr} {v : Value} (h : w.cell? a = some v) : a = ⟨a.block, a.off, none⟩ := by
  obtain ⟨b, o, s⟩ := a
  cases s with
  | none => rfl
  | some n =>
    exfalso
    unfold World.cell? at h
    split at h <;> simp at h

/-- An argument that is a slice of structs of one-cell fields: row by row, field by field. -/
theorem open_recs {t e : TypeId} {fs : Array Field} {W : World} {r : Reach} {b0 : Nat} {v : Value} {d : DataW H} {ps : List MemPlace} (ht : P.underlying t = some (.slice e)) (he : P.underlying e = some (.struct fs))
    (hone : oneCellFields P fs = true) (hC : P.cellsOf e = fs.size) (hsz : 0 < fs.size) (hv : Value.okWide P W r b0 t v) (h : DataW.Trod enc P W 0 (fun _ => true) true t v d ps) :
    ∃ A n c V, v = .slice A n c ∧ n ≤ c ∧ c ≤ maxLen ∧ Rec W W.heap.size fs.size A n V ∧
      ∀ i, i < n → ∀ j f, fs[j]? = some f → ∃ y fuel, DataW.trod enc P W 0 (fun _ => true) true fuel f.type [V i j] = some y := by
  obtain ⟨a0, n0, c0, rfl⟩ := okWide_slice ht hv
  obtain ⟨fuel, hf⟩ := h
  rcases open_slice ht hf with ⟨hcs, _⟩ | ⟨a, n, c, m, k, D, Pl, hcs, _, hl, hm, hmm, _, hi⟩
  · simp [Value.cells] at hcs
    obtain ⟨rfl, rfl, rfl⟩ := hcs
    exact ⟨none, 0, 0, fun _ _ => .nilFunc, rfl, Nat.le_refl _, by decide, fun h => absurd h (by omega), fun i hi => absurd hi (by omega)⟩
  · simp [Value.cells] at hcs
    obtain ⟨rfl, rfl, rfl⟩ := hcs
    have hnm : n0 ≤ m := by rw [hmm]; split <;> omega
    have each : ∀ i, i < n0 → ∃ f : Nat → Value, ∀ j, j < fs.size → W.cell? ((a.add (i * fs.size)).add j) = some (f j) ∧ ∀ fd, fs[j]? = some fd → ∃ y fuel, DataW.trod enc P W 0 (fun _ => true) true fuel fd.type [f j] = some y := by
      intro i hin
      obtain ⟨cs', hc, htr⟩ := hi i (by omega)
      rw [hC] at hc
      obtain ⟨xs, k', _, _, _, hxl, hff⟩ := DataW.trod_struct he htr
      obtain ⟨_, hcl, hat⟩ := World.cells?_some hc
      refine ⟨fun j => cs'.getD j .nilFunc, fun j hj => ⟨?_, fun fd hfd => ?_⟩⟩
      · rw [hat j hj]
        simp [List.getD, List.getElem?_eq_getElem (show j < cs'.length by omega)]
      · obtain ⟨ho, hk⟩ := hone_of hone j fd hfd
        have h1 := hff j fd hfd
        rw [ho, hk] at h1
        have hd : (cs'.drop j).take 1 = [cs'.getD j .nilFunc] := by
          have hg : cs'.getD j .nilFunc = cs'[j] := by simp [List.getD, List.getElem?_eq_getElem (show j < cs'.length by omega)]
          rw [hg, List.drop_eq_getElem_cons (by omega)]
          rfl
        rw [hd] at h1
        rw [List.getElem?_eq_getElem (by omega)] at h1
        exact ⟨_, _, h1⟩
    obtain ⟨V, hV⟩ := choose_lt (α := Nat → Value) (p := fun i f => ∀ j, j < fs.size → W.cell? ((a.add (i * fs.size)).add j) = some (f j) ∧ ∀ fd, fs[j]? = some fd → ∃ y fuel, DataW.trod enc P W 0 (fun _ => true) true fuel fd.type [f j] = some y) each
    refine ⟨some a, n0, c0, V, rfl, hl, hm, fun hn => ?_, fun i hin j fd hfd => ((hV i hin) j (Array.getElem?_eq_some_iff.1 hfd).1).2 fd hfd⟩
    have h0 := ((hV 0 hn) 0 hsz).1
    have ha : a = ⟨a.block, a.off, none⟩ := by simpa [Addr.add] using addr_plain h0
    refine ⟨a.block, a.off, by rw [← ha], ?_, fun i hin j hj => ?_⟩
    · have := World.block_lt_of_cell? W _ h0
      simpa [Addr.add] using this
    · have := ((hV i hin) j hj).1
      rw [Go.Deep.add_add, ha] at this
      rw [← this]
      congr 1
      unfold Addr.add
      split
      · first | (simp; done) | (simp; omega)
      · first | (simp; done) | (simp; omega)

/-- A column of int64 (or int) of such a slice, by one function. -/
theorem int_column {W : World} {n : Nat} {V : Nat → Nat → Value} {fs : Array Field} {j : Nat} {f : Field} (h : ∀ i, i < n → ∀ j f, fs[j]? = some f → ∃ y fuel, DataW.trod enc P W 0 (fun _ => true) true fuel f.type [V i j] = some y) (hf : fs[j]? = some f) (hu : P.underlying f.type = some (.int .i64)) :
    ∃ F : Nat → Int, (∀ i, i < n → V i j = .int .i64 (F i)) ∧ ∀ i, -9223372036854775808 ≤ F i ∧ F i ≤ 9223372036854775807 := by
  have each : ∀ i, ∃ x : Int, (i < n → V i j = .int .i64 x) ∧ -9223372036854775808 ≤ x ∧ x ≤ 9223372036854775807 := by
    intro i
    by_cases hi : i < n
    · obtain ⟨y, fuel, hy⟩ := h i hi j f hf
      obtain ⟨x, e, _, hw⟩ := DataW.trod_int hu hy
      refine ⟨x, fun _ => by simpa using e, ?_⟩
      simp [Lit.wf, IntKind.min, IntKind.max, IntKind.signed, IntKind.bits] at hw
      omega
    · exact ⟨0, fun h => absurd h hi, by omega, by omega⟩
  exact ⟨fun i => (each i).choose, fun i hi => (each i).choose_spec.1 hi, fun i => (each i).choose_spec.2⟩
/-- An argument that is an array of four int64. -/
theorem open_arr4 {t e : TypeId} {W : World} {r : Reach} {b0 : Nat} {v : Value} {d : DataW H} {ps : List MemPlace} (ht : P.underlying t = some (.array 4 e)) (he : P.underlying e = some (.int .i64)) (hC : P.cellsOf t = 4) (he1 : P.cellsOf e = 1)
    (hv : Value.okWide P W r b0 t v) (h : DataW.Trod enc P W 0 (fun _ => true) true t v d ps) :
    ∃ N : Nat → Int, v = .agg #[.int .i64 (N 0), .int .i64 (N 1), .int .i64 (N 2), .int .i64 (N 3)] ∧ ∀ i, -9223372036854775808 ≤ N i ∧ N i ≤ 9223372036854775807 := by
  unfold Value.okWide at hv
  rw [ht] at hv
  obtain ⟨cs, rfl, hsz, _⟩ := hv
  obtain ⟨c0, c1, c2, c3, rfl⟩ := Go.Joins.array4 (hsz.trans hC)
  obtain ⟨fuel, hf⟩ := h
  obtain ⟨xs, m, _, _, _, hxl, hff⟩ := DataW.trod_array ht hf
  have one : ∀ i c, i < 4 → ((Value.agg #[c0, c1, c2, c3]).cells.toList.drop i).take 1 = [c] → ∃ x : Int, c = .int .i64 x ∧ -9223372036854775808 ≤ x ∧ x ≤ 9223372036854775807 := by
    intro i c hi hc
    have h1 := hff i hi
    rw [he1, Nat.mul_one, hc, List.getElem?_eq_getElem (by omega)] at h1
    obtain ⟨x, e, _, hw⟩ := DataW.trod_int he h1
    simp only [List.cons.injEq, and_true] at e
    refine ⟨x, e, ?_⟩
    simp [Lit.wf, IntKind.min, IntKind.max, IntKind.signed, IntKind.bits] at hw
    omega
  obtain ⟨x0, rfl, b0⟩ := one 0 c0 (by omega) rfl
  obtain ⟨x1, rfl, b1⟩ := one 1 c1 (by omega) rfl
  obtain ⟨x2, rfl, b2⟩ := one 2 c2 (by omega) rfl
  obtain ⟨x3, rfl, b3⟩ := one 3 c3 (by omega) rfl
  refine ⟨fun i => if i = 0 then x0 else if i = 1 then x1 else if i = 2 then x2 else x3, rfl, fun i => ?_⟩
  simp only []
  repeat' split
  all_goals assumption
theorem Rec.congr {w : World} {B k : Nat} {A : Option Addr} {n : Nat} {V V' : Nat → Nat → Value} (h : Rec w B k A n V) (hV : ∀ i, i < n → ∀ j, j < k → V i j = V' i j) : Rec w B k A n V' := fun hn => by
  obtain ⟨b, off, e, hb, hr⟩ := h hn
  exact ⟨b, off, e, hb, fun i hi j hj => by rw [← hV i hi j hj]; exact hr i hi j hj⟩
theorem int_bounds {x : Int} (hw : (Lit.int .i64 x).wf = true) : -9223372036854775808 ≤ x ∧ x ≤ 9223372036854775807 := by
  simp [Lit.wf, IntKind.min, IntKind.max, IntKind.signed, IntKind.bits] at hw
  omega
end
end Go.Proofs.YtjloddlkleileaaGreatDoor
