/-
  What an argument that is a slice reads as: plain lemmas; no condition.
  From a law's walk ('true' is returned; nothing that was there before has changed) to the row's own words: plain lemmas over whatever law; no condition.
  Arguments where what is read is of bulk at most a bound: slices of structs of one-cell fields, slices of numbers, strings, within one another: plain lemmas; no condition.
  The laws' argument []Edit, where what is read is of bulk at most 1048576: as edits, one by one.
  A world in which the library's listed tables and errors are laid; what a row's list gives: the table of powers of ten. Plain lemmas; no condition.
  An argument that is a slice of texts. Plain lemmas; no condition.
-/
import Derived.Test.YtahahginmgidjaaGreatDoorZMg00
import Derived.Test.YtahahginmgidjaaGreatDoorRows
import Derived.WalkKit
import Derived.ProofKit
import Derived.OpenShut
import Derived.Deep.Slices
import Derived.Deep.Fields
import Derived.ChangeSame
import Derived.Lib.SmallJoins
import Derived.JoinedCond
import Derived.Test.YtahahginmgidjaaGreatDoorZMg37
import Derived.Test.YtahahginmgidjaaGreatDoorZMg13
import Derived.Test.YtahahginmgidjaaGreatDoorCards
import Derived.Test.YtahahginmgidjaaGreatDoorTie
import Derived.Deep.DeepHandedRow
import Derived.Lib.LaidTab
import Derived.LaidSub
import Derived.MakeChecks
import Derived.Test.YtahahginmgidjaaGreatDoorZMg46
import Derived.Deep.Strs
namespace Go.Proofs.YtahahginmgidjaaGreatDoor
open Go.RowKit

/-- The slice value '.slice A n c' reads as n rows of k cells each, V i j the j-th of row i; they lie below block B. -/
def Rec (w : World) (B k : Nat) (A : Option Addr) (n : Nat) (V : Nat → Nat → Value) : Prop :=
  0 < n → ∃ b off, A = some ⟨b, off, none⟩ ∧ b < B ∧ ∀ i, i < n → ∀ j, j < k → w.cell? ⟨b, off + i * k + j, none⟩ = some (V i j)
theorem Rec.chg {S : Nat → Prop} {w w' : World} {B k : Nat} {A : Option Addr} {n : Nat} {V : Nat → Nat → Value} (h : Rec w B k A n V) (hc : Chg S w w') (hB : B ≤ w.heap.size) (hS : ∀ b, b < B → ¬ S b) : Rec w' B k A n V := fun hn => by
  obtain ⟨b, off, e, hb, hr⟩ := h hn
  exact ⟨b, off, e, hb, fun i hi j hj => (hc.cell (p := ⟨b, off + i * k + j, none⟩) (Nat.lt_of_lt_of_le hb hB) (hS b hb)).trans (hr i hi j hj)⟩

end Go.Proofs.YtahahginmgidjaaGreatDoor
namespace Go.Proofs.YtahahginmgidjaaGreatDoor
open Go.ChangeShapes Go.WideShapes Go.ChangeAt Go.RowKit Go.Deep
set_option linter.unusedVariables false

theorem own_none : ownKnob Tryz.prog.godebug = none := by kernel_rfl
theorem laid_out : laidOutB Tryz.prog = true := by kernel_rfl

section
variable {H : Type} {enc : TypeId × Value → H} {P : Program}
/-- The arguments read behind the call as they read before. -/
theorem trodAll_stays (hl : laidOutB P = true) {W W' : World} (hb : Below W.heap.size W W') : ∀ {ts : List TypeId} {vs : List Value} {ds : List (DataW H)} {ps : List MemPlace},
    (∀ t ∈ ts, P.readableRec t = true ∧ t < P.types.size) → (∀ x ∈ ps, x.block < W.heap.size) → DataW.TrodAll enc P W 0 (fun _ => true) true ts vs ds ps → DataW.TrodAll enc P W' 0 (fun b => decide (b < W.heap.size)) true ts vs ds ps
  | [], [], [], _, _, _, h => h
  | [], _ :: _, _, _, _, _, h => h.elim
  | [], [], _ :: _, _, _, _, h => h.elim
  | _ :: _, [], _, _, _, _, h => h.elim
  | _ :: _, _ :: _, [], _, _, _, h => h.elim
  | t :: ts, v :: vs, d :: ds, ps, hr, hlt, h => by
    obtain ⟨p, q, h1, h2, rfl⟩ := h
    exact ⟨p, q, Below.trod hl (hr t (by simp)).1 (hr t (by simp)).2 h1 hb (fun x hx => hlt x (by simp [hx])), trodAll_stays hl hb (fun t ht => hr t (by simp [ht])) (fun x hx => hlt x (by simp [hx])) h2, rfl⟩

/-- What a law's row asks behind the call. -/
theorem law_post {f : Func} {s : ChangeSpec} {W W' : World} {args : Array Value} {ds gs : List (DataW H)} {before : List MemPlace} {b : TypeId} (hl : laidOutB P = true)
    (hW : DataW.Whole enc P f.params.toList s.vars false W args.toList ds gs before) (hv : s.vars = []) (hts : (f.params.toList.all fun t => P.readableRec t && decide (t < P.types.size)) = true)
    (hres : f.resultTypes = #[b]) (hb : P.underlying b = some .bool) (hfn : s.fn H (ds ++ []) = { results := [.lit (.bool true)], args := ds }) (hbel : Below W.heap.size W W') :
    s.post enc P f false true false false W args (.bool true) W' := by
  obtain ⟨p, q, hA, hV, rfl, hfz, hnd⟩ := hW
  have hW' : DataW.Whole enc P f.params.toList s.vars false W args.toList ds gs (p ++ q) := ⟨p, q, hA, hV, rfl, hfz, hnd⟩
  have hV' := hV
  rw [hv] at hV'
  obtain ⟨rfl, rfl⟩ := trodVars_none hV'
  have hr : ∀ t ∈ f.params.toList, P.readableRec t = true ∧ t < P.types.size := fun t ht => by
    have := List.all_eq_true.1 hts t ht
    simpa using this
  have hA' := trodAll_stays hl hbel hr hA.lt hA
  refine ⟨ds, [], p ++ [], [], p, [], hW', ?_, ?_, ?_, hbel.frame _, fun h => by cases h⟩
  · rw [hres, hfn]
    exact trodAll_mk1 (shut_bool hb true)
  · rw [hfn]
    exact hA'
  · rw [hfn, hv]
    rfl
end

section
variable {H : Type} {enc : TypeId × Value → H} {P : Program}
theorem addr_plain {w : World} {a : Addr} {v : Value} (h : w.cell? a = some v) : a = ⟨a.block, a.off, none⟩ := by
  obtain ⟨b, o, s⟩ := a
  cases s with
  | none => rfl
  | some n =>
    exfalso
    unfold World.cell? at h
    split at h <;> simp at h

theorem Rec.congr {w : World} {B k : Nat} {A : Option Addr} {n : Nat} {V V' : Nat → Nat → Value} (h : Rec w B k A n V) (hV : ∀ i, i < n → ∀ j, j < k → V i j = V' i j) : Rec w B k A n V' := fun hn => by
  obtain ⟨b, off, e, hb, hr⟩ := h hn
  exact ⟨b, off, e, hb, fun i hi j hj => by rw [← hV i hi j hj]; exact hr i hi j hj⟩
end
end Go.Proofs.YtahahginmgidjaaGreatDoor
namespace Go.Proofs.YtahahginmgidjaaGreatDoor
open Go.ChangeShapes Go.WideShapes Go.ChangeAt Go.RowKit Go.Deep
set_option linter.unusedVariables false
set_option linter.unusedSimpArgs false

theorem bulk_one {H : Type} (d : DataW H) : 1 ≤ Rows.uptoBulk d := by
  cases d with
  | lit l => cases l <;> simp [Rows.uptoBulk]
  | nil => simp [Rows.uptoBulk]
  | ptr d => simp [Rows.uptoBulk]
  | slice elems spare => simp [Rows.uptoBulk]
  | agg parts => simp [Rows.uptoBulk]
  | iface t d => simp [Rows.uptoBulk]
  | map entries => simp [Rows.uptoBulk]
  | held h => simp [Rows.uptoBulk]
theorem bulk_mem {H : Type} {d : DataW H} {l : List (DataW H)} (h : d ∈ l) : Rows.uptoBulk d ≤ Rows.uptoBulkAll l := by
  induction l with
  | nil => cases h
  | cons x r ih =>
    simp only [Rows.uptoBulkAll]
    cases List.mem_cons.1 h with
    | inl e => subst e; omega
    | inr e => have := ih e; omega
theorem bulk_len {H : Type} (l : List (DataW H)) : l.length ≤ Rows.uptoBulkAll l := by
  induction l with
  | nil => simp [Rows.uptoBulkAll]
  | cons x r ih => have := bulk_one x; simp only [Rows.uptoBulkAll, List.length_cons]; omega

section
variable {H : Type} {enc : TypeId × Value → H} {P : Program}
/-- A value of one cell that reads as something of bulk at most B. -/
def PartB (H : Type) (enc : TypeId × Value → H) (P : Program) (W : World) (B : Nat) (t : TypeId) (v : Value) : Prop :=
  ∃ y fuel, DataW.trod enc P W 0 (fun _ => true) true fuel t [v] = some y ∧ Rows.uptoBulk y.1 ≤ B
theorem recs_b {t e : TypeId} {fs : Array Field} {W : World} {B : Nat} {v : Value} (ht : P.underlying t = some (.slice e)) (he : P.underlying e = some (.struct fs))
    (hone : oneCellFields P fs = true) (hC : P.cellsOf e = fs.size) (hsz : 0 < fs.size) (h : PartB H enc P W B t v) :
    ∃ A n c V, v = .slice A n c ∧ n ≤ c ∧ c ≤ maxLen ∧ n ≤ B ∧ Rec W W.heap.size fs.size A n V ∧
      ∀ i, i < n → ∀ j f, fs[j]? = some f → PartB H enc P W B f.type (V i j) := by
  obtain ⟨y, fuel, hf, hB⟩ := h
  rcases open_slice ht hf with ⟨hcs, _⟩ | ⟨a, n, c, m, k, D, Pl, hcs, _, hl, hm, hmm, hx, hi⟩
  · simp at hcs
    subst hcs
    exact ⟨none, 0, 0, fun _ _ => .nilFunc, rfl, Nat.le_refl _, by decide, Nat.zero_le _, fun h => absurd h (by omega), fun i hi => absurd hi (by omega)⟩
  · simp at hcs
    subst hcs
    have hnm : n ≤ m := by rw [hmm]; split <;> omega
    have hdx := congrArg Prod.fst hx
    simp only at hdx
    rw [hdx] at hB
    simp only [Rows.uptoBulk] at hB
    have hwD : ∀ i, i < n → Rows.uptoBulk (D i) ≤ B := fun i hin => by
      have := bulk_mem (d := D i) (l := (List.range n).map D) (List.mem_map.2 ⟨i, List.mem_range.2 hin, rfl⟩)
      omega
    have hnB : n ≤ B := by
      have := bulk_len ((List.range n).map D)
      rw [List.length_map, List.length_range] at this
      omega
    have each : ∀ i, i < n → ∃ f : Nat → Value, ∀ j, j < fs.size → W.cell? ((a.add (i * fs.size)).add j) = some (f j) ∧ ∀ fd, fs[j]? = some fd → PartB H enc P W B fd.type (f j) := by
      intro i hin
      obtain ⟨cs', hc, htr⟩ := hi i (by omega)
      rw [hC] at hc
      obtain ⟨xs, k', _, hxe, _, hxl, hff⟩ := DataW.trod_struct he htr
      have hDi := congrArg Prod.fst hxe
      simp only at hDi
      obtain ⟨_, hcl, hat⟩ := World.cells?_some hc
      refine ⟨fun j => cs'.getD j .nilFunc, fun j hj => ⟨?_, fun fd hfd => ?_⟩⟩
      · rw [hat j hj]
        simp [List.getD, List.getElem?_eq_getElem (show j < cs'.length by omega)]
      · obtain ⟨ho, hk⟩ := hone_of hone j fd hfd
        have h1 := hff j fd hfd
        rw [ho, hk] at h1
        have hd : (cs'.drop j).take 1 = [cs'.getD j .nilFunc] := by
          have hg : cs'.getD j .nilFunc = cs'[j] := by simp [List.getD, List.getElem?_eq_getElem (show j < cs'.length by omega)]
          rw [hg, List.drop_eq_getElem_cons (by omega)]
          rfl
        rw [hd] at h1
        have hjx : j < xs.length := by omega
        rw [List.getElem?_eq_getElem hjx] at h1
        refine ⟨_, _, h1, ?_⟩
        have hDb := hwD i hin
        rw [hDi] at hDb
        simp only [Rows.uptoBulk] at hDb
        have := bulk_mem (d := xs[j].1) (l := xs.map (·.1)) (List.mem_map.2 ⟨xs[j], List.getElem_mem _, rfl⟩)
        omega
    obtain ⟨V, hV⟩ := choose_lt (α := Nat → Value) (p := fun i f => ∀ j, j < fs.size → W.cell? ((a.add (i * fs.size)).add j) = some (f j) ∧ ∀ fd, fs[j]? = some fd → PartB H enc P W B fd.type (f j)) each
    refine ⟨some a, n, c, V, rfl, hl, hm, hnB, fun hn => ?_, fun i hin j fd hfd => ((hV i hin) j (Array.getElem?_eq_some_iff.1 hfd).1).2 fd hfd⟩
    have h0 := ((hV 0 hn) 0 hsz).1
    have ha : a = ⟨a.block, a.off, none⟩ := by simpa [Addr.add] using addr_plain h0
    refine ⟨a.block, a.off, by rw [← ha], ?_, fun i hin j hj => ?_⟩
    · have := World.block_lt_of_cell? W _ h0
      simpa [Addr.add] using this
    · have := ((hV i hin) j hj).1
      rw [Go.Deep.add_add, ha] at this
      rw [← this]
      congr 1
      unfold Addr.add
      split
      · first | (simp; done) | (simp; omega)
      · first | (simp; done) | (simp; omega)
theorem int_b {W : World} {B : Nat} {t : TypeId} {v : Value} (hu : P.underlying t = some (.int .i64)) (h : PartB H enc P W B t v) : ∃ x : Int, v = .int .i64 x ∧ -9223372036854775808 ≤ x ∧ x ≤ 9223372036854775807 := by
  obtain ⟨y, fuel, hy, _⟩ := h
  obtain ⟨x, e, _, hw⟩ := DataW.trod_int hu hy
  refine ⟨x, by simpa using e, ?_⟩
  simp [Lit.wf, IntKind.min, IntKind.max, IntKind.signed, IntKind.bits] at hw
  omega
theorem str_b {W : World} {B : Nat} {t : TypeId} {v : Value} (hu : P.underlying t = some .string) (h : PartB H enc P W B t v) : ∃ s : ByteArray, v = .string s ∧ s.size ≤ B := by
  obtain ⟨y, fuel, hy, hB⟩ := h
  obtain ⟨s, e, hx, hs⟩ := DataW.trod_string hu hy
  subst hx
  refine ⟨s, by simpa using e, ?_⟩
  simp only [Rows.uptoBulk, Array.length_toList] at hB
  have : s.size = s.data.size := rfl
  omega
theorem ints_b {t e : TypeId} {W : World} {B : Nat} {v : Value} (ht : P.underlying t = some (.slice e)) (he : P.underlying e = some (.int .i64)) (hC : P.cellsOf e = 1) (h : PartB H enc P W B t v) :
    ∃ (l : List Int) (a : Option Addr) (c : Nat), v = .slice a l.length c ∧ l.length ≤ c ∧ c ≤ maxLen ∧ l.length ≤ B ∧ (∀ x ∈ l, -9223372036854775808 ≤ x ∧ x ≤ 9223372036854775807) ∧ (l ≠ [] → ∃ b off, a = some ⟨b, off, none⟩ ∧ b < W.heap.size ∧ ∀ i x, l[i]? = some x → W.cell? ⟨b, off + i, none⟩ = some (.int .i64 x)) := by
  obtain ⟨y, fuel, hf, hB⟩ := h
  rcases open_ints ht he hC hf with ⟨hcs, _⟩ | ⟨a, n0, c0, zs, hcs, _, hl, hm, hzl, hx, hcell, hwf⟩
  · simp at hcs
    subst hcs
    exact ⟨[], none, 0, rfl, Nat.le_refl _, by decide, by simp, by simp, by simp⟩
  · simp at hcs
    subst hcs
    simp only [if_true] at hzl
    have hdx := congrArg Prod.fst hx
    simp only at hdx
    rw [hdx] at hB
    have hlen : (zs.take n0).length = n0 := by rw [List.length_take]; omega
    have hn : n0 ≤ B := by
      simp only [Rows.uptoBulk] at hB
      have := bulk_len (H := H) (lits IntKind.i64 (zs.take n0))
      simp only [lits, List.length_map, List.length_take, List.length_drop] at this hB
      omega
    refine ⟨zs.take n0, some a, c0, by rw [hlen], by omega, by omega, by omega, fun x hx => ?_, fun h0 => ?_⟩
    · have := hwf x (List.mem_of_mem_take hx)
      simp [Lit.wf, IntKind.min, IntKind.max, IntKind.signed, IntKind.bits] at this
      omega
    · have hn0 : 0 < n0 := by
        rcases Nat.eq_zero_or_pos n0 with e | e
        · subst e; simp at h0
        · exact e
      have h00 := hcell 0 (by omega)
      have ha : a = ⟨a.block, a.off, none⟩ := by simpa [Addr.add] using addr_plain h00
      refine ⟨a.block, a.off, by rw [← ha], ?_, fun i x hi => ?_⟩
      · have := World.block_lt_of_cell? W _ h00
        simpa [Addr.add] using this
      have hil : i < n0 := by
        have := (List.getElem?_eq_some_iff.1 hi).1
        omega
      have := hcell i (by omega)
      rw [List.getElem?_take_of_lt hil] at hi
      simp only [List.getD, hi, Option.getD_some] at this
      rw [ha] at this
      rw [← this]
      congr 1
      unfold Addr.add
      split
      · first | (simp; done) | (simp; omega)
      · first | (simp; done) | (simp; omega)
/-- An argument of one cell. -/
theorem part_of {t : TypeId} {W : World} {B : Nat} {v : Value} {d : DataW H} {ps : List MemPlace} (hv : v.cells.toList = [v]) (h : DataW.Trod enc P W 0 (fun _ => true) true t v d ps) (hB : Rows.uptoBulk d ≤ B) : PartB H enc P W B t v := by
  obtain ⟨fuel, hf⟩ := h
  rw [hv] at hf
  exact ⟨_, _, hf, hB⟩
end
end Go.Proofs.YtahahginmgidjaaGreatDoor
namespace Go.Proofs.YtahahginmgidjaaGreatDoor
open Go.ChangeShapes Go.WideShapes Go.ChangeAt Go.RowKit Go.Deep
set_option linter.unusedVariables false
set_option linter.unusedSimpArgs false
section
variable {H : Type} {enc : TypeId × Value → H}
theorem rows_b {W : World} {B : Nat} {v : Value} (h : PartB H enc Tryz.prog W B 51 v) : ∃ l : List PlaceV, ReadRows W v l ∧ l.length ≤ B ∧ (∀ p ∈ l, I64 p.m.file) ∧ ∀ p ∈ l, p.m.lo.size ≤ B ∧ p.m.hi.size ≤ B := by
  obtain ⟨A, n, c, V, rfl, hnc, hcm, hnB, hrec, hV⟩ := recs_b Tryz.underlying51 Tryz.underlying128 (by kernel_rfl) (by kernel_rfl) (by decide) h
  have each : ∀ i, ∃ p : PlaceV, i < n → V i 0 = .int .i64 p.level ∧ V i 1 = .int .i64 p.m.file ∧ V i 2 = .int .i64 p.m.size ∧ V i 3 = .string p.m.lo ∧ V i 4 = .string p.m.hi ∧ I64 p.m.file ∧ p.m.lo.size ≤ B ∧ p.m.hi.size ≤ B := fun i => by
    by_cases hi : i < n
    · obtain ⟨x0, e0, _⟩ := int_b Tryz.underlying3 (hV i hi 0 _ rfl)
      obtain ⟨x1, e1, b1⟩ := int_b Tryz.underlying2 (hV i hi 1 _ rfl)
      obtain ⟨x2, e2, _⟩ := int_b Tryz.underlying2 (hV i hi 2 _ rfl)
      obtain ⟨x3, e3, b3⟩ := str_b Tryz.underlying9 (hV i hi 3 _ rfl)
      obtain ⟨x4, e4, b4⟩ := str_b Tryz.underlying9 (hV i hi 4 _ rfl)
      exact ⟨⟨x0, ⟨x1, x2, x3, x4⟩⟩, fun _ => ⟨e0, e1, e2, e3, e4, b1, b3, b4⟩⟩
    · exact ⟨⟨0, ⟨0, 0, ⟨#[]⟩, ⟨#[]⟩⟩⟩, fun h => absurd h hi⟩
  have hlen : ((List.range n).map fun i => (each i).choose).length = n := by simp
  refine ⟨(List.range n).map fun i => (each i).choose, ⟨A, c, by rw [hlen], by omega, by rw [hlen]; unfold maxLen at hcm; omega, fun X x Y hl => ?_⟩, by omega, fun p hp => ?_, fun p hp => ?_⟩
  · have hX : X.length < n := by
      have := congrArg List.length hl
      rw [hlen] at this
      simp at this
      omega
    have hx : x = (each X.length).choose := by
      have : ((List.range n).map fun i => (each i).choose)[X.length]? = some x := by rw [hl]; simp
      rw [List.getElem?_map, List.getElem?_range hX] at this
      simpa using this.symm
    obtain ⟨b, off, e, hb, hr⟩ := hrec (by omega)
    obtain ⟨e0, e1, e2, e3, e4, _⟩ := (each X.length).choose_spec hX
    rw [hx]
    refine ⟨b, off, e, hb, ?_, ?_, ?_, ?_, ?_⟩
    · rw [← e0]; exact hr _ hX 0 (by decide)
    · rw [← e1]; exact hr _ hX 1 (by decide)
    · rw [← e2]; exact hr _ hX 2 (by decide)
    · rw [← e3]; exact hr _ hX 3 (by decide)
    · rw [← e4]; exact hr _ hX 4 (by decide)
  · obtain ⟨i, hi, rfl⟩ := List.mem_map.1 hp
    exact ((each i).choose_spec (List.mem_range.1 hi)).2.2.2.2.2.1
  · obtain ⟨i, hi, rfl⟩ := List.mem_map.1 hp
    exact ((each i).choose_spec (List.mem_range.1 hi)).2.2.2.2.2.2
theorem eds_b {W : World} {v : Value} (h : PartB H enc Tryz.prog W 1048576 22 v) : ∃ (A : Option Addr) (n c : Nat) (Ed : Nat → EditV), v = .slice A n c ∧ n ≤ c ∧ c ≤ maxLen ∧ EdsAt W A n Ed ∧ ∀ i, i < n → EdFine (Ed i) := by
  obtain ⟨A, n, c, V, rfl, hnc, hcm, hnB, hrec, hV⟩ := recs_b Tryz.underlying22 Tryz.underlying54 (by kernel_rfl) (by kernel_rfl) (by decide) h
  have each : ∀ i, ∃ E : EditV, i < n → (ReadRows W (V i 0) E.add ∧ ReadInts W (V i 1) E.drop ∧ V i 2 = .int .i64 E.log ∧ V i 3 = .int .i64 E.next ∧ V i 4 = .int .i64 E.seq) ∧ EdFine E := fun i => by
    by_cases hi : i < n
    · obtain ⟨l, h0, hl, hfl, _⟩ := rows_b (hV i hi 0 _ rfl)
      obtain ⟨d, da, dc, e1, hdc, hdm, hdB, hdI, hdr⟩ := ints_b Tryz.underlying52 Tryz.underlying2 (by kernel_rfl) (hV i hi 1 _ rfl)
      obtain ⟨x2, e2, _⟩ := int_b Tryz.underlying2 (hV i hi 2 _ rfl)
      obtain ⟨x3, e3, b3⟩ := int_b Tryz.underlying2 (hV i hi 3 _ rfl)
      obtain ⟨x4, e4, _⟩ := int_b Tryz.underlying2 (hV i hi 4 _ rfl)
      exact ⟨⟨l, d, x2, x3, x4⟩, fun _ => ⟨⟨h0, ⟨da, dc, e1, hdc, (show d.length ≤ 9223372036854775807 by unfold maxLen at hdm; omega), hdr⟩, e2, e3, e4⟩, ⟨⟨hdI, hfl⟩, b3, hl, hdB⟩⟩⟩
    · exact ⟨⟨[], [], 0, 0, 0⟩, fun h => absurd h hi⟩
  refine ⟨A, n, c, fun i => (each i).choose, rfl, hnc, hcm, fun hn => ?_, fun i hi => ((each i).choose_spec hi).2⟩
  obtain ⟨b, off, e, hb, hr⟩ := hrec hn
  refine ⟨b, off, e, hb, fun i hi => ?_⟩
  obtain ⟨⟨h0, h1, e2, e3, e4⟩, _⟩ := (each i).choose_spec hi
  refine ⟨V i 0, V i 1, hr i hi 0 (by decide), hr i hi 1 (by decide), ?_, ?_, ?_, h0, h1⟩
  · rw [← e2]; exact hr i hi 2 (by decide)
  · rw [← e3]; exact hr i hi 3 (by decide)
  · rw [← e4]; exact hr i hi 4 (by decide)
end
end Go.Proofs.YtahahginmgidjaaGreatDoor
namespace Go.Proofs.YtahahginmgidjaaGreatDoor
open Go.ChangeShapes Go.WideShapes Go.ChangeAt Go.RowKit Go.Deep
set_option linter.unusedVariables false
set_option linter.unusedSimpArgs false

/-- The numbers of a table, as cells. -/
def litV : DataW Unit → List Value
  | .lit (.int k n) => [.int k n]
  | _ => []
def tabV : DataW Unit → List Value
  | .agg l => l.flatMap fun x => match x with
    | .agg m => m.flatMap litV
    | x => litV x
  | _ => []
def setV (l : List Value) (o : Obj) : Obj := match o with
  | .cells _ t frozen => Obj.cells l.toArray t frozen
  | o => o
abbrev synS : ByteArray := { data := #[105, 110, 118, 97, 108, 105, 100, 32, 115, 121, 110, 116, 97, 120] }
abbrev rngS : ByteArray := { data := #[118, 97, 108, 117, 101, 32, 111, 117, 116, 32, 111, 102, 32, 114, 97, 110, 103, 101] }
noncomputable def low : Nat := (World.holding Tryz.prog default ⟨#[], #[], []⟩).heap.size
/-- A world for the witness: the settled one, two errors more, the listed variables as their initialisers lay them. -/
noncomputable def laidWorld (os : Os) : World :=
  { World.holding Tryz.prog os ⟨#[.cells #[.string synS] 332, .cells #[.string rngS] 332], #[], []⟩ with heap := (((((((World.holding Tryz.prog os ⟨#[.cells #[.string synS] 332, .cells #[.string rngS] 332], #[], []⟩).heap.modify 3 (setV (tabV Rows.laid_internal_strconv_uint64pow10))).modify 4 (setV (tabV Rows.laid_unicode_utf8_first))).modify 5 (setV (tabV Rows.laid_unicode_utf8_acceptRanges))).modify 6 (setV (tabV Rows.laid_math_bits_deBruijn32tab))).modify 7 (setV (tabV Rows.laid_math_bits_deBruijn64tab))).modify 1 (setV [.iface 330 (.pointer (some ⟨low, 0, none⟩))])).modify 2 (setV [.iface 330 (.pointer (some ⟨low + 1, 0, none⟩))]) }
theorem g_tab : Tryz.prog.globalNamed "internal/strconv.uint64pow10" = some 3 := by kernel_rfl
theorem g_syn : Tryz.prog.globalNamed "strconv.ErrSyntax" = some 1 := by kernel_rfl
theorem g_rng : Tryz.prog.globalNamed "strconv.ErrRange" = some 2 := by kernel_rfl
/-- From a row's list, the one entry of a name. -/
theorem laid_one {l : List (String × DataW Unit)} {W : World} (n : String) (h : laidMetH Tryz.prog l W) {r : List (String × DataW Unit)} (hr : (l.filter fun x => x.1 == n) = r) (hh : (r.all fun x => x.2.handleName?.isNone) = true) : laidMet Tryz.prog r W := by
  have h1 := h.filter fun x => x.1 == n
  rw [hr, MakeChecks.laidMetH_plain _ _ _ hh] at h1
  exact h1
theorem tab_of {l : List (String × DataW Unit)} {W : World} (h : laidMetH Tryz.prog l W) (hr : (l.filter fun x => x.1 == "internal/strconv.uint64pow10") = [("internal/strconv.uint64pow10", Lib.tabData .u64 Lib.pow10Tab)]) : Tab W :=
  Lib.tabIs_of_head (rest := []) g_tab (t := 324) (e := 241) (n := 20) (by kernel_rfl) (by kernel_rfl) (by kernel_rfl) (by kernel_rfl) (by kernel_rfl) (laid_one _ h hr (by kernel_rfl))
theorem star_err : "*" ++ "errors.errorString" = "*errors.errorString" := by decide
theorem row_err (u : TypeId) (h : Tryz.prog.typeName? 3 u = some "*errors.errorString") : u = 330 :=
  typeName_ptr_named (nm := "errors.errorString") (by rw [star_err]; kernel_rfl) (by kernel_rfl) (by decide) u (by rw [star_err]; exact h)
theorem err_cell {n : String} {text : List UInt8} {W : World} {g : Nat} (hg : Tryz.prog.globalNamed n = some g) (ht : (Tryz.prog.globals[g]?).map (·.type) = some 224)
    (h : laidMet Tryz.prog [(n, .iface "*errors.errorString" (.ptr (.agg [.lit (.string text)])))] W) : ∃ t p, W.cell? ⟨g, 0, none⟩ = some (.iface t p) := by
  obtain ⟨a, s, hv, _⟩ := laid_sentinel h hg ht Tryz.underlying224 row_err Tryz.underlying330 Tryz.underlying332 rfl rfl Tryz.underlying9 (by kernel_rfl) (by kernel_rfl)
  exact ⟨_, _, by simpa using World.var?_cell hg hv 0⟩
theorem err_of {l : List (String × DataW Unit)} {W : World} (h : laidMetH Tryz.prog l W) {t1 t2 : List UInt8} (h1 : (l.filter fun x => x.1 == "strconv.ErrSyntax") = [("strconv.ErrSyntax", .iface "*errors.errorString" (.ptr (.agg [.lit (.string t1)])))])
    (h2 : (l.filter fun x => x.1 == "strconv.ErrRange") = [("strconv.ErrRange", .iface "*errors.errorString" (.ptr (.agg [.lit (.string t2)])))]) : ErrOk W := by
  obtain ⟨a, p, e1⟩ := err_cell g_syn (by kernel_rfl) (laid_one _ h h1 rfl)
  obtain ⟨b, q, e2⟩ := err_cell g_rng (by kernel_rfl) (laid_one _ h h2 rfl)
  exact ⟨a, p, b, q, e1, e2⟩
end Go.Proofs.YtahahginmgidjaaGreatDoor
namespace Go.Proofs.YtahahginmgidjaaGreatDoor
open Go.ChangeShapes Go.WideShapes Go.ChangeAt Go.RowKit Go.Deep
set_option linter.unusedVariables false
set_option linter.unusedSimpArgs false
section
variable {H : Type} {enc : TypeId × Value → H}
set_option maxRecDepth 100000 in
theorem open_strs_at {W : World} {r : Reach} {b0 : Nat} {v : Value} {d : DataW H} {ps : List MemPlace} (hv : Value.okWide Tryz.prog W r b0 23 v) (h : DataW.Trod enc Tryz.prog W 0 (fun _ => true) true 23 v d ps) :
    ∃ A n c S, v = .slice A n c ∧ n ≤ c ∧ c ≤ maxLen ∧ StrsAt W A n S ∧ ∀ i, (S i).size ≤ maxLen := by
  obtain ⟨a0, n0, c0, rfl⟩ := okWide_slice Tryz.underlying23 hv
  obtain ⟨fuel, hf⟩ := h
  rcases open_strs Tryz.underlying23 Tryz.underlying9 (by kernel_rfl) hf with ⟨hcs, _⟩ | ⟨a, n, c, m, Sx, hcs, _, hl, hm, hmm, _, hcell⟩
  · simp [Value.cells] at hcs
    obtain ⟨rfl, rfl, rfl⟩ := hcs
    exact ⟨none, 0, 0, fun _ => ⟨#[]⟩, rfl, Nat.le_refl _, Nat.zero_le _, fun h => absurd h (Nat.lt_irrefl 0), fun _ => Nat.zero_le _⟩
  · simp [Value.cells] at hcs
    obtain ⟨rfl, rfl, rfl⟩ := hcs
    have hnm : n0 ≤ m := by rw [hmm]; split <;> omega
    refine ⟨some a, n0, c0, fun i => if i < m then Sx i else ⟨#[]⟩, rfl, hl, hm, fun h0 => ?_, fun i => ?_⟩
    · have h00 := (hcell 0 (by omega)).1
      have ha : a = ⟨a.block, a.off, none⟩ := by simpa [Addr.add] using addr_plain h00
      have hbl := World.block_lt_of_cell? W _ h00
      refine ⟨a.block, a.off, by rw [← ha], by simpa [Addr.add] using hbl, fun i hi => ?_⟩
      have := (hcell i (by omega)).1
      rw [ha, Addr.add_lit] at this
      simp only
      rw [if_pos (by omega)]
      exact this
    · simp only
      split
      · exact (hcell i (by assumption)).2
      · exact Nat.zero_le _
end
end Go.Proofs.YtahahginmgidjaaGreatDoor
