/-
  The card of WalPlays: whatever the input, the law returns true, and the input reads as it did; the listed tables and errors hold what the program's text lays. No condition of ours.
-/
import Derived.Test.YtjfbcjmnjlehaaaGreatDoorZMg22
import Derived.Test.YtjfbcjmnjlehaaaGreatDoorZWalU
import Derived.Test.YtjfbcjmnjlehaaaGreatDoorZMg44
namespace Go.Proofs.YtjfbcjmnjlehaaaGreatDoor.walPlays
open Go.ChangeShapes Go.WideShapes Go.ChangeAt Go.RowKit Go.Deep
set_option linter.unusedVariables false
set_option linter.unusedSimpArgs false

/-- The cells' types of a Step, one behind another. -/
def mkF (t : TypeId) : Field := { (default : Field) with type := t }
def flatF : Array Field := #[mkF 3, mkF 2, mkF 9, mkF 3, mkF 9, mkF 9, mkF 3, mkF 3, mkF 33]
set_option maxRecDepth 100000 in
theorem flat_rows {H : Type} {enc : TypeId × Value → H} {W : World} {n : Nat} {V : Nat → Nat → Value} (h : ∀ i, i < n → ∃ y fuel, DataW.trod enc Tryz.prog W 0 (fun _ => true) true fuel 37 ((List.range 9).map (V i)) = some y ∧ ∀ n ∈ y.1.weights Tryz.prog 37, n ≤ reachBytes) :
    ∀ i, i < n → ∀ j f, flatF[j]? = some f → ∃ y fuel, DataW.trod enc Tryz.prog W 0 (fun _ => true) true fuel f.type [V i j] = some y ∧ ∀ n ∈ y.1.weights Tryz.prog f.type, n ≤ reachBytes := by
  intro i hi j f hf
  obtain ⟨y, fuel, hy, hw⟩ := h i hi
  have hj := (Array.getElem?_eq_some_iff.1 hf).1
  have on := row_cells Tryz.underlying37 hy hw 3 (t := 35) (o := 3) (k := 6) rfl (by kernel_rfl) rfl
  obtain ⟨y3, f3, hy3, hw3⟩ := on
  match j, hj, hf with
  | 0, _, hf => cases hf; exact row_cells Tryz.underlying37 hy hw 0 (t := 3) (o := 0) (k := 1) rfl (by kernel_rfl) rfl
  | 1, _, hf => cases hf; exact row_cells Tryz.underlying37 hy hw 1 (t := 2) (o := 1) (k := 1) rfl (by kernel_rfl) rfl
  | 2, _, hf => cases hf; exact row_cells Tryz.underlying37 hy hw 2 (t := 9) (o := 2) (k := 1) rfl (by kernel_rfl) rfl
  | 3, _, hf => cases hf; exact row_cells Tryz.underlying35 hy3 hw3 0 (t := 3) (o := 0) (k := 1) rfl (by kernel_rfl) rfl
  | 4, _, hf => cases hf; exact row_cells Tryz.underlying35 hy3 hw3 1 (t := 9) (o := 1) (k := 1) rfl (by kernel_rfl) rfl
  | 5, _, hf => cases hf; exact row_cells Tryz.underlying35 hy3 hw3 2 (t := 9) (o := 2) (k := 1) rfl (by kernel_rfl) rfl
  | 6, _, hf => cases hf; exact row_cells Tryz.underlying35 hy3 hw3 3 (t := 3) (o := 3) (k := 1) rfl (by kernel_rfl) rfl
  | 7, _, hf => cases hf; exact row_cells Tryz.underlying35 hy3 hw3 4 (t := 3) (o := 4) (k := 1) rfl (by kernel_rfl) rfl
  | 8, _, hf => cases hf; exact row_cells Tryz.underlying35 hy3 hw3 5 (t := 33) (o := 5) (k := 1) rfl (by kernel_rfl) rfl
theorem laid_met (os : Os) : laidMetH Tryz.prog Rows.walPlaysRow.laid ((laidWorld os).forCall (fun _ _ => 0) ⟨#[], #[.int .i64 0, .slice none 0 0], []⟩).memory :=
  laidMet_of_run' 8 (by kernel_rfl) (by kernel_rfl)
theorem reads (os : Os) {H : Type} (enc : TypeId × Value → H) : ∃ places, DataW.whole enc Tryz.prog ((laidWorld os).forCall (fun _ _ => 0) ⟨#[], #[.int .i64 0, .slice none 0 0], []⟩).memory Tryz.f4.params.toList Rows.walPlaysSpec.vars false #[Value.int .i64 0, .slice none 0 0].toList 8 = some ([.lit (.int .i64 0), .nil], [], places) :=
  ⟨[], by kernel_rfl⟩

set_option maxRecDepth 100000 in
theorem lifted (os : Os) (started : os.Started) (H : Type) (enc : TypeId × Value → H) (F : Stop.Interp) :
    ReturnsInHanded {} Tryz.checked os 4 .any ((OpenSpec.ofChange Rows.walPlaysSpec).preRow enc Tryz.prog Tryz.f4 Rows.walPlaysRow.domain false Rows.walPlaysRow.laid) (((OpenSpec.ofChange Rows.walPlaysSpec).at F).post enc Tryz.prog Tryz.f4 false true false false) := by
  obtain ⟨places, hx⟩ := reads os enc
  refine returnsInHanded_of_row (C := Tryz.checked) (s := OpenSpec.ofChange Rows.walPlaysSpec) own_none started (by kernel_rfl) Tryz.func4
    (witness_row_at (enc := enc) (C := Tryz.checked) false (laidWorld os) #[.int .i64 0, .slice none 0 0] rfl (by kernel_rfl) (by kernel_rfl) (by kernel_rfl)
      (OpenSpec.preRow_of_cond 8 hx (by kernel_rfl) (fun k hk => by cases hk) (by kernel_rfl) (laid_met os))) ?_
  intro W base args ds gs before hval0 hW _ _ hsz0 hL0 _ _
  have hval : ∀ (j : Nat) t v, Tryz.f4.params[j]? = some t → args[j]? = some v → Value.okWide Tryz.prog W .any base t v := hval0
  have hW' := hW
  obtain ⟨p, q, hA0, hV, rfl, hfz, hnd⟩ := hW
  have hA : DataW.TrodAll enc Tryz.prog W 0 (fun _ => true) true Tryz.f4.params.toList args.toList ds p := hA0
  rw [Tryz.params4] at hA hval
  obtain ⟨v0, vs0, d0, ds0, p0, q0, hargs, rfl, rfl, h0, r0⟩ := trodAll_cons hA
  obtain ⟨v1, vs1, d1, ds1, p1, q1, rfl, rfl, rfl, h1, r1⟩ := trodAll_cons r0
  obtain ⟨rfl, rfl, rfl⟩ := trodAll_nil r1
  obtain rfl : args = #[v0, v1] := by cases args; simp_all
  obtain ⟨rfl, rfl⟩ := trodVars_none hV
  obtain ⟨a0, rfl, rfl, rfl, w0⟩ := open_int Tryz.underlying3 (hval 0 3 v0 rfl rfl) h0
  have hw1 : ∀ n ∈ d1.weights Tryz.prog 28, n ≤ reachBytes := fun n hn => by simpa using List.all_eq_true.1 hsz0 n (DataW.weights_mem_each (j := 1) (t := 28) rfl rfl n hn)
  obtain ⟨A, n, c, V, rfl, hnc, hcm, hrec, hrow⟩ := open_rows_sized (K := 9) Tryz.underlying28 (by kernel_rfl) (by decide) (hval 1 28 v1 rfl rfl) h1 hw1
  unfold maxLen at hcm
  have hV1 := flat_rows hrow
  obtain ⟨Wh, hWh, bWh⟩ := int_column_sized (j := 0) hV1 rfl Tryz.underlying3
  obtain ⟨Lg, hLg, bLg⟩ := int_column_sized (j := 1) hV1 rfl Tryz.underlying2
  obtain ⟨Bd, hBd, bBd⟩ := str_column_sized (j := 2) hV1 rfl Tryz.underlying9
  obtain ⟨D, hD, bD⟩ := int_column_sized (j := 3) hV1 rfl Tryz.underlying3
  obtain ⟨S, hS, bS⟩ := str_column_sized (j := 4) hV1 rfl Tryz.underlying9
  obtain ⟨T, hT, bT⟩ := str_column_sized (j := 5) hV1 rfl Tryz.underlying9
  obtain ⟨N, hN, bN⟩ := int_column_sized (j := 6) hV1 rfl Tryz.underlying3
  obtain ⟨M, hM, bM⟩ := int_column_sized (j := 7) hV1 rfl Tryz.underlying3
  obtain ⟨L, hL⟩ := ints_column_sized (j := 8) hV1 rfl Tryz.underlying33 Tryz.underlying3 (by kernel_rfl) (by kernel_rfl)
  have hrec' := hrec.congr (V' := sRow Wh Lg Bd D N M S T fun i => V i 8) (fun i hi j hj => by
    match j, hj with
    | 0, _ => exact hWh i hi
    | 1, _ => exact hLg i hi
    | 2, _ => exact hBd i hi
    | 3, _ => exact hD i hi
    | 4, _ => exact hS i hi
    | 5, _ => exact hT i hi
    | 6, _ => exact hN i hi
    | 7, _ => exact hM i hi
    | 8, _ => rfl)
  have ht : Tab W := tab_of hL0 (by kernel_rfl)
  refine (wal_plays a0 A n c Wh Lg D N M Bd S T (fun i => V i 8) L (int_bounds w0).2 bWh bLg bN bM (fun i => Nat.le_trans (bBd i) (by decide)) (fun i => Nat.le_trans (bS i) (by decide)) (fun i => Nat.le_trans (bT i) (by decide)) W (by omega) hnc hL hrec' ht).mono fun e W' ⟨he, hc⟩ => ?_
  subst he
  exact ⟨_, rfl, law_post laid_out hW' rfl (by kernel_rfl) rfl Tryz.underlying4 rfl hc.below⟩

theorem said : Rows.WalPlaysSaid :=
  OpenClaim.holds_of_cond 4 Tryz.f4 rfl rfl rfl rfl rfl rfl rfl ⟨rfl, rfl, rfl, rfl, rfl⟩ rfl rfl rfl rfl rfl (by kernel_rfl) Tryz.func4 (by kernel_rfl)
    (of_decide_eq_true (by kernel_rfl)) (by unfold Func.isWrapper; first | (rw [if_pos (by decide +kernel)]; kernel_rfl) | (rw [if_neg (by decide +kernel)]; exact ⟨rfl, rfl⟩))
    (fun os started H enc _ F => by rw [OpenClaim.pre_eq_preRow]; exact lifted os started H enc F)

theorem plain (f : FuncId) (fn : Func) (hf : Tryz.pinned.checked.prog.funcNamed "oxbow/oxbowlaw08.WalPlays" = some f) (hfn : Tryz.pinned.checked.prog.funcs[f]? = some fn) :
    true = Tryz.pinned.checked.prog.looks [] ∧ ∀ (j : Nat) t, fn.params[j]? = some t → Tryz.pinned.checked.prog.wantsStandIn t = false := by
  obtain rfl : f = 4 := Option.some.inj ((show Tryz.prog.funcNamed "oxbow/oxbowlaw08.WalPlays" = some 4 by kernel_rfl).symm.trans hf) |>.symm
  obtain rfl : fn = Tryz.f4 := (Option.some.inj (Tryz.func4.symm.trans hfn)).symm
  refine ⟨by kernel_rfl, fun j t ht => ?_⟩
  rw [Tryz.params4] at ht
  have hm := Array.mem_of_getElem? ht
  have h2 : t = 3 ∨ t = 28 := by simpa using hm
  rcases h2 with rfl | rfl
  · exact (show Tryz.prog.wantsStandIn 3 = false by kernel_rfl)
  · exact (show Tryz.prog.wantsStandIn 28 = false by kernel_rfl)

theorem proved : Rows.WalPlaysCardSaid :=
  Claim7.holds_tied_plain_at .later [] _ _ _ _ said (fun _ h => by cases h) (by kernel_rfl) (fun _ h => by cases h) walPlays_row_tie rfl ⟨rfl, rfl⟩ (by kernel_rfl) rfl plain (by kernel_rfl)
#print axioms proved
end Go.Proofs.YtjfbcjmnjlehaaaGreatDoor.walPlays
