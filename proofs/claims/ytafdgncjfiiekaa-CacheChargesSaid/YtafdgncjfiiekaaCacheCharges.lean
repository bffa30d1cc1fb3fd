/-
  The statement CacheChargesSaid: whatever the input, the law returns true, and the input reads as it did. No condition.
-/
import Derived.Test.YtafdgncjfiiekaaFrameS
import Derived.Test.YtafdgncjfiiekaaCacheZ
namespace Go.Proofs.Ytafdgncjfiiekaa.cacheCharges
open Go.ChangeShapes Go.WideShapes Go.ChangeAt Go.RowKit Go.Deep Go.Joins
set_option linter.unusedVariables false

set_option maxRecDepth 100000 in
theorem lifted (os : Os) (started : os.Started) (H : Type) (enc : TypeId × Value → H) :
    ReturnsInHanded {} Try.checked os 12 .any (Rows.cacheChargesSpec.pre6 enc Try.prog Try.f12 Rows.cacheChargesRow.domain false) (Rows.cacheChargesSpec.post enc Try.prog Try.f12 false true false false) := by
  refine returnsInHanded_of_change_sized (C := Try.checked) own_none started (by kernel_rfl) Try.func12
    (ChangeSpec.witness6 (enc := enc) (C := Try.checked) false ⟨#[], #[.int .i64 0, .slice none 0 0], []⟩ 8 (by kernel_rfl) (by kernel_rfl) (by kernel_rfl) (by kernel_rfl)) ?_
  intro W base args ds gs before hval0 hW hcnd hsz0 _
  have hval : ∀ (j : Nat) t v, Try.f12.params[j]? = some t → args[j]? = some v → Value.okWide Try.prog W .any base t v := hval0
  have hW' := hW
  obtain ⟨p, q, hA0, hV, rfl, hfz, hnd⟩ := hW
  have hA : DataW.TrodAll enc Try.prog W 0 (fun _ => true) true Try.f12.params.toList args.toList ds p := hA0
  rw [Try.params12] at hA hval
  obtain ⟨v0, vs0, d0, ds0, p0, q0, hargs, rfl, rfl, h0, r0⟩ := trodAll_cons hA
  obtain ⟨v1, vs1, d1, ds1, p1, q1, rfl, rfl, rfl, h1, r1⟩ := trodAll_cons r0
  obtain ⟨rfl, rfl, rfl⟩ := trodAll_nil r1
  obtain rfl : args = #[v0, v1] := by cases args; simp_all
  obtain ⟨a0, rfl, rfl, rfl, w0⟩ := open_int Try.underlying2 (hval 0 2 v0 rfl rfl) h0
  have hw1 : ∀ n ∈ d1.weights Try.prog 42, n ≤ reachBytes := fun n hn => by simpa using List.all_eq_true.1 hsz0 n (DataW.weights_mem_each (j := 1) (t := 42) rfl rfl n hn)
  obtain ⟨A, n, c, V, rfl, hnc, hcm, hrec, hV1⟩ := open_recs_sized Try.underlying42 Try.underlying46 (by kernel_rfl) (by kernel_rfl) (by decide) (hval 1 42 v1 rfl rfl) h1 hw1
  unfold maxLen at hcm
  obtain ⟨D, hD, bD⟩ := int_column_sized (j := 0) hV1 rfl Try.underlying3
  obtain ⟨F, hF, bF⟩ := int_column_sized (j := 1) hV1 rfl Try.underlying2
  obtain ⟨K, hK, bK⟩ := int_column_sized (j := 2) hV1 rfl Try.underlying3
  obtain ⟨S, hS, bS⟩ := str_column_sized (j := 3) hV1 rfl Try.underlying9
  obtain ⟨N, hN, bN⟩ := int_column_sized (j := 4) hV1 rfl Try.underlying2
  have hrec' := hrec.congr (V' := actRow D F K N S) (fun i hi j hj => by
    match j, hj with
    | 0, _ => exact hD i hi
    | 1, _ => exact hF i hi
    | 2, _ => exact hK i hi
    | 3, _ => exact hS i hi
    | 4, _ => exact hN i hi)
  refine (cache_charges a0 A n c D F K N S bF bK bN (fun i => Nat.le_trans (bS i) (by decide)) W (by omega) hnc hrec').mono fun e W' ⟨he, hc⟩ => ?_
  subst he
  exact ⟨_, rfl, law_post laid_out hW' rfl (by kernel_rfl) rfl Try.underlying4 rfl hc.below⟩

theorem over : Rows.cacheChargesRow.holds Try.pinned (OpenSpec.ofChange Rows.cacheChargesSpec) :=
  OpenClaim.holds_of_wide 12 Try.f12 rfl rfl rfl rfl rfl rfl rfl ⟨rfl, rfl, rfl, rfl, rfl⟩ rfl rfl rfl rfl rfl (by kernel_rfl) Try.func12 (by kernel_rfl)
    (of_decide_eq_true (by kernel_rfl)) (by unfold Func.isWrapper; first | (rw [if_pos (by decide +kernel)]; kernel_rfl) | (rw [if_neg (by decide +kernel)]; exact ⟨rfl, rfl⟩))
    (fun os started H enc _ => lifted os started H enc)

theorem proved : Rows.CacheChargesSaid := over
#print axioms proved
end Go.Proofs.Ytafdgncjfiiekaa.cacheCharges
