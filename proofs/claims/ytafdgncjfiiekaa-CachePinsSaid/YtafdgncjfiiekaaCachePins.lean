/-
  The statement CachePinsSaid: whatever the input, the law returns true, and the input reads as it did. No condition.
-/
import Derived.Test.YtafdgncjfiiekaaFrameS
import Derived.Test.YtafdgncjfiiekaaCacheQ
import Derived.Test.YtafdgncjfiiekaaFrameA
namespace Go.Proofs.Ytafdgncjfiiekaa.cachePins
open Go.ChangeShapes Go.WideShapes Go.ChangeAt Go.RowKit Go.Deep Go.Joins
set_option linter.unusedVariables false

set_option maxRecDepth 100000 in
theorem lifted (os : Os) (started : os.Started) (H : Type) (enc : TypeId × Value → H) :
    ReturnsInHanded {} Try.checked os 9 .any (Rows.cachePinsSpec.pre6 enc Try.prog Try.f9 Rows.cachePinsRow.domain false) (Rows.cachePinsSpec.post enc Try.prog Try.f9 false true false false) := by
  refine returnsInHanded_of_change_sized (C := Try.checked) own_none started (by kernel_rfl) Try.func9
    (ChangeSpec.witness6 (enc := enc) (C := Try.checked) false ⟨#[], #[.int .i64 0, .agg #[.int .i64 0, .int .i64 0, .int .i64 0, .string ⟨#[]⟩, .int .i64 0], .slice none 0 0], []⟩ 8 (by kernel_rfl) (by kernel_rfl) (by kernel_rfl) (by kernel_rfl)) ?_
  intro W base args ds gs before hval0 hW hcnd hsz0 _
  have hval : ∀ (j : Nat) t v, Try.f9.params[j]? = some t → args[j]? = some v → Value.okWide Try.prog W .any base t v := hval0
  have hW' := hW
  obtain ⟨p, q, hA0, hV, rfl, hfz, hnd⟩ := hW
  have hA : DataW.TrodAll enc Try.prog W 0 (fun _ => true) true Try.f9.params.toList args.toList ds p := hA0
  rw [Try.params9] at hA hval
  obtain ⟨v0, vs0, d0, ds0, p0, q0, hargs, rfl, rfl, h0, r0⟩ := trodAll_cons hA
  obtain ⟨v1, vs1, d1, ds1, p1, q1, rfl, rfl, rfl, h1, r1⟩ := trodAll_cons r0
  obtain ⟨v2, vs2, d2, ds2, p2, q2, rfl, rfl, rfl, h2, r2⟩ := trodAll_cons r1
  obtain ⟨rfl, rfl, rfl⟩ := trodAll_nil r2
  obtain rfl : args = #[v0, v1, v2] := by cases args; simp_all
  obtain ⟨a0, rfl, rfl, rfl, w0⟩ := open_int Try.underlying2 (hval 0 2 v0 rfl rfl) h0
  have hw1 : ∀ n ∈ d1.weights Try.prog 46, n ≤ reachBytes := fun n hn => by simpa using List.all_eq_true.1 hsz0 n (DataW.weights_mem_each (j := 1) (t := 46) rfl rfl n hn)
  obtain ⟨cs, rfl, hcs, hfl⟩ := open_agg_sized Try.underlying46 (by kernel_rfl) (by kernel_rfl) (hval 1 46 v1 rfl rfl) h1 hw1
  obtain ⟨u0, u1, u2, u3, u4, rfl⟩ := array5 hcs
  obtain ⟨x0, rfl, g0⟩ := int_of_sized (hfl 0 _ rfl) Try.underlying3
  obtain ⟨x1, rfl, g1⟩ := int_of_sized (hfl 1 _ rfl) Try.underlying2
  obtain ⟨x2, rfl, g2⟩ := int_of_sized (hfl 2 _ rfl) Try.underlying3
  obtain ⟨x3, rfl, g3⟩ := str_of_sized (hfl 3 _ rfl) Try.underlying9
  obtain ⟨x4, rfl, g4⟩ := int_of_sized (hfl 4 _ rfl) Try.underlying2
  have hw2 : ∀ n ∈ d2.weights Try.prog 42, n ≤ reachBytes := fun n hn => by simpa using List.all_eq_true.1 hsz0 n (DataW.weights_mem_each (j := 2) (t := 42) rfl rfl n hn)
  obtain ⟨A, n, c, V, rfl, hnc, hcm, hrec, hV1⟩ := open_recs_sized Try.underlying42 Try.underlying46 (by kernel_rfl) (by kernel_rfl) (by decide) (hval 2 42 v2 rfl rfl) h2 hw2
  unfold maxLen at hcm
  obtain ⟨D, hD, bD⟩ := int_column_sized (j := 0) hV1 rfl Try.underlying3
  obtain ⟨F, hF, bF⟩ := int_column_sized (j := 1) hV1 rfl Try.underlying2
  obtain ⟨K, hK, bK⟩ := int_column_sized (j := 2) hV1 rfl Try.underlying3
  obtain ⟨S, hS, bS⟩ := str_column_sized (j := 3) hV1 rfl Try.underlying9
  obtain ⟨N, hN, bN⟩ := int_column_sized (j := 4) hV1 rfl Try.underlying2
  have hrec' := hrec.congr (V' := actRow D F K N S) (fun i hi j hj => by
    match j, hj with
    | 0, _ => exact hD i hi
    | 1, _ => exact hF i hi
    | 2, _ => exact hK i hi
    | 3, _ => exact hS i hi
    | 4, _ => exact hN i hi)
  refine (cache_pins a0 x0 x1 x2 x4 x3 g1 g2 (Nat.le_trans g3 (by decide)) A n c D F K N S bF bK (fun i => Nat.le_trans (bS i) (by decide)) W (by omega) hnc hrec').mono fun e W' ⟨he, hc⟩ => ?_
  subst he
  exact ⟨_, rfl, law_post laid_out hW' rfl (by kernel_rfl) rfl Try.underlying4 rfl hc.below⟩

theorem over : Rows.cachePinsRow.holds Try.pinned (OpenSpec.ofChange Rows.cachePinsSpec) :=
  OpenClaim.holds_of_wide 9 Try.f9 rfl rfl rfl rfl rfl rfl rfl ⟨rfl, rfl, rfl, rfl, rfl⟩ rfl rfl rfl rfl rfl (by kernel_rfl) Try.func9 (by kernel_rfl)
    (of_decide_eq_true (by kernel_rfl)) (by unfold Func.isWrapper; first | (rw [if_pos (by decide +kernel)]; kernel_rfl) | (rw [if_neg (by decide +kernel)]; exact ⟨rfl, rfl⟩))
    (fun os started H enc _ => lifted os started H enc)

theorem proved : Rows.CachePinsSaid := over
#print axioms proved
end Go.Proofs.Ytafdgncjfiiekaa.cachePins
