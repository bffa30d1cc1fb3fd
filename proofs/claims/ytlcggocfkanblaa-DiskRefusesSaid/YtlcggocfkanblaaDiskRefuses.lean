/-
  The statement DiskRefusesSaid: whatever the input, the law returns true, and the input reads as it did. No condition.
-/
import Derived.Test.YtlcggocfkanblaaFrameS
import Derived.Test.YtlcggocfkanblaaDiskBh
import Derived.Test.YtlcggocfkanblaaFrameA
import Derived.Test.YtlcggocfkanblaaFrameJ
namespace Go.Proofs.Ytlcggocfkanblaa.diskRefuses
open Go.ChangeShapes Go.WideShapes Go.ChangeAt Go.RowKit Go.Deep Go.Joins
set_option linter.unusedVariables false

set_option maxRecDepth 100000 in
theorem lifted (os : Os) (started : os.Started) (H : Type) (enc : TypeId × Value → H) :
    ReturnsInHanded {} Try.checked os 6 .any (Rows.diskRefusesSpec.pre6 enc Try.prog Try.f6 Rows.diskRefusesRow.domain false) (Rows.diskRefusesSpec.post enc Try.prog Try.f6 false true false false) := by
  refine returnsInHanded_of_change_sized (C := Try.checked) own_none started (by kernel_rfl) Try.func6
    (ChangeSpec.witness6 (enc := enc) (C := Try.checked) false ⟨#[], #[.int .i64 0, .slice none 0 0, .agg #[.int .i64 0, .string ⟨#[]⟩, .string ⟨#[]⟩, .int .i64 0, .int .i64 0, .slice none 0 0]], []⟩ 8 (by kernel_rfl) (by kernel_rfl) (by kernel_rfl) (by kernel_rfl)) ?_
  intro W base args ds gs before hval0 hW hcnd hsz0 _
  have hval : ∀ (j : Nat) t v, Try.f6.params[j]? = some t → args[j]? = some v → Value.okWide Try.prog W .any base t v := hval0
  have hW' := hW
  obtain ⟨p, q, hA0, hV, rfl, hfz, hnd⟩ := hW
  have hA : DataW.TrodAll enc Try.prog W 0 (fun _ => true) true Try.f6.params.toList args.toList ds p := hA0
  rw [Try.params6] at hA hval
  obtain ⟨v0, vs0, d0, ds0, p0, q0, hargs, rfl, rfl, h0, r0⟩ := trodAll_cons hA
  obtain ⟨v1, vs1, d1, ds1, p1, q1, rfl, rfl, rfl, h1, r1⟩ := trodAll_cons r0
  obtain ⟨v2, vs2, d2, ds2, p2, q2, rfl, rfl, rfl, h2, r2⟩ := trodAll_cons r1
  obtain ⟨rfl, rfl, rfl⟩ := trodAll_nil r2
  obtain rfl : args = #[v0, v1, v2] := by cases args; simp_all
  obtain ⟨a0, rfl, rfl, rfl, w0⟩ := open_int Try.underlying3 (hval 0 3 v0 rfl rfl) h0
  have hw1 : ∀ n ∈ d1.weights Try.prog 43, n ≤ reachBytes := fun n hn => by simpa using List.all_eq_true.1 hsz0 n (DataW.weights_mem_each (j := 1) (t := 43) rfl rfl n hn)
  obtain ⟨A, n, c, V, rfl, hnc, hcm, hrec, hV1⟩ := open_recs_sized Try.underlying43 Try.underlying45 (by kernel_rfl) (by kernel_rfl) (by decide) (hval 1 43 v1 rfl rfl) h1 hw1
  unfold maxLen at hcm
  obtain ⟨D, hD, bD⟩ := int_column_sized (j := 0) hV1 rfl Try.underlying3
  obtain ⟨S, hS, bS⟩ := str_column_sized (j := 1) hV1 rfl Try.underlying9
  obtain ⟨T, hT, bT⟩ := str_column_sized (j := 2) hV1 rfl Try.underlying9
  obtain ⟨N, hN, bN⟩ := int_column_sized (j := 3) hV1 rfl Try.underlying3
  obtain ⟨M, hM, bM⟩ := int_column_sized (j := 4) hV1 rfl Try.underlying3
  obtain ⟨L, hL⟩ := ints_column_sized (j := 5) hV1 rfl Try.underlying23 Try.underlying3 (by kernel_rfl) (by kernel_rfl)
  have hrec' := hrec.congr (V' := dRow D N M S T fun i => V i 5) (fun i hi j hj => by
    match j, hj with
    | 0, _ => exact hD i hi
    | 1, _ => exact hS i hi
    | 2, _ => exact hT i hi
    | 3, _ => exact hN i hi
    | 4, _ => exact hM i hi
    | 5, _ => rfl)
  have hw2 : ∀ n ∈ d2.weights Try.prog 45, n ≤ reachBytes := fun n hn => by simpa using List.all_eq_true.1 hsz0 n (DataW.weights_mem_each (j := 2) (t := 45) rfl rfl n hn)
  obtain ⟨cs, rfl, hcs, hfl⟩ := open_agg_sized Try.underlying45 (by kernel_rfl) (by kernel_rfl) (hval 2 45 v2 rfl rfl) h2 hw2
  obtain ⟨u0, u1, u2, u3, u4, u5, rfl⟩ := array6 hcs
  obtain ⟨x0, rfl, g0⟩ := int_of_sized (hfl 0 _ rfl) Try.underlying3
  obtain ⟨x1, rfl, g1⟩ := str_of_sized (hfl 1 _ rfl) Try.underlying9
  obtain ⟨x2, rfl, g2⟩ := str_of_sized (hfl 2 _ rfl) Try.underlying9
  obtain ⟨x3, rfl, g3⟩ := int_of_sized (hfl 3 _ rfl) Try.underlying3
  obtain ⟨x4, rfl, g4⟩ := int_of_sized (hfl 4 _ rfl) Try.underlying3
  obtain ⟨y5, fuel5, hy5, hwy5⟩ := hfl 5 _ rfl
  obtain ⟨l0, hr0, _⟩ := ints_of Try.underlying23 Try.underlying3 (by kernel_rfl) (by kernel_rfl) hy5 hwy5
  refine (disk_refuses a0 A n c D N M S T (fun i => V i 5) L x0 x3 x4 x1 x2 u5 l0 (Nat.le_trans g1 (by decide)) (Nat.le_trans g2 (by decide)) g0 (int_bounds w0).2 bN bM (fun i => Nat.le_trans (bS i) (by decide)) (fun i => Nat.le_trans (bT i) (by decide)) W (by omega) hnc hL hrec' hr0).mono fun e W' ⟨he, hc⟩ => ?_
  subst he
  exact ⟨_, rfl, law_post laid_out hW' rfl (by kernel_rfl) rfl Try.underlying4 rfl hc.below⟩

theorem over : Rows.diskRefusesRow.holds Try.pinned (OpenSpec.ofChange Rows.diskRefusesSpec) :=
  OpenClaim.holds_of_wide 6 Try.f6 rfl rfl rfl rfl rfl rfl rfl ⟨rfl, rfl, rfl, rfl, rfl⟩ rfl rfl rfl rfl rfl (by kernel_rfl) Try.func6 (by kernel_rfl)
    (of_decide_eq_true (by kernel_rfl)) (by unfold Func.isWrapper; first | (rw [if_pos (by decide +kernel)]; kernel_rfl) | (rw [if_neg (by decide +kernel)]; exact ⟨rfl, rfl⟩))
    (fun os started H enc _ => lifted os started H enc)

theorem proved : Rows.DiskRefusesSaid := over
#print axioms proved
end Go.Proofs.Ytlcggocfkanblaa.diskRefuses
