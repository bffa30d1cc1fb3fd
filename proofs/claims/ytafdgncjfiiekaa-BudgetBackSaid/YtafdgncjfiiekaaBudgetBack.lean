/-
  The statement BudgetBackSaid: whatever the input, the law returns true, and the input reads as it did. No condition.
-/
import Derived.Test.YtafdgncjfiiekaaFrame
import Derived.Test.YtafdgncjfiiekaaBudB2
import Derived.Lib.SmallJoins
namespace Go.Proofs.Ytafdgncjfiiekaa.budgetBack
open Go.ChangeShapes Go.WideShapes Go.ChangeAt Go.RowKit Go.Deep Go.Joins
set_option linter.unusedVariables false

set_option maxRecDepth 100000 in
theorem lifted (os : Os) (started : os.Started) (H : Type) (enc : TypeId × Value → H) :
    ReturnsInHanded {} Try.checked os 4 .any (Rows.budgetBackSpec.pre6 enc Try.prog Try.f4 Rows.budgetBackRow.domain false) (Rows.budgetBackSpec.post enc Try.prog Try.f4 false true false false) := by
  refine returnsInHanded_of_change (C := Try.checked) own_none started (by kernel_rfl) Try.func4
    (ChangeSpec.witness6 (enc := enc) (C := Try.checked) false ⟨#[], #[.int .i64 0, .slice none 0 0, .agg #[.int .i64 0, .int .i64 0, .int .i64 0]], []⟩ 8 (by kernel_rfl) (by kernel_rfl) (by kernel_rfl) (by kernel_rfl)) ?_
  intro W base args ds gs before hval0 hW hcnd _
  have hval : ∀ (j : Nat) t v, Try.f4.params[j]? = some t → args[j]? = some v → Value.okWide Try.prog W .any base t v := hval0
  have hW' := hW
  obtain ⟨p, q, hA0, hV, rfl, hfz, hnd⟩ := hW
  have hA : DataW.TrodAll enc Try.prog W 0 (fun _ => true) true Try.f4.params.toList args.toList ds p := hA0
  rw [Try.params4] at hA hval
  obtain ⟨v0, vs0, d0, ds0, p0, q0, hargs, rfl, rfl, h0, r0⟩ := trodAll_cons hA
  obtain ⟨v1, vs1, d1, ds1, p1, q1, rfl, rfl, rfl, h1, r1⟩ := trodAll_cons r0
  obtain ⟨v2, vs2, d2, ds2, p2, q2, rfl, rfl, rfl, h2, r2⟩ := trodAll_cons r1
  obtain ⟨rfl, rfl, rfl⟩ := trodAll_nil r2
  obtain rfl : args = #[v0, v1, v2] := by cases args; simp_all
  obtain ⟨a0, rfl, rfl, rfl, w0⟩ := open_int Try.underlying2 (hval 0 2 v0 rfl rfl) h0
  obtain ⟨A, n, c, V, rfl, hnc, hcm, hrec, hV1⟩ := open_recs Try.underlying32 Try.underlying34 (by kernel_rfl) (by kernel_rfl) (by decide) (hval 1 32 v1 rfl rfl) h1
  unfold maxLen at hcm
  obtain ⟨D, hD, bD⟩ := int_column (j := 0) hV1 rfl Try.underlying3
  obtain ⟨K, hK, bK⟩ := int_column (j := 1) hV1 rfl Try.underlying3
  obtain ⟨N, hN, bN⟩ := int_column (j := 2) hV1 rfl Try.underlying2
  have hrec' := hrec.congr (V' := fun i j => match j with | 0 => .int .i64 (D i) | 1 => .int .i64 (K i) | _ => .int .i64 (N i)) (fun i hi j hj => by
    match j, hj with
    | 0, _ => exact hD i hi
    | 1, _ => exact hK i hi
    | 2, _ => exact hN i hi)
  obtain ⟨u0, u1, u2, y0, y1, y2, m, rfl, hd, hp, g0, g1, g2⟩ := open_agg3 Try.underlying34 (by kernel_rfl) (by kernel_rfl) (hval 2 34 v2 rfl rfl) h2
  obtain ⟨x0, e0, _, b0⟩ := DataW.trod_int Try.underlying3 g0
  obtain ⟨x1, e1, _, b1⟩ := DataW.trod_int Try.underlying3 g1
  obtain ⟨x2, e2, _, b2⟩ := DataW.trod_int Try.underlying2 g2
  simp only [List.cons.injEq, and_true] at e0 e1 e2
  subst e0 e1 e2
  refine (budget_back a0 A n c D K N (fun i => (bN i).2) x0 x1 x2 (int_bounds b2).2 W (by omega) hrec').mono fun e W' ⟨he, hc⟩ => ?_
  subst he
  exact ⟨_, rfl, law_post laid_out hW' rfl (by kernel_rfl) rfl Try.underlying4 rfl hc.below⟩

theorem over : Rows.budgetBackRow.holds Try.pinned (OpenSpec.ofChange Rows.budgetBackSpec) :=
  OpenClaim.holds_of_wide 4 Try.f4 rfl rfl rfl rfl rfl rfl rfl ⟨rfl, rfl, rfl, rfl, rfl⟩ rfl rfl rfl rfl rfl (by kernel_rfl) Try.func4 (by kernel_rfl)
    (of_decide_eq_true (by kernel_rfl)) (by unfold Func.isWrapper; first | (rw [if_pos (by decide +kernel)]; kernel_rfl) | (rw [if_neg (by decide +kernel)]; exact ⟨rfl, rfl⟩))
    (fun os started H enc _ => lifted os started H enc)

theorem proved : Rows.BudgetBackSaid := over
#print axioms proved
end Go.Proofs.Ytafdgncjfiiekaa.budgetBack
