/-
  The statement PickFitsUptoSaid: whatever the input of bulk at most 1048576, the law returns true, and the input reads as it did. Condition: that bound, which the statement itself has.
-/
import Derived.Test.YtkhgfmmcjoglkaaVerP
import Derived.Test.YtkhgfmmcjoglkaaFrameW
import Derived.Test.YtkhgfmmcjoglkaaPickG
namespace Go.Proofs.Ytkhgfmmcjoglkaa.pickFits
open Go.ChangeShapes Go.WideShapes Go.ChangeAt Go.RowKit Go.Deep Go.Joins
set_option linter.unusedVariables false
set_option linter.unusedSimpArgs false

set_option maxRecDepth 100000 in
theorem lifted (os : Os) (started : os.Started) (H : Type) (enc : TypeId × Value → H) (F : Stop.Interp) :
    ReturnsInHanded {} Try.checked os 3 .any ((Rows.OpenSpec.upto Rows.pickFitsSpec).pre6 enc Try.prog Try.f3 Rows.pickFitsUptoRow.domain false) (((Rows.OpenSpec.upto Rows.pickFitsSpec).at F).post enc Try.prog Try.f3 false true false false) := by
  refine returnsInHanded_of_cond (C := Try.checked) (s := Rows.OpenSpec.upto Rows.pickFitsSpec) (k := Rows.uptoSmall) rfl own_none started (by kernel_rfl) Try.func3
    (OpenSpec.witness (enc := enc) (C := Try.checked) (s := Rows.OpenSpec.upto Rows.pickFitsSpec) (k := Rows.uptoSmall) rfl false ⟨#[], #[.slice none 0 0, .agg #[.int .i64 0, .int .i64 0, .int .i64 0], .agg #[.string .empty, .string .empty, .string .empty, .string .empty]], []⟩ 8 (by kernel_rfl) (by kernel_rfl) (by kernel_rfl)
      (x := ([.nil, .agg [.lit (.int .i64 0), .lit (.int .i64 0), .lit (.int .i64 0)], .agg [.lit (.string []), .lit (.string []), .lit (.string []), .lit (.string [])]], [], [])) (by kernel_rfl) rfl (by kernel_rfl)) ?_
  intro W base args ds gs before hval0 hW _ hk _
  have hval : ∀ (j : Nat) t v, Try.f3.params[j]? = some t → args[j]? = some v → Value.okWide Try.prog W .any base t v := hval0
  have hW' := hW
  obtain ⟨p, q, hA0, hV, rfl, hfz, hnd⟩ := hW
  have hA : DataW.TrodAll enc Try.prog W 0 (fun _ => true) true Try.f3.params.toList args.toList ds p := hA0
  rw [Try.params3] at hA hval
  obtain ⟨v0, vs0, d0, ds0, p0, q0, hargs, rfl, rfl, h0, r0⟩ := trodAll_cons hA
  obtain ⟨v1, vs1, d1, ds1, p1, q1, rfl, rfl, rfl, h1, r1⟩ := trodAll_cons r0
  obtain ⟨v2, vs2, d2, ds2, p2, q2, rfl, rfl, rfl, h2, r2⟩ := trodAll_cons r1
  obtain ⟨rfl, rfl, rfl⟩ := trodAll_nil r2
  obtain rfl : args = #[v0, v1, v2] := by cases args; simp_all
  obtain ⟨rfl, rfl⟩ := trodVars_none hV
  have hbulk : Rows.uptoBulkAll ([d0, d1, d2] ++ []) ≤ 1048576 := of_decide_eq_true hk
  have hb0 : Rows.uptoBulk d0 ≤ 1048576 := Nat.le_trans (bulk_mem (by simp)) hbulk
  obtain ⟨a0, n0, c0, rfl⟩ := okWide_slice Try.underlying22 (hval 0 22 v0 rfl rfl)
  obtain ⟨A, n, c, Ed, e0, hnc, hcm, hE, hF⟩ := eds_b (part_of (by rfl) h0 hb0)
  cases e0
  obtain ⟨cs, rfl, hcs, hfl⟩ := open_agg_plain Try.underlying24 (by kernel_rfl) (by kernel_rfl) (hval 1 24 v1 rfl rfl) h1
  obtain ⟨x0, x1, x2, rfl⟩ := array3 hcs
  obtain ⟨z, rfl, gz⟩ := int_plain (hfl 0 _ rfl) Try.underlying3
  obtain ⟨b, rfl, gb⟩ := int_plain (hfl 1 _ rfl) Try.underlying2
  obtain ⟨r, rfl, gr⟩ := int_plain (hfl 2 _ rfl) Try.underlying2
  obtain ⟨s0, s1, s2, s3, rfl⟩ := open_strs4 Try.underlying25 Try.underlying9 (by kernel_rfl) (by kernel_rfl) (hval 2 25 v2 rfl rfl) h2
  refine (pick_fits a0 n0 c0 Ed z b r gz gb gr s0 s1 s2 s3 W hnc hcm hE hF).mono fun e W' ⟨he, hc⟩ => ?_
  subst he
  exact ⟨_, rfl, law_post laid_out hW' rfl (by kernel_rfl) rfl Try.underlying4 rfl hc.below⟩

theorem over : Rows.pickFitsUptoRow.holds Try.pinned (Rows.OpenSpec.upto Rows.pickFitsSpec) :=
  OpenClaim.holds_of_cond 3 Try.f3 rfl rfl rfl rfl rfl rfl rfl ⟨rfl, rfl, rfl, rfl, rfl⟩ rfl rfl rfl rfl rfl (by kernel_rfl) Try.func3 (by kernel_rfl)
    (of_decide_eq_true (by kernel_rfl)) (by unfold Func.isWrapper; first | (rw [if_pos (by decide +kernel)]; kernel_rfl) | (rw [if_neg (by decide +kernel)]; exact ⟨rfl, rfl⟩))
    (fun os started H enc _ F => lifted os started H enc F)

theorem proved : Rows.PickFitsUptoSaid := over
#print axioms proved
end Go.Proofs.Ytkhgfmmcjoglkaa.pickFits
