/-
  The statement VersionPutsUptoSaid: whatever the input of bulk at most 1048576, the law returns true, and the input reads as it did. Condition: that bound, which the statement itself has.
-/
import Derived.Test.YtahahginmgidjaaVarP
namespace Go.Proofs.Ytahahginmgidjaa.versionPuts
open Go.ChangeShapes Go.WideShapes Go.ChangeAt Go.RowKit Go.Deep Go.Joins
set_option linter.unusedVariables false
set_option linter.unusedSimpArgs false

set_option maxRecDepth 100000 in
theorem lifted (os : Os) (started : os.Started) (H : Type) (enc : TypeId × Value → H) (F : Stop.Interp) :
    ReturnsInHanded {} Try.checked os 3 .any ((Rows.OpenSpec.upto Rows.versionPutsSpec).pre6 enc Try.prog Try.f3 Rows.versionPutsUptoRow.domain false) (((Rows.OpenSpec.upto Rows.versionPutsSpec).at F).post enc Try.prog Try.f3 false true false false) := by
  refine returnsInHanded_of_cond (C := Try.checked) (s := Rows.OpenSpec.upto Rows.versionPutsSpec) (k := Rows.uptoSmall) rfl own_none started (by kernel_rfl) Try.func3
    (OpenSpec.witness (enc := enc) (C := Try.checked) (s := Rows.OpenSpec.upto Rows.versionPutsSpec) (k := Rows.uptoSmall) rfl false ⟨#[], #[.agg #[.slice none 0 0, .slice none 0 0, .int .i64 0, .int .i64 0, .int .i64 0], .string .empty], []⟩ 8 (by kernel_rfl) (by kernel_rfl) (by kernel_rfl)
      (x := ([.agg [.nil, .nil, .lit (.int .i64 0), .lit (.int .i64 0), .lit (.int .i64 0)], .lit (.string [])], [], [])) (by kernel_rfl) rfl (by kernel_rfl)) ?_
  intro W base args ds gs before hval0 hW _ hk _
  have hval : ∀ (j : Nat) t v, Try.f3.params[j]? = some t → args[j]? = some v → Value.okWide Try.prog W .any base t v := hval0
  have hW' := hW
  obtain ⟨p, q, hA0, hV, rfl, hfz, hnd⟩ := hW
  have hA : DataW.TrodAll enc Try.prog W 0 (fun _ => true) true Try.f3.params.toList args.toList ds p := hA0
  rw [Try.params3] at hA hval
  obtain ⟨v0, vs0, d0, ds0, p0, q0, hargs, rfl, rfl, h0, r0⟩ := trodAll_cons hA
  obtain ⟨v1, vs1, d1, ds1, p1, q1, rfl, rfl, rfl, h1, r1⟩ := trodAll_cons r0
  obtain ⟨rfl, rfl, rfl⟩ := trodAll_nil r1
  obtain rfl : args = #[v0, v1] := by cases args; simp_all
  obtain ⟨rfl, rfl⟩ := trodVars_none hV
  have hbulk : Rows.uptoBulkAll ([d0, d1] ++ []) ≤ 1048576 := of_decide_eq_true hk
  have hb0 : Rows.uptoBulk d0 ≤ 1048576 := Nat.le_trans (bulk_mem (by simp)) hbulk
  have hb1 : Rows.uptoBulk d1 ≤ 1048576 := Nat.le_trans (bulk_mem (by simp)) hbulk
  obtain ⟨E, av, dv, rfl, ha, hd, hE⟩ := edit_b (Nat.le_refl _) (hval 0 25 v0 rfl rfl) h0 hb0
  obtain ⟨s, rfl, _, _, _⟩ := Go.ChangeMaps.open_string Try.underlying9 (hval 1 9 v1 rfl rfl) h1
  obtain ⟨s', e, hs⟩ := str_b Try.underlying9 (part_of (by rfl) h1 hb1)
  injection e with e
  subst e
  refine (ver_puts E av dv s W hE ha hd (by omega)).mono fun e W' ⟨he, hc⟩ => ?_
  subst he
  exact ⟨_, rfl, law_post laid_out hW' rfl (by kernel_rfl) rfl Try.underlying4 rfl hc.below⟩

theorem over : Rows.versionPutsUptoRow.holds Try.pinned (Rows.OpenSpec.upto Rows.versionPutsSpec) :=
  OpenClaim.holds_of_cond 3 Try.f3 rfl rfl rfl rfl rfl rfl rfl ⟨rfl, rfl, rfl, rfl, rfl⟩ rfl rfl rfl rfl rfl (by kernel_rfl) Try.func3 (by kernel_rfl)
    (of_decide_eq_true (by kernel_rfl)) (by unfold Func.isWrapper; first | (rw [if_pos (by decide +kernel)]; kernel_rfl) | (rw [if_neg (by decide +kernel)]; exact ⟨rfl, rfl⟩))
    (fun os started H enc _ F => lifted os started H enc F)

theorem proved : Rows.VersionPutsUptoSaid := over
#print axioms proved
end Go.Proofs.Ytahahginmgidjaa.versionPuts
