/-
  The statement VersionOverUptoSaid: whatever the input of bulk at most 1048576, the law returns true, and the input reads as it did. Condition: that bound, which the statement itself has.
-/
import Derived.Test.YtdjohhoofnogoaaVerP
import Derived.Test.YtdjohhoofnogoaaVerW
namespace Go.Proofs.Ytdjohhoofnogoaa.versionOver
open Go.ChangeShapes Go.WideShapes Go.ChangeAt Go.RowKit Go.Deep Go.Joins
set_option linter.unusedVariables false
set_option linter.unusedSimpArgs false

section
variable {H : Type} {enc : TypeId × Value → H} {P : Program}
theorem two_of {α : Type} {a : Array α} (h : a.size = 2) : ∃ x0 x1, a = #[x0, x1] := by
  obtain ⟨l⟩ := a
  match l, h with
  | [x0, x1], _ => exact ⟨x0, x1, rfl⟩
theorem open_strs2 {t e : TypeId} {W : World} {r : Reach} {b0 : Nat} {v : Value} {d : DataW H} {ps : List MemPlace} (ht : P.underlying t = some (.array 2 e)) (he : P.underlying e = some .string) (hC : P.cellsOf t = 2) (he1 : P.cellsOf e = 1)
    (hv : Value.okWide P W r b0 t v) (h : DataW.Trod enc P W 0 (fun _ => true) true t v d ps) :
    ∃ a b : ByteArray, v = .agg #[.string a, .string b] := by
  unfold Value.okWide at hv
  rw [ht] at hv
  obtain ⟨cs, rfl, hsz, _⟩ := hv
  obtain ⟨c0, c1, rfl⟩ := two_of (hsz.trans hC)
  obtain ⟨fuel, hf⟩ := h
  obtain ⟨xs, m, _, _, _, hxl, hff⟩ := DataW.trod_array ht hf
  have one : ∀ i c, i < 2 → ((Value.agg #[c0, c1]).cells.toList.drop i).take 1 = [c] → ∃ x : ByteArray, c = .string x := by
    intro i c hi hc
    have h1 := hff i hi
    rw [he1, Nat.mul_one, hc, List.getElem?_eq_getElem (by omega)] at h1
    obtain ⟨x, e, _⟩ := DataW.trod_string he h1
    simp only [List.cons.injEq, and_true] at e
    exact ⟨x, e⟩
  obtain ⟨x0, rfl⟩ := one 0 c0 (by omega) rfl
  obtain ⟨x1, rfl⟩ := one 1 c1 (by omega) rfl
  exact ⟨x0, x1, rfl⟩
end
set_option maxRecDepth 100000 in
theorem lifted (os : Os) (started : os.Started) (H : Type) (enc : TypeId × Value → H) (F : Stop.Interp) :
    ReturnsInHanded {} Try.checked os 6 .any ((Rows.OpenSpec.upto Rows.versionOverSpec).pre6 enc Try.prog Try.f6 Rows.versionOverUptoRow.domain false) (((Rows.OpenSpec.upto Rows.versionOverSpec).at F).post enc Try.prog Try.f6 false true false false) := by
  refine returnsInHanded_of_cond (C := Try.checked) (s := Rows.OpenSpec.upto Rows.versionOverSpec) (k := Rows.uptoSmall) rfl own_none started (by kernel_rfl) Try.func6
    (OpenSpec.witness (enc := enc) (C := Try.checked) (s := Rows.OpenSpec.upto Rows.versionOverSpec) (k := Rows.uptoSmall) rfl false ⟨#[], #[.slice none 0 0, .int .i64 0, .agg #[.string .empty, .string .empty]], []⟩ 8 (by kernel_rfl) (by kernel_rfl) (by kernel_rfl)
      (x := ([.nil, .lit (.int .i64 0), .agg [.lit (.string []), .lit (.string [])]], [], [])) (by kernel_rfl) rfl (by kernel_rfl)) ?_
  intro W base args ds gs before hval0 hW _ hk _
  have hval : ∀ (j : Nat) t v, Try.f6.params[j]? = some t → args[j]? = some v → Value.okWide Try.prog W .any base t v := hval0
  have hW' := hW
  obtain ⟨p, q, hA0, hV, rfl, hfz, hnd⟩ := hW
  have hA : DataW.TrodAll enc Try.prog W 0 (fun _ => true) true Try.f6.params.toList args.toList ds p := hA0
  rw [Try.params6] at hA hval
  obtain ⟨v0, vs0, d0, ds0, p0, q0, hargs, rfl, rfl, h0, r0⟩ := trodAll_cons hA
  obtain ⟨v1, vs1, d1, ds1, p1, q1, rfl, rfl, rfl, h1, r1⟩ := trodAll_cons r0
  obtain ⟨v2, vs2, d2, ds2, p2, q2, rfl, rfl, rfl, h2, r2⟩ := trodAll_cons r1
  obtain ⟨rfl, rfl, rfl⟩ := trodAll_nil r2
  obtain rfl : args = #[v0, v1, v2] := by cases args; simp_all
  obtain ⟨rfl, rfl⟩ := trodVars_none hV
  have hbulk : Rows.uptoBulkAll ([d0, d1, d2] ++ []) ≤ 1048576 := of_decide_eq_true hk
  have hb0 : Rows.uptoBulk d0 ≤ 1048576 := Nat.le_trans (bulk_mem (by simp)) hbulk
  obtain ⟨a0, n0, c0, rfl⟩ := okWide_slice Try.underlying22 (hval 0 22 v0 rfl rfl)
  obtain ⟨A, n, c, Ed, e0, hnc, hcm, hE, hF⟩ := eds_b (part_of (by rfl) h0 hb0)
  cases e0
  obtain ⟨lev, rfl, _⟩ := open_int Try.underlying3 (hval 1 3 v1 rfl rfl) h1
  obtain ⟨s0, s1, rfl⟩ := open_strs2 Try.underlying55 Try.underlying9 (by kernel_rfl) (by kernel_rfl) (hval 2 55 v2 rfl rfl) h2
  refine (ver_over_law a0 n0 c0 Ed lev s0 s1 W hnc hcm hE hF).mono fun e W' ⟨he, hc⟩ => ?_
  subst he
  exact ⟨_, rfl, law_post laid_out hW' rfl (by kernel_rfl) rfl Try.underlying4 rfl hc.below⟩

theorem over : Rows.versionOverUptoRow.holds Try.pinned (Rows.OpenSpec.upto Rows.versionOverSpec) :=
  OpenClaim.holds_of_cond 6 Try.f6 rfl rfl rfl rfl rfl rfl rfl ⟨rfl, rfl, rfl, rfl, rfl⟩ rfl rfl rfl rfl rfl (by kernel_rfl) Try.func6 (by kernel_rfl)
    (of_decide_eq_true (by kernel_rfl)) (by unfold Func.isWrapper; first | (rw [if_pos (by decide +kernel)]; kernel_rfl) | (rw [if_neg (by decide +kernel)]; exact ⟨rfl, rfl⟩))
    (fun os started H enc _ F => lifted os started H enc F)

theorem proved : Rows.VersionOverUptoSaid := over
#print axioms proved
end Go.Proofs.Ytdjohhoofnogoaa.versionOver
