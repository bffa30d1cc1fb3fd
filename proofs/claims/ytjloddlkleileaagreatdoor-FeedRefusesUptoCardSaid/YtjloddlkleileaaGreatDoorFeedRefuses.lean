/-
  The card of FeedRefuses, second form: whatever the input of bulk at most 1048576, the law returns true, and the input reads as it did; the listed tables and errors hold what the program's text lays. Condition: that bound, which the statement itself has.
-/
import Derived.Test.YtjloddlkleileaaGreatDoorFrfF
import Derived.Test.YtjloddlkleileaaGreatDoorFeeU
import Derived.Test.YtjloddlkleileaaGreatDoorFrfH
import Derived.Test.YtjloddlkleileaaGreatDoorFrfK
namespace Go.Proofs.YtjloddlkleileaaGreatDoor
open Go.RowKit Go.Shelf
set_option linter.unusedVariables false
set_option linter.unusedSimpArgs false
open Go.ChangeShapes Go.WideShapes Go.ChangeAt Go.Deep
theorem arr8 {cs : Array Value} (h : cs.size = 8) : ∃ a b c d e f g i, cs = #[a, b, c, d, e, f, g, i] := by
  obtain ⟨l⟩ := cs
  match l, h with
  | [a, b, c, d, e, f, g, i], _ => exact ⟨a, b, c, d, e, f, g, i, rfl⟩
section
variable {H : Type} {enc : TypeId × Value → H}
set_option maxRecDepth 100000 in
set_option maxHeartbeats 2000000 in
theorem conf_b {W : World} {r : Reach} {b0 B : Nat} {v : Value} {d : DataW H} {ps : List MemPlace} (hv : Value.okWide Tryz.prog W r b0 25 v) (h : DataW.Trod enc Tryz.prog W 0 (fun _ => true) true 25 v d ps) (hB : Rows.uptoBulk d ≤ B) :
    ∃ (n0 n1 n2 n3 n4 n5 n6 : Int) (cv : Value) (L : List Int), v = .agg #[.int .i64 n0, .int .i64 n1, .int .i64 n2, .int .i64 n3, .int .i64 n4, .int .i64 n5, .int .i64 n6, cv] ∧ CInts W cv L ∧ (-9223372036854775808 ≤ n0 ∧ n0 ≤ 9223372036854775807) ∧ (-9223372036854775808 ≤ n1 ∧ n1 ≤ 9223372036854775807) ∧ (-9223372036854775808 ≤ n2 ∧ n2 ≤ 9223372036854775807) ∧ (-9223372036854775808 ≤ n3 ∧ n3 ≤ 9223372036854775807) := by
  obtain ⟨cs, rfl, hsz, hf⟩ := open_agg_b Tryz.underlying25 (by kernel_rfl) (by kernel_rfl) hv h hB
  obtain ⟨c0, c1, c2, c3, c4, c5, c6, c7, rfl⟩ := arr8 hsz
  obtain ⟨x0, e0, b0⟩ := int_b Tryz.underlying2 (hf 0 _ rfl)
  obtain ⟨x1, e1, b1⟩ := int_b Tryz.underlying3 (hf 1 _ rfl)
  obtain ⟨x2, e2, b2⟩ := int_b Tryz.underlying3 (hf 2 _ rfl)
  obtain ⟨x3, e3, b3⟩ := int_b Tryz.underlying2 (hf 3 _ rfl)
  obtain ⟨x4, e4, _⟩ := int_b Tryz.underlying3 (hf 4 _ rfl)
  obtain ⟨x5, e5, _⟩ := int_b Tryz.underlying2 (hf 5 _ rfl)
  obtain ⟨x6, e6, _⟩ := int_b Tryz.underlying2 (hf 6 _ rfl)
  obtain ⟨dl, da, dc, e7, hdc, hdm, hdB, hdI, hdr⟩ := ints_b Tryz.underlying23 Tryz.underlying3 (by kernel_rfl) (hf 7 _ rfl)
  have e0' : c0 = .int .i64 x0 := e0
  have e1' : c1 = .int .i64 x1 := e1
  have e2' : c2 = .int .i64 x2 := e2
  have e3' : c3 = .int .i64 x3 := e3
  have e4' : c4 = .int .i64 x4 := e4
  have e5' : c5 = .int .i64 x5 := e5
  have e6' : c6 = .int .i64 x6 := e6
  have e7' : c7 = .slice da dl.length dc := e7
  subst e0' e1' e2' e3' e4' e5' e6' e7'
  refine ⟨x0, x1, x2, x3, x4, x5, x6, _, dl, rfl, ⟨da, dc, rfl, hdc, by unfold maxLen at hdm; omega, fun hp => ?_⟩, b0, b1, b2, b3⟩
  obtain ⟨b, off, e, _, hc⟩ := hdr (fun e => by rw [e] at hp; simp at hp)
  exact ⟨b, off, e, hc⟩
end
end Go.Proofs.YtjloddlkleileaaGreatDoor
namespace Go.Proofs.YtjloddlkleileaaGreatDoor.feedRefuses
open Go.ChangeShapes Go.WideShapes Go.ChangeAt Go.RowKit Go.Deep Go.Joins
set_option linter.unusedVariables false
set_option linter.unusedSimpArgs false

theorem laid_met (os : Os) : laidMetH Tryz.prog Rows.feedRefusesUptoRow.laid ((laidWorld os).forCall (fun _ _ => 0) ⟨#[], #[.string ⟨#[]⟩, .slice none 0 0, .agg #[.int .i64 0, .int .i64 0, .int .i64 0, .int .i64 0, .int .i64 0, .int .i64 0, .int .i64 0, .slice none 0 0]], []⟩).memory :=
  laidMet_of_run' 8 (by kernel_rfl) (by kernel_rfl)
theorem reads (os : Os) {H : Type} (enc : TypeId × Value → H) : ∃ places, DataW.whole enc Tryz.prog ((laidWorld os).forCall (fun _ _ => 0) ⟨#[], #[.string ⟨#[]⟩, .slice none 0 0, .agg #[.int .i64 0, .int .i64 0, .int .i64 0, .int .i64 0, .int .i64 0, .int .i64 0, .int .i64 0, .slice none 0 0]], []⟩).memory Tryz.f3.params.toList Rows.feedRefusesSpec.vars false #[Value.string ⟨#[]⟩, .slice none 0 0, .agg #[.int .i64 0, .int .i64 0, .int .i64 0, .int .i64 0, .int .i64 0, .int .i64 0, .int .i64 0, .slice none 0 0]].toList 8 = some ([.lit (.string []), .nil, .agg [.lit (.int .i64 0), .lit (.int .i64 0), .lit (.int .i64 0), .lit (.int .i64 0), .lit (.int .i64 0), .lit (.int .i64 0), .lit (.int .i64 0), .nil]], [], places) :=
  ⟨[], by kernel_rfl⟩

set_option maxRecDepth 100000 in
theorem lifted (os : Os) (started : os.Started) (H : Type) (enc : TypeId × Value → H) (F : Stop.Interp) :
    ReturnsInHanded {} Tryz.checked os 3 .any ((Rows.OpenSpec.upto Rows.feedRefusesSpec).preRow enc Tryz.prog Tryz.f3 Rows.feedRefusesUptoRow.domain false Rows.feedRefusesUptoRow.laid) (((Rows.OpenSpec.upto Rows.feedRefusesSpec).at F).post enc Tryz.prog Tryz.f3 false true false false) := by
  obtain ⟨places, hx⟩ := reads os enc
  refine returnsInHanded_of_row (C := Tryz.checked) (s := Rows.OpenSpec.upto Rows.feedRefusesSpec) own_none started (by kernel_rfl) Tryz.func3
    (witness_row_at (enc := enc) (C := Tryz.checked) false (laidWorld os) #[.string ⟨#[]⟩, .slice none 0 0, .agg #[.int .i64 0, .int .i64 0, .int .i64 0, .int .i64 0, .int .i64 0, .int .i64 0, .int .i64 0, .slice none 0 0]] rfl (by kernel_rfl) (by kernel_rfl) (by kernel_rfl)
      (OpenSpec.preRow_of_cond 8 hx (by kernel_rfl) (fun k hk => by cases hk; kernel_rfl) (by kernel_rfl) (laid_met os))) ?_
  intro W base args ds gs before hval0 hW _ hcond _ hL hsh _
  have hval : ∀ (j : Nat) t v, Tryz.f3.params[j]? = some t → args[j]? = some v → Value.okWide Tryz.prog W .any base t v := hval0
  have hW' := hW
  obtain ⟨p, q, hA0, hV, rfl, hfz, hnd⟩ := hW
  have hA : DataW.TrodAll enc Tryz.prog W 0 (fun _ => true) true Tryz.f3.params.toList args.toList ds p := hA0
  rw [Tryz.params3] at hA hval
  obtain ⟨v0, vs0, d0, ds0, p0, q0, hargs, rfl, rfl, h0, r0⟩ := trodAll_cons hA
  obtain ⟨v1, vs1, d1, ds1, p1, q1, rfl, rfl, rfl, h1, r1⟩ := trodAll_cons r0
  obtain ⟨v2, vs2, d2, ds2, p2, q2, rfl, rfl, rfl, h2, r2⟩ := trodAll_cons r1
  obtain ⟨rfl, rfl, rfl⟩ := trodAll_nil r2
  obtain rfl : args = #[v0, v1, v2] := by cases args; simp_all
  obtain ⟨rfl, rfl⟩ := trodVars_none hV
  have hbulk : Rows.uptoBulkAll ([d0, d1, d2] ++ []) ≤ 1048576 := of_decide_eq_true (hcond _ rfl)
  have hb0 : Rows.uptoBulk d0 ≤ 1048576 := Nat.le_trans (bulk_mem (by simp)) hbulk
  have hb2 : Rows.uptoBulk d2 ≤ 1048576 := Nat.le_trans (bulk_mem (by simp)) hbulk
  have hb1 : Rows.uptoBulk d1 ≤ 1048576 := Nat.le_trans (bulk_mem (by simp)) hbulk
  obtain ⟨k, rfl, _, _, _⟩ := Go.ChangeMaps.open_string Tryz.underlying9 (hval 0 9 v0 rfl rfl) h0
  obtain ⟨k', e, hk⟩ := str_b Tryz.underlying9 (part_of (by rfl) h0 hb0)
  injection e with e
  subst e
  obtain ⟨a1, n1, c1, rfl⟩ := okWide_slice Tryz.underlying22 (hval 1 22 v1 rfl rfl)
  obtain ⟨l, hl, hlen, hfit⟩ := items_b (Nat.le_refl _) (part_of (by rfl) h1 hb1)
  obtain ⟨n0, n1, n2, n3, n4, n5, n6, cv, L, rfl, hcv, g0, g1, g2, g3⟩ := conf_b (hval 2 25 v2 rfl rfl) h2 hb2
  have ht : Tab W := tab_of hL (by kernel_rfl)
  have he : ErrOk W := err_of hL (t1 := [105, 110, 118, 97, 108, 105, 100, 32, 115, 121, 110, 116, 97, 120]) (t2 := [118, 97, 108, 117, 101, 32, 111, 117, 116, 32, 111, 102, 32, 114, 97, 110, 103, 101]) (by kernel_rfl) (by kernel_rfl)
  refine (feed_refuses k _ l n0 n1 n2 n3 n4 n5 n6 g0 g1 g2 g3 cv L W hl (by omega) hcv ht he (max_of hsh)).mono fun e W' ⟨he, hc⟩ => ?_
  subst he
  exact ⟨_, rfl, law_post laid_out hW' rfl (by kernel_rfl) rfl Tryz.underlying4 rfl hc.below⟩

theorem said : Rows.FeedRefusesUptoSaid :=
  OpenClaim.holds_of_cond 3 Tryz.f3 rfl rfl rfl rfl rfl rfl rfl ⟨rfl, rfl, rfl, rfl, rfl⟩ rfl rfl rfl rfl rfl name3 Tryz.func3 facts inst3 wrap3
    (fun os started H enc _ F => by rw [OpenClaim.pre_eq_preRow]; exact lifted os started H enc F)

theorem plain (f : FuncId) (fn : Func) (hf : Tryz.pinned.checked.prog.funcNamed "oxbow/oxbowlaw23.FeedRefuses" = some f) (hfn : Tryz.pinned.checked.prog.funcs[f]? = some fn) :
    true = Tryz.pinned.checked.prog.looks [] ∧ ∀ (j : Nat) t, fn.params[j]? = some t → Tryz.pinned.checked.prog.wantsStandIn t = false := by
  obtain rfl : f = 3 := Option.some.inj ((show Tryz.prog.funcNamed "oxbow/oxbowlaw23.FeedRefuses" = some 3 by kernel_rfl).symm.trans hf) |>.symm
  obtain rfl : fn = Tryz.f3 := (Option.some.inj (Tryz.func3.symm.trans hfn)).symm
  refine ⟨looks0, fun j t ht => ?_⟩
  rw [Tryz.params3] at ht
  have hm := Array.mem_of_getElem? ht
  have h2 : t = 9 ∨ t = 22 ∨ t = 25 := by simpa using hm
  rcases h2 with rfl | rfl | rfl
  · exact (show Tryz.prog.wantsStandIn 9 = false by kernel_rfl)
  · exact (show Tryz.prog.wantsStandIn 22 = false by kernel_rfl)
  · exact (show Tryz.prog.wantsStandIn 25 = false by kernel_rfl)

theorem proved : Rows.FeedRefusesUptoCardSaid :=
  Claim7.holds_tied_plain_at .later [] _ _ _ _ said (fun _ h => by cases h) text0 (fun _ h => by cases h) feedRefusesUpto_row_tie rfl ⟨rfl, rfl⟩ main0 rfl plain goes0
#print axioms proved
end Go.Proofs.YtjloddlkleileaaGreatDoor.feedRefuses
