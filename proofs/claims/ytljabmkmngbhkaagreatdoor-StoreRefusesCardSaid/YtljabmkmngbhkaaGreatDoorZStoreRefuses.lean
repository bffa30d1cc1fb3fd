/-
  The card of StoreRefuses: whatever the input, the law returns true, and the input reads as it did; the listed tables and errors hold what the program's text lays. No condition of ours.
-/
import Derived.Test.YtljabmkmngbhkaaGreatDoorZMg00
import Derived.SizedLaws
import Derived.Test.YtljabmkmngbhkaaGreatDoorZMg13
import Derived.Test.YtljabmkmngbhkaaGreatDoorZStoN
import Derived.Test.YtljabmkmngbhkaaGreatDoorZStfH
import Derived.Test.YtljabmkmngbhkaaGreatDoorZStfK
namespace Go.Proofs.YtljabmkmngbhkaaGreatDoor
open Go.ChangeShapes Go.WideShapes Go.ChangeAt Go.RowKit Go.Deep
set_option linter.unusedVariables false
section
variable {H : Type} {enc : TypeId × Value → H}
theorem array9 {α : Type} {a : Array α} (h : a.size = 9) : ∃ x0 x1 x2 x3 x4 x5 x6 x7 x8, a = #[x0, x1, x2, x3, x4, x5, x6, x7, x8] := by
  obtain ⟨l⟩ := a
  match l, h with
  | [x0, x1, x2, x3, x4, x5, x6, x7, x8], _ => exact ⟨x0, x1, x2, x3, x4, x5, x6, x7, x8, rfl⟩
set_option maxRecDepth 100000 in
set_option maxHeartbeats 2000000 in
theorem conf9 {W : World} {r : Reach} {b0 : Nat} {v : Value} {d : DataW H} {ps : List MemPlace} (hv : Value.okWide Tryz.prog W r b0 24 v) (h : DataW.Trod enc Tryz.prog W 0 (fun _ => true) true 24 v d ps) (hw : ∀ n ∈ d.weights Tryz.prog 24, n ≤ reachBytes) :
    ∃ (n0 n1 n2 n3 n4 n5 n6 n7 : Int) (cv : Value), v = .agg #[.int .i64 n0, .int .i64 n1, .int .i64 n2, .int .i64 n3, .int .i64 n4, .int .i64 n5, .int .i64 n6, .int .i64 n7, cv] := by
  obtain ⟨cs, rfl, hsz, hf⟩ := open_agg_sized Tryz.underlying24 (by kernel_rfl) (by kernel_rfl) hv h hw
  obtain ⟨c0, c1, c2, c3, c4, c5, c6, c7, c8, rfl⟩ := array9 hsz
  obtain ⟨x0, e0, _⟩ := int_of_sized (hf 0 _ rfl) Tryz.underlying2
  obtain ⟨x1, e1, _⟩ := int_of_sized (hf 1 _ rfl) Tryz.underlying2
  obtain ⟨x2, e2, _⟩ := int_of_sized (hf 2 _ rfl) Tryz.underlying3
  obtain ⟨x3, e3, _⟩ := int_of_sized (hf 3 _ rfl) Tryz.underlying3
  obtain ⟨x4, e4, _⟩ := int_of_sized (hf 4 _ rfl) Tryz.underlying2
  obtain ⟨x5, e5, _⟩ := int_of_sized (hf 5 _ rfl) Tryz.underlying3
  obtain ⟨x6, e6, _⟩ := int_of_sized (hf 6 _ rfl) Tryz.underlying2
  obtain ⟨x7, e7, _⟩ := int_of_sized (hf 7 _ rfl) Tryz.underlying2
  have e0' : c0 = .int .i64 x0 := e0
  have e1' : c1 = .int .i64 x1 := e1
  have e2' : c2 = .int .i64 x2 := e2
  have e3' : c3 = .int .i64 x3 := e3
  have e4' : c4 = .int .i64 x4 := e4
  have e5' : c5 = .int .i64 x5 := e5
  have e6' : c6 = .int .i64 x6 := e6
  have e7' : c7 = .int .i64 x7 := e7
  subst e0' e1' e2' e3' e4' e5' e6' e7'
  exact ⟨x0, x1, x2, x3, x4, x5, x6, x7, c8, rfl⟩
set_option maxRecDepth 100000 in
set_option maxHeartbeats 2000000 in
theorem step5 {W : World} {r : Reach} {b0 : Nat} {v : Value} {d : DataW H} {ps : List MemPlace} (hv : Value.okWide Tryz.prog W r b0 27 v) (h : DataW.Trod enc Tryz.prog W 0 (fun _ => true) true 27 v d ps) (hw : ∀ n ∈ d.weights Tryz.prog 27, n ≤ reachBytes) :
    ∃ (m0 : Int) (iv : Value) (s1 s2 : ByteArray) (m4 : Int), v = .agg #[.int .i64 m0, iv, .string s1, .string s2, .int .i64 m4] := by
  obtain ⟨cs, rfl, hsz, hf⟩ := open_agg_sized Tryz.underlying27 (by kernel_rfl) (by kernel_rfl) hv h hw
  obtain ⟨c0, c1, c2, c3, c4, rfl⟩ := array5 hsz
  obtain ⟨x0, e0, _⟩ := int_of_sized (hf 0 _ rfl) Tryz.underlying3
  obtain ⟨x2, e2, _⟩ := str_of_sized (hf 2 _ rfl) Tryz.underlying9
  obtain ⟨x3, e3, _⟩ := str_of_sized (hf 3 _ rfl) Tryz.underlying9
  obtain ⟨x4, e4, _⟩ := int_of_sized (hf 4 _ rfl) Tryz.underlying2
  have e0' : c0 = .int .i64 x0 := e0
  have e2' : c2 = .string x2 := e2
  have e3' : c3 = .string x3 := e3
  have e4' : c4 = .int .i64 x4 := e4
  subst e0' e2' e3' e4'
  exact ⟨x0, c1, x2, x3, x4, rfl⟩
end
end Go.Proofs.YtljabmkmngbhkaaGreatDoor
namespace Go.Proofs.YtljabmkmngbhkaaGreatDoor.storeRefuses
open Go.ChangeShapes Go.WideShapes Go.ChangeAt Go.RowKit Go.Deep Go.Joins
set_option linter.unusedVariables false
set_option linter.unusedSimpArgs false

theorem laid_met (os : Os) : laidMetH Tryz.prog Rows.storeRefusesRow.laid ((laidWorld os).forCall (fun _ _ => 0) ⟨#[], #[.agg #[.int .i64 0, .int .i64 0, .int .i64 0, .int .i64 0, .int .i64 0, .int .i64 0, .int .i64 0, .int .i64 0, .slice none 0 0], .agg #[.int .i64 0, .slice none 0 0, .string ⟨#[]⟩, .string ⟨#[]⟩, .int .i64 0]], []⟩).memory :=
  laidMet_of_run' 8 (by kernel_rfl) (by kernel_rfl)
theorem reads (os : Os) {H : Type} (enc : TypeId × Value → H) : ∃ places, DataW.whole enc Tryz.prog ((laidWorld os).forCall (fun _ _ => 0) ⟨#[], #[.agg #[.int .i64 0, .int .i64 0, .int .i64 0, .int .i64 0, .int .i64 0, .int .i64 0, .int .i64 0, .int .i64 0, .slice none 0 0], .agg #[.int .i64 0, .slice none 0 0, .string ⟨#[]⟩, .string ⟨#[]⟩, .int .i64 0]], []⟩).memory Tryz.f3.params.toList Rows.storeRefusesSpec.vars false #[Value.agg #[.int .i64 0, .int .i64 0, .int .i64 0, .int .i64 0, .int .i64 0, .int .i64 0, .int .i64 0, .int .i64 0, .slice none 0 0], .agg #[.int .i64 0, .slice none 0 0, .string ⟨#[]⟩, .string ⟨#[]⟩, .int .i64 0]].toList 8 = some ([.agg [.lit (.int .i64 0), .lit (.int .i64 0), .lit (.int .i64 0), .lit (.int .i64 0), .lit (.int .i64 0), .lit (.int .i64 0), .lit (.int .i64 0), .lit (.int .i64 0), .nil], .agg [.lit (.int .i64 0), .nil, .lit (.string []), .lit (.string []), .lit (.int .i64 0)]], [], places) :=
  ⟨[], by kernel_rfl⟩

set_option maxRecDepth 100000 in
theorem lifted (os : Os) (started : os.Started) (H : Type) (enc : TypeId × Value → H) (F : Stop.Interp) :
    ReturnsInHanded {} Tryz.checked os 3 .any ((OpenSpec.ofChange Rows.storeRefusesSpec).preRow enc Tryz.prog Tryz.f3 Rows.storeRefusesRow.domain false Rows.storeRefusesRow.laid) (((OpenSpec.ofChange Rows.storeRefusesSpec).at F).post enc Tryz.prog Tryz.f3 false true false false) := by
  obtain ⟨places, hx⟩ := reads os enc
  refine returnsInHanded_of_row (C := Tryz.checked) (s := OpenSpec.ofChange Rows.storeRefusesSpec) own_none started (by kernel_rfl) Tryz.func3
    (witness_row_at (enc := enc) (C := Tryz.checked) false (laidWorld os) #[.agg #[.int .i64 0, .int .i64 0, .int .i64 0, .int .i64 0, .int .i64 0, .int .i64 0, .int .i64 0, .int .i64 0, .slice none 0 0], .agg #[.int .i64 0, .slice none 0 0, .string ⟨#[]⟩, .string ⟨#[]⟩, .int .i64 0]] rfl (by kernel_rfl) (by kernel_rfl) (by kernel_rfl)
      (OpenSpec.preRow_of_cond 8 hx (by kernel_rfl) (fun k hk => by cases hk) (by kernel_rfl) (laid_met os))) ?_
  intro W base args ds gs before hval0 hW _ _ hsz0 hL hsh _
  have hval : ∀ (j : Nat) t v, Tryz.f3.params[j]? = some t → args[j]? = some v → Value.okWide Tryz.prog W .any base t v := hval0
  have hW' := hW
  obtain ⟨p, q, hA0, hV, rfl, hfz, hnd⟩ := hW
  have hA : DataW.TrodAll enc Tryz.prog W 0 (fun _ => true) true Tryz.f3.params.toList args.toList ds p := hA0
  rw [Tryz.params3] at hA hval
  obtain ⟨v0, vs0, d0, ds0, p0, q0, hargs, rfl, rfl, h0, r0⟩ := trodAll_cons hA
  obtain ⟨v1, vs1, d1, ds1, p1, q1, rfl, rfl, rfl, h1, r1⟩ := trodAll_cons r0
  obtain ⟨rfl, rfl, rfl⟩ := trodAll_nil r1
  obtain rfl : args = #[v0, v1] := by cases args; simp_all
  obtain ⟨rfl, rfl⟩ := trodVars_none hV
  have hw0 : ∀ n ∈ d0.weights Tryz.prog 24, n ≤ reachBytes := fun n hn => by simpa using List.all_eq_true.1 hsz0 n (DataW.weights_mem_each (j := 0) (t := 24) rfl rfl n hn)
  have hw1 : ∀ n ∈ d1.weights Tryz.prog 27, n ≤ reachBytes := fun n hn => by simpa using List.all_eq_true.1 hsz0 n (DataW.weights_mem_each (j := 1) (t := 27) rfl rfl n hn)
  obtain ⟨n0, n1, n2, n3, n4, n5, n6, n7, cv, rfl⟩ := conf9 (hval 0 24 v0 rfl rfl) h0 hw0
  obtain ⟨m0, iv, s1, s2, m4, rfl⟩ := step5 (hval 1 27 v1 rfl rfl) h1 hw1
  have ht : Tab W := tab_of hL (by kernel_rfl)
  have he : ErrOk W := err_of hL (t1 := [105, 110, 118, 97, 108, 105, 100, 32, 115, 121, 110, 116, 97, 120]) (t2 := [118, 97, 108, 117, 101, 32, 111, 117, 116, 32, 111, 102, 32, 114, 97, 110, 103, 101]) (by kernel_rfl) (by kernel_rfl)
  refine (store_refuses n0 n1 n2 n3 n4 n5 n6 n7 m0 m4 cv iv s1 s2 W ht he).mono fun e W' ⟨he, hc⟩ => ?_
  subst he
  exact ⟨_, rfl, law_post laid_out hW' rfl (by kernel_rfl) rfl Tryz.underlying4 rfl hc.below⟩

theorem said : Rows.StoreRefusesSaid :=
  OpenClaim.holds_of_cond 3 Tryz.f3 rfl rfl rfl rfl rfl rfl rfl ⟨rfl, rfl, rfl, rfl, rfl⟩ rfl rfl rfl rfl rfl name3 Tryz.func3 facts inst3 wrap3
    (fun os started H enc _ F => by rw [OpenClaim.pre_eq_preRow]; exact lifted os started H enc F)

theorem plain (f : FuncId) (fn : Func) (hf : Tryz.pinned.checked.prog.funcNamed "oxbow/oxbowlaw17.StoreRefuses" = some f) (hfn : Tryz.pinned.checked.prog.funcs[f]? = some fn) :
    true = Tryz.pinned.checked.prog.looks [] ∧ ∀ (j : Nat) t, fn.params[j]? = some t → Tryz.pinned.checked.prog.wantsStandIn t = false := by
  obtain rfl : f = 3 := Option.some.inj ((show Tryz.prog.funcNamed "oxbow/oxbowlaw17.StoreRefuses" = some 3 by kernel_rfl).symm.trans hf) |>.symm
  obtain rfl : fn = Tryz.f3 := (Option.some.inj (Tryz.func3.symm.trans hfn)).symm
  refine ⟨looks0, fun j t ht => ?_⟩
  rw [Tryz.params3] at ht
  have hm := Array.mem_of_getElem? ht
  have h2 : t = 24 ∨ t = 27 := by simpa using hm
  rcases h2 with rfl | rfl
  · exact (show Tryz.prog.wantsStandIn 24 = false by kernel_rfl)
  · exact (show Tryz.prog.wantsStandIn 27 = false by kernel_rfl)

theorem proved : Rows.StoreRefusesCardSaid :=
  Claim7.holds_tied_plain_at .later [] _ _ _ _ said (fun _ h => by cases h) text0 (fun _ h => by cases h) storeRefuses_row_tie rfl ⟨rfl, rfl⟩ main0 rfl plain goes0
#print axioms proved
end Go.Proofs.YtljabmkmngbhkaaGreatDoor.storeRefuses
