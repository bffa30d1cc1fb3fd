/-
  A disk of the call's own: made, told to fail, set on again. Nothing is written to it.
-/
import Derived.Test.YtjloddlkleileaaGreatDoorFrfA
import Derived.Lib.SliceRun
import Derived.Deep.RegionHeld3
namespace Go.Proofs.YtjloddlkleileaaGreatDoor
open Go.RowKit
set_option linter.unusedVariables false
set_option linter.unusedSimpArgs false

/-- A disk's block, whatever it holds. -/
def DkB (w : World) (d : Nat) : Prop := ∃ v0 v1 v2 v3 v4 v5 v6 v7 v8 v9 v10 v11, Blk w d 87 #[v0, v1, v2, v3, v4, v5, v6, v7, v8, v9, v10, v11]
theorem DkB.chg {S : Nat → Prop} {w w' : World} {d : Nat} (h : DkB w d) (hc : Chg S w w') (hn : ¬ S d) : DkB w' d := by
  obtain ⟨v0, v1, v2, v3, v4, v5, v6, v7, v8, v9, v10, v11, hb⟩ := h
  exact ⟨v0, v1, v2, v3, v4, v5, v6, v7, v8, v9, v10, v11, hb.chg hc hn⟩
theorem nil_clone (w : World) : Calls Tryz.prog 33 #[.slice none 0 0] w fun e w' => e = .returned (.slice none 0 0) ∧ Chg (fun _ => False) w w' := by
  have hq : (binOp .eql 23 (.slice none 0 0) (.slice none 0 0)).run Tryz.prog w = .ok (.bool true) w := Lib.run_eql_slice_nil w 23 3 none 0 0 0 0 Tryz.underlying23
  go_enter Tryz.func33, Tryz.ntmps33
  go_wp2_with fail
  go_ret
  exact ⟨rfl, Chg.refl _ _⟩
theorem disk_fresh (w : World) : Calls Tryz.prog 11 #[.int .i64 1073741824] w fun e w' => e = .returned (.pointer (some ⟨w.heap.size + 2, 0, none⟩)) ∧ DkB w' (w.heap.size + 2) ∧ Chg (fun _ => False) w w' := by
  have hm1 : ∀ w : World, (Instr.makeMap 81 none).run Tryz.prog w = .ok (.map (some w.heap.size)) (w.alloc (.map #[] 0)) := fun w => run_makeMap 81 w
  have hkey : ∀ m : Int, DkB (((w.alloc (.map #[] 0)).alloc (.map #[] 0)).alloc (.cells #[.int .i64 m, .slice none 0 0, .map (some w.heap.size), .map (some (w.heap.size + 1)), .slice none 0 0, .int .i64 0, .int .i64 0, .slice none 0 0, .int .i64 0, .int .i64 0, .slice none 0 0, .bool false] 87)) (w.heap.size + 2) := fun m => by
    have := Blk.new ((w.alloc (.map #[] 0)).alloc (.map #[] 0)) 87 #[.int .i64 m, .slice none 0 0, .map (some w.heap.size), .map (some (w.heap.size + 1)), .slice none 0 0, .int .i64 0, .int .i64 0, .slice none 0 0, .int .i64 0, .int .i64 0, .slice none 0 0, .bool false]
    exact ⟨_, _, _, _, _, _, _, _, _, _, _, _, by simpa using this⟩
  go_enter Tryz.func11, Tryz.ntmps11
  go_wp2_with fail
  all_goals
    go_ret
    exact ⟨rfl, hkey _, by ((repeat (first | exact Chg.refl _ _ | assumption | refine Chg.drewN ?_ _ | refine Chg.drew ?_ | refine Chg.alloc ?_ _ | refine Chg.setCell ?_ (by first | (simp; done) | (simp; omega) | (intro h; simp at h; omega)) _)))⟩
set_option maxRecDepth 100000 in
set_option maxHeartbeats 4000000 in
theorem disk_told (d : Nat) (w : World) (h : DkB w d) : Calls Tryz.prog 17 #[.pointer (some ⟨d, 0, none⟩), .int .i64 1, .int .i64 0, .slice none 0 0] w fun e w' => e = .returned (.tuple #[]) ∧ DkB w' d ∧ Chg (fun k => k = d) w w' := by
  obtain ⟨v0, v1, v2, v3, v4, v5, v6, v7, v8, v9, v10, v11, hb⟩ := h
  have hcl := nil_clone w
  have HB := Lib.hid hb
  have HCL := Lib.hid hcl
  clear hb hcl
  go_enter Tryz.func17, Tryz.ntmps17
  go_wp2_with fail
  all_goals
    refine HCL.out.mono ?_
    rintro e w1 ⟨rfl, h6⟩
    have hb1 := HB.out.chg h6 (by simp)
    have k5 := hb1.cell 5
    have k6 := hb1.cell 6
    have k7 := hb1.cell 7
    have j5 := hb1.frozen 5
    have j6 := hb1.frozen 6
    have j7 := hb1.frozen 7
    simp at k5 k6 k7
    have HB1 := Lib.hid hb1
    have H6 := Lib.hid h6
    clear hb1 h6
    go_wp2_with fail
    first | go_end0 | refine bodyPost_ret (results_none rfl _ _ _) rfl ?_
    refine ⟨rfl, ?_, (H6.out.mono (by simp)).trans (Chg.seto (Chg.seto (Chg.seto (Chg.refl (fun k => k = d) w1)))) fun k hk e => e⟩
    have hz := ((HB1.out.set_ 5 (.int .i64 1)).set_ 6 (.int .i64 0)).set_ 7 (.slice none 0 0)
    exact ⟨_, _, _, _, _, _, _, _, _, _, _, _, by simpa using hz⟩
set_option maxRecDepth 100000 in
set_option maxHeartbeats 4000000 in
theorem disk_anew (d : Nat) (w : World) (h : DkB w d) : Calls Tryz.prog 19 #[.pointer (some ⟨d, 0, none⟩)] w fun e w' => e = .returned (.tuple #[]) ∧ DkB w' d ∧ Chg (fun k => k = d) w w' := by
  obtain ⟨v0, v1, v2, v3, v4, v5, v6, v7, v8, v9, v10, v11, hb⟩ := h
  have k5 := hb.cell 5
  have k6 := hb.cell 6
  have k7 := hb.cell 7
  have k8 := hb.cell 8
  have k9 := hb.cell 9
  have k10 := hb.cell 10
  have k11 := hb.cell 11
  have j5 := hb.frozen 5
  have j6 := hb.frozen 6
  have j7 := hb.frozen 7
  have j8 := hb.frozen 8
  have j9 := hb.frozen 9
  have j10 := hb.frozen 10
  have j11 := hb.frozen 11
  simp at k5 k6 k7 k8 k9 k10 k11
  have hfin : ∀ W, W = ((((((w.setCell ⟨d, 11, none⟩ (.bool false)).setCell ⟨d, 5, none⟩ (.int .i64 0)).setCell ⟨d, 6, none⟩ (.int .i64 0)).setCell ⟨d, 7, none⟩ (.slice none 0 0)).setCell ⟨d, 8, none⟩ (.int .i64 0)).setCell ⟨d, 9, none⟩ (.int .i64 0)).setCell ⟨d, 10, none⟩ (.slice none 0 0) → DkB W d ∧ Chg (fun k => k = d) w W := by
    rintro W hW
    have hz := ((((((hb.set_ 11 (.bool false)).set_ 5 (.int .i64 0)).set_ 6 (.int .i64 0)).set_ 7 (.slice none 0 0)).set_ 8 (.int .i64 0)).set_ 9 (.int .i64 0)).set_ 10 (.slice none 0 0)
    rw [← hW] at hz
    exact ⟨⟨_, _, _, _, _, _, _, _, _, _, _, _, by simpa using hz⟩, by rw [hW]; exact Chg.seto (Chg.seto (Chg.seto (Chg.seto (Chg.seto (Chg.seto (Chg.seto (Chg.refl _ _))))))) ⟩
  have HF := Lib.hid hfin
  clear hb hfin
  go_enter Tryz.func19, Tryz.ntmps19
  go_wp2_with fail
  first | go_end0 | refine bodyPost_ret (results_none rfl _ _ _) rfl ?_
  exact ⟨rfl, HF.out _ rfl⟩
end Go.Proofs.YtjloddlkleileaaGreatDoor
