/-
  The program's version: Apply, one way of it.
-/
import Derived.Test.YtahahginmgidjaaGreatDoorZMg25
namespace Go.Proofs.YtahahginmgidjaaGreatDoor
open Go.RowKit
set_option linter.unusedVariables false
set_option linter.unusedSimpArgs false

set_option maxRecDepth 1000000 in
set_option maxHeartbeats 16000000 in
theorem ver_apply_nums (S : VerV) (E : EditV) (L : Nat → Value) (av dv : Value) (w : World) (hS : Good S) (hEo : EdOk E) (hnx : I64 S.next) (hv : VerAt w L S.lv) (ha : Lst placeC w av E.add) (hd : Lst i64C w dv E.drop)
    (hSl : ∀ i, i < 4 → (S.lv i).length ≤ 50000000) (hA : E.add.length ≤ 50000000) (hD : E.drop.length ≤ 50000000) (hbad : ¬ okNums S E) :
    Calls Tryz.prog 24 #[.agg #[L 0, L 1, L 2, L 3, .int .i64 S.log, .int .i64 S.next, .int .i64 S.seq], .agg #[av, dv, .int .i64 E.log, .int .i64 E.next, .int .i64 E.seq]] w (VApplyPost w S E) := by
  obtain ⟨aa, ac, rfl, hac, han, har⟩ := place_form ha
  obtain ⟨da, dc, rfl, hdc, hdn, hdr⟩ := i64_form hd
  have hmm : ∀ w : World, (Instr.makeMap 167 none).run Tryz.prog w = .ok (.map (some w.heap.size)) (w.alloc (.map #[] 0)) := fun w => run_makeMap 167 w
  have HS := Lib.hid hS
  have HEO := Lib.hid hEo
  have HV := Lib.hid hv
  have HA := Lib.hid ha
  have HD := Lib.hid hd
  have HAR := Lib.hid har
  have HDR := Lib.hid hdr
  have HSL := Lib.hid hSl
  have HNX := Lib.hid hnx
  have HIX := Lib.hid (fun (k : Nat) (hk : k < 4) (w : World) => run_index4 L hk w)
  clear hv ha hd har hdr hS hEo hSl hnx
  obtain ⟨w5, hw5⟩ : ∃ w5, w5 = ((w.alloc (.cells #[L 0, L 1, L 2, L 3, .int .i64 S.log, .int .i64 S.next, .int .i64 S.seq] 29)).alloc (.cells #[.slice aa E.add.length ac, .slice da E.drop.length dc, .int .i64 E.log, .int .i64 E.next, .int .i64 E.seq] 57)).alloc (.cells #[.slice none 0 0, .slice none 0 0, .slice none 0 0, .slice none 0 0, .int .i64 0, .int .i64 0, .int .i64 0] 29) := ⟨_, rfl⟩
  have hc5 : Chg (fun _ => False) w w5 := by rw [hw5]; ((repeat (first | exact Chg.refl _ _ | assumption | refine Chg.drewN ?_ _ | refine Chg.drew ?_ | refine Chg.alloc ?_ _ | refine Chg.setCell ?_ (by first | (simp; done) | (simp; omega) | (intro h; simp at h; omega)) _)))
  have b0 : Blk w5 w.heap.size 29 #[L 0, L 1, L 2, L 3, .int .i64 S.log, .int .i64 S.next, .int .i64 S.seq] := by rw [hw5]; exact ((Blk.new w _ _).alloc _).alloc _
  have b1 : Blk w5 (w.heap.size + 1) 57 #[.slice aa E.add.length ac, .slice da E.drop.length dc, .int .i64 E.log, .int .i64 E.next, .int .i64 E.seq] := by rw [hw5]; exact (Blk.new1 w _ _ _).alloc _
  have b2 : Blk w5 (w.heap.size + 1 + 1) 29 #[.slice none 0 0, .slice none 0 0, .slice none 0 0, .slice none 0 0, .int .i64 0, .int .i64 0, .int .i64 0] := by rw [hw5]; exact Blk.new2 w _ _ _ _
  have hsz5 : w.heap.size + 3 ≤ w5.heap.size := by rw [hw5]; simp
  have hlt50 : w.heap.size < w5.heap.size := by omega
  have hlt51 : w.heap.size + 1 < w5.heap.size := by omega
  have hlt52 : w.heap.size + 1 + 1 < w5.heap.size := by omega
  have k04 := b0.cell 4
  have k05 := b0.cell 5
  have k06 := b0.cell 6
  have k12 := b1.cell 2
  have k13 := b1.cell 3
  have k14 := b1.cell 4
  simp at k04 k05 k06 k12 k13 k14
  have B0 := Lib.hid b0
  have B1 := Lib.hid b1
  have B2 := Lib.hid b2
  have HC5 := Lib.hid hc5
  have HW5 := Lib.hid hw5
  clear hw5 hc5 b0 b1 b2
  have HNO := Lib.hid (show ¬ okV S E from fun h => hbad h.1)
  go_enter Tryz.func24, Tryz.ntmps24
  go_upto_region 1 with fail
  rw [← HW5.out]
  go_cut [54] (fun c wx => ∃ b : Bool, c = .bool b ∧ (b = true ↔ ¬ okNums S E) ∧ w5 = wx)
  case first =>
    cases hq1 : (E.log != 0) <;> cases hq2 : (E.next != 0)
    all_goals
      go_wp2_with fail
      all_goals
        go_meet
        refine ⟨_, rfl, ?_, rfl⟩
        have hr1 := hq1
        have hr2 := hq2
        simp at hr1 hr2
        unfold okNums
        first | (simp; done) | (simp; omega) | omega
  case rest =>
    obtain ⟨b, rfl, hb, rfl⟩ := hcut
    cases b with
    | true =>
      clear hb hbad
      have hbase : Chg (fun _ => False) w5 w5 := Chg.refl _ _
      have hz0 := B2.out.chg hbase (by simp)
      have x0 := hz0.cell 0
      have x1 := hz0.cell 1
      have x2 := hz0.cell 2
      have x3 := hz0.cell 3
      have x4 := hz0.cell 4
      have x5 := hz0.cell 5
      have x6 := hz0.cell 6
      have f0 := hz0.frozen 0
      have f1 := hz0.frozen 1
      have f2 := hz0.frozen 2
      have f3 := hz0.frozen 3
      have f4 := hz0.frozen 4
      have f5 := hz0.frozen 5
      have f6 := hz0.frozen 6
      simp at x0 x1 x2 x3 x4 x5 x6
      have HZ0 := Lib.hid hz0
      have HBS := Lib.hid (Chg.then HC5.out hbase)
      clear hbase hz0
      go_upto_region 2 with fail
      go_cut [5] (fun c wx => c = .int .i64 17 ∧ Blk wx (w.heap.size + 1 + 1) 29 #[.slice none 0 0, .slice none 0 0, .slice none 0 0, .slice none 0 0, .int .i64 0, .int .i64 0, .int .i64 0] ∧ Chg (fun _ => False) w wx)
      case first =>
        go_wp2_with fail
        go_meet
        refine ⟨rfl, ?_, ?_⟩
        · have := ((((((HZ0.out.set_ 0 (.slice none 0 0)).set_ 1 (.slice none 0 0)).set_ 2 (.slice none 0 0)).set_ 3 (.slice none 0 0)).set_ 4 (.int .i64 0)).set_ 5 (.int .i64 0)).set_ 6 (.int .i64 0)
          simpa using this
        · have := HBS.out
          ((repeat (first | with_reducible exact Chg.refl _ _ | with_reducible assumption | with_reducible refine Chg.drewN ?_ _ | with_reducible refine Chg.drew ?_ | with_reducible refine Chg.alloc ?_ _ | with_reducible refine Chg.setCell ?_ (by first | (simp; done) | (simp; omega) | (intro h; simp at h; omega)) _)))
      case rest =>
        obtain ⟨rfl, hz, hcz⟩ := hcut
        have x0 := hz.cell 0
        have x1 := hz.cell 1
        have x2 := hz.cell 2
        have x3 := hz.cell 3
        have x4 := hz.cell 4
        have x5 := hz.cell 5
        have x6 := hz.cell 6
        simp at x0 x1 x2 x3 x4 x5 x6
        have HCZ := Lib.hid hcz
        clear hz hcz
        go_wp2_with fail
        exact bodyPost_ret (v := .tuple #[.agg #[.slice none 0 0, .slice none 0 0, .slice none 0 0, .slice none 0 0, .int .i64 0, .int .i64 0, .int .i64 0], .int .i64 17]) (by simp [results, Tryz.results24, go_sem, x0, x1, x2, x3, x4, x5, x6]) rfl ⟨HCZ.out, .inr ⟨HNO.out, rfl⟩⟩
    | false => exact absurd (Classical.byContradiction fun h => by have := hb.2 h; cases this) hbad
end Go.Proofs.YtahahginmgidjaaGreatDoor
