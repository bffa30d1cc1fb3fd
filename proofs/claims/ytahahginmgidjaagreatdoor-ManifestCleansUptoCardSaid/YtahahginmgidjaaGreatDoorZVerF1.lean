/-
  The document's version: Apply, one way of it.
-/
import Derived.Test.YtahahginmgidjaaGreatDoorZMg31
namespace Go.Proofs.YtahahginmgidjaaGreatDoor
open Go.RowKit
set_option linter.unusedVariables false
set_option linter.unusedSimpArgs false

set_option maxRecDepth 1000000 in
set_option maxHeartbeats 16000000 in
theorem doc_apply_nums (S : VerV) (E : EditV) (v av dv : Value) (w : World) (hv : Lst docC w v (flat S)) (ha : Lst docC w av E.add) (hd : Lst i64C w dv E.drop)
    (hS : (flat S).length ≤ 200000000) (hA : E.add.length ≤ 100000000) (hD : E.drop.length ≤ 100000000) (hbad : ¬ okNums S E) :
    Calls Tryz.prog 23 #[.agg #[v, .int .i64 S.log, .int .i64 S.next, .int .i64 S.seq], .agg #[av, dv, .int .i64 E.log, .int .i64 E.next, .int .i64 E.seq]] w (DApplyPost w S E) := by
  obtain ⟨va, vc, rfl, hvc, hvn, hvr⟩ := doc_form hv
  obtain ⟨aa, ac, rfl, hac, han, har⟩ := doc_form ha
  obtain ⟨da, dc, rfl, hdc, hdn, hdr⟩ := i64_form hd
  have HV := Lib.hid hv
  have HA := Lib.hid ha
  have HD := Lib.hid hd
  have HVR := Lib.hid hvr
  have HAR := Lib.hid har
  have HDR := Lib.hid hdr
  clear hv ha hd hvr har hdr
  obtain ⟨w5, hw5⟩ : ∃ w5, w5 = (((w.alloc (.cells #[.slice va (flat S).length vc, .int .i64 S.log, .int .i64 S.next, .int .i64 S.seq] 32)).alloc (.cells #[.slice aa E.add.length ac, .slice da E.drop.length dc, .int .i64 E.log, .int .i64 E.next, .int .i64 E.seq] 59)).alloc (.cells #[.slice none 0 0, .int .i64 0, .int .i64 0, .int .i64 0] 32)).alloc (.cells #[.slice none 0 0, .int .i64 0, .int .i64 0, .int .i64 0] 32) := ⟨_, rfl⟩
  have hc5 : Chg (fun _ => False) w w5 := by rw [hw5]; ((repeat (first | exact Chg.refl _ _ | assumption | refine Chg.drewN ?_ _ | refine Chg.drew ?_ | refine Chg.alloc ?_ _ | refine Chg.setCell ?_ (by first | (simp; done) | (simp; omega) | (intro h; simp at h; omega)) _)))
  have b0 : Blk w5 w.heap.size 32 #[.slice va (flat S).length vc, .int .i64 S.log, .int .i64 S.next, .int .i64 S.seq] := by rw [hw5]; exact (((Blk.new w _ _).alloc _).alloc _).alloc _
  have b1 : Blk w5 (w.heap.size + 1) 59 #[.slice aa E.add.length ac, .slice da E.drop.length dc, .int .i64 E.log, .int .i64 E.next, .int .i64 E.seq] := by rw [hw5]; exact ((Blk.new1 w _ _ _).alloc _).alloc _
  have b2 : Blk w5 (w.heap.size + 1 + 1) 32 #[.slice none 0 0, .int .i64 0, .int .i64 0, .int .i64 0] := by rw [hw5]; exact (Blk.new2 w _ _ _ _).alloc _
  have b3 : Blk w5 (w.heap.size + 1 + 1 + 1) 32 #[.slice none 0 0, .int .i64 0, .int .i64 0, .int .i64 0] := by
    rw [hw5]
    have := Blk.new (((w.alloc (.cells #[.slice va (flat S).length vc, .int .i64 S.log, .int .i64 S.next, .int .i64 S.seq] 32)).alloc (.cells #[.slice aa E.add.length ac, .slice da E.drop.length dc, .int .i64 E.log, .int .i64 E.next, .int .i64 E.seq] 59)).alloc (.cells #[.slice none 0 0, .int .i64 0, .int .i64 0, .int .i64 0] 32)) 32 #[.slice none 0 0, .int .i64 0, .int .i64 0, .int .i64 0]
    simpa using this
  have hsz5 : w5.heap.size = w.heap.size + 4 := by rw [hw5]; simp
  have k01 := b0.cell 1
  have k02 := b0.cell 2
  have k03 := b0.cell 3
  have k12 := b1.cell 2
  have k13 := b1.cell 3
  have k14 := b1.cell 4
  simp at k01 k02 k03 k12 k13 k14
  have B0 := Lib.hid b0
  have B1 := Lib.hid b1
  have B2 := Lib.hid b2
  have B3 := Lib.hid b3
  have HC5 := Lib.hid hc5
  have HW5 := Lib.hid hw5
  clear hw5 hc5 b0 b1 b2 b3
  have HNO := Lib.hid (show ¬ okV S E from fun h => hbad h.1)
  go_enter Tryz.func23, Tryz.ntmps23
  go_upto_region 2 with fail
  rw [← HW5.out]
  go_cut [42] (fun c wx => ∃ b : Bool, c = .bool b ∧ (b = true ↔ (E.log < S.log ∨ E.next < S.next ∨ E.seq < S.seq)) ∧ w5 = wx)
  case first =>
    go_wp2_with fail
    all_goals
      go_meet
      refine ⟨_, rfl, ?_, rfl⟩
      first | (simp [or_assoc]; done) | (simp; omega)
  case rest =>
    obtain ⟨b, rfl, hb, rfl⟩ := hcut
    cases b with
    | true =>
      clear hb hbad
      have hbase : Chg (fun _ => False) w5 w5 := Chg.refl _ _
      have y0 := (B3.out.chg hbase (by simp)).cell 0
      have y1 := (B3.out.chg hbase (by simp)).cell 1
      have y2 := (B3.out.chg hbase (by simp)).cell 2
      have y3 := (B3.out.chg hbase (by simp)).cell 3
      have x0 := (B2.out.chg hbase (by simp)).cell 0
      have x1 := (B2.out.chg hbase (by simp)).cell 1
      have x2 := (B2.out.chg hbase (by simp)).cell 2
      have x3 := (B2.out.chg hbase (by simp)).cell 3
      have f0 := (B2.out.chg hbase (by simp)).frozen 0
      have f1 := (B2.out.chg hbase (by simp)).frozen 1
      have f2 := (B2.out.chg hbase (by simp)).frozen 2
      have f3 := (B2.out.chg hbase (by simp)).frozen 3
      simp at y0 y1 y2 y3 x0 x1 x2 x3
      have HBS := Lib.hid (Chg.then HC5.out hbase)
      clear hbase
      go_wp2_with fail
      refine bodyPost_ret (v := .tuple #[.agg #[.slice none 0 0, .int .i64 0, .int .i64 0, .int .i64 0], .int .i64 17]) (by simp [results, Tryz.results23, go_sem, x0, x1, x2, x3]) rfl ⟨?_, .inr ⟨HNO.out, rfl⟩⟩
      have := HBS.out
      ((repeat (first | with_reducible exact Chg.refl _ _ | with_reducible assumption | with_reducible refine Chg.drewN ?_ _ | with_reducible refine Chg.drew ?_ | with_reducible refine Chg.alloc ?_ _ | with_reducible refine Chg.setCell ?_ (by first | (simp; done) | (simp; omega) | (intro h; simp at h; omega)) _)))
    | false =>
      have hn1 : ¬ (E.log < S.log ∨ E.next < S.next ∨ E.seq < S.seq) := fun h => by have := hb.2 h; cases this
      have HN1 := Lib.hid hn1
      clear hb hn1
      go_upto_region 4 with fail
      go_cut [59] (fun c wx => ∃ b : Bool, c = .bool b ∧ (b = true ↔ (E.log ≥ E.next ∧ ¬ (E.log = 0 ∧ E.next = 0))) ∧ w5 = wx)
      case first =>
        cases hq1 : (E.log == 0) <;> cases hq2 : (E.next == 0)
        all_goals
          go_wp2_with fail
          all_goals
            go_meet
            refine ⟨_, rfl, ?_, rfl⟩
            have hr1 := hq1
            have hr2 := hq2
            simp at hr1 hr2
            first | (simp; done) | (simp; omega) | omega
      case rest =>
        obtain ⟨b, rfl, hb, rfl⟩ := hcut
        cases b with
        | true =>
          clear hb hbad
          have hbase : Chg (fun _ => False) w5 w5 := Chg.refl _ _
          have y0 := (B3.out.chg hbase (by simp)).cell 0
          have y1 := (B3.out.chg hbase (by simp)).cell 1
          have y2 := (B3.out.chg hbase (by simp)).cell 2
          have y3 := (B3.out.chg hbase (by simp)).cell 3
          have x0 := (B2.out.chg hbase (by simp)).cell 0
          have x1 := (B2.out.chg hbase (by simp)).cell 1
          have x2 := (B2.out.chg hbase (by simp)).cell 2
          have x3 := (B2.out.chg hbase (by simp)).cell 3
          have f0 := (B2.out.chg hbase (by simp)).frozen 0
          have f1 := (B2.out.chg hbase (by simp)).frozen 1
          have f2 := (B2.out.chg hbase (by simp)).frozen 2
          have f3 := (B2.out.chg hbase (by simp)).frozen 3
          simp at y0 y1 y2 y3 x0 x1 x2 x3
          have HBS := Lib.hid (Chg.then HC5.out hbase)
          clear hbase
          go_wp2_with fail
          refine bodyPost_ret (v := .tuple #[.agg #[.slice none 0 0, .int .i64 0, .int .i64 0, .int .i64 0], .int .i64 17]) (by simp [results, Tryz.results23, go_sem, x0, x1, x2, x3]) rfl ⟨?_, .inr ⟨HNO.out, rfl⟩⟩
          have := HBS.out
          ((repeat (first | with_reducible exact Chg.refl _ _ | with_reducible assumption | with_reducible refine Chg.drewN ?_ _ | with_reducible refine Chg.drew ?_ | with_reducible refine Chg.alloc ?_ _ | with_reducible refine Chg.setCell ?_ (by first | (simp; done) | (simp; omega) | (intro h; simp at h; omega)) _)))
        | false => exact absurd ⟨HN1.out, fun h => by have := hb.2 h; cases this⟩ hbad
end Go.Proofs.YtahahginmgidjaaGreatDoor
