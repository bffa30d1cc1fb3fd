/-
  What is refused: a nil engine, a nil disk, a text that can't be.
-/
import Derived.Test.YtjloddlkleileaaGreatDoorFrfB
namespace Go.Proofs.YtjloddlkleileaaGreatDoor
open Go.RowKit
set_option linter.unusedVariables false
set_option linter.unusedSimpArgs false

theorem fd_drive_nil (v : Value) (w : World) : Calls Tryz.prog 5 #[.pointer none, v] w fun e w' => e = .returned (.tuple #[.int .i64 0, .int .i64 1]) ∧ Chg (fun _ => False) w w' := by
  go_enter Tryz.func5, Tryz.ntmps5
  go_wp2_with fail
  go_ret2
  exact ⟨rfl, Chg.refl _ _⟩
theorem fd_matches_nil (w : World) : Calls Tryz.prog 6 #[.pointer none] w fun e w' => e = .returned (.tuple #[.slice none 0 0, .int .i64 1]) ∧ Chg (fun _ => False) w w' := by
  go_enter Tryz.func6, Tryz.ntmps6
  go_wp2_with fail
  go_ret2
  exact ⟨rfl, Chg.refl _ _⟩
theorem fd_play_nil (c0 c1 c2 c3 c4 l0 l1 l2 : Int) (va : Option Addr) (vn vc : Nat) (s i L : Value) (w : World) : Calls Tryz.prog 7 #[.pointer none, .agg #[.int .i64 c0, .int .i64 c1, .int .i64 c2, .int .i64 c3, .int .i64 c4, .int .i64 l0, .int .i64 l1, .int .i64 l2, .slice va vn vc], s, i, L] w fun e w' => e = .returned (.tuple #[.slice none 0 0, .int .i64 0, .int .i64 1]) ∧ Chg (fun _ => False) w w' := by
  go_enter Tryz.func7, Tryz.ntmps7
  go_wp2_with fail
  go_ret3
  exact ⟨rfl, by ((repeat (first | exact Chg.refl _ _ | assumption | refine Chg.drewN ?_ _ | refine Chg.drew ?_ | refine Chg.alloc ?_ _ | refine Chg.setCell ?_ (by first | (simp; done) | (simp; omega) | (intro h; simp at h; omega)) _)))⟩
theorem en_open_no (d : Value) (c0 c1 c2 c3 c4 l0 l1 l2 : Int) (va : Option Addr) (vn vc : Nat) (s : ByteArray) (V : Int) (hV : V = textBad s.data.toList) (hb : V ≠ 0) (w : World) : Calls Tryz.prog 34 #[d, .agg #[.int .i64 c0, .int .i64 c1, .int .i64 c2, .int .i64 c3, .int .i64 c4, .int .i64 l0, .int .i64 l1, .int .i64 l2, .slice va vn vc], .string s] w fun e w' => e = .returned (.tuple #[.pointer none, .int .i64 V]) ∧ Chg (fun _ => False) w w' := by
  obtain ⟨w1, hw1⟩ : ∃ w1, w1 = w.alloc (.cells #[.int .i64 c0, .int .i64 c1, .int .i64 c2, .int .i64 c3, .int .i64 c4, .int .i64 l0, .int .i64 l1, .int .i64 l2, .slice va vn vc] 41) := ⟨_, rfl⟩
  have hc1 : Chg (fun _ => False) w w1 := by rw [hw1]; ((repeat (first | exact Chg.refl _ _ | assumption | refine Chg.drewN ?_ _ | refine Chg.drew ?_ | refine Chg.alloc ?_ _ | refine Chg.setCell ?_ (by first | (simp; done) | (simp; omega) | (intro h; simp at h; omega)) _)))
  have hpc := pl_compile_no s w1 (by rw [← hV]; exact hb)
  rw [← hV] at hpc
  have q : (V != 0) = true := by simp [hb]
  have HW1 := Lib.hid hw1
  have HC1 := Lib.hid hc1
  have HPC := Lib.hid hpc
  clear hw1 hc1 hpc
  clear hV hb
  go_enter Tryz.func34, Tryz.ntmps34
  go_upto_region 1 with fail
  rw [← HW1.out]
  go_wp2_with fail
  refine HPC.out.mono ?_
  rintro e w2 ⟨rfl, h6⟩
  have hc := HC1.out.then h6
  have HC := Lib.hid hc
  clear hc
  clear h6
  go_wp2_with fail
  go_ret2
  exact ⟨rfl, HC.out.then (by ((repeat (first | exact Chg.refl _ _ | assumption | refine Chg.drewN ?_ _ | refine Chg.drew ?_ | refine Chg.alloc ?_ _ | refine Chg.setCell ?_ (by first | (simp; done) | (simp; omega) | (intro h; simp at h; omega)) _))))⟩
theorem fd_once_no (d iv : Value) (c0 c1 c2 c3 c4 l0 l1 l2 : Int) (va : Option Addr) (vn vc : Nat) (s : ByteArray) (V : Int) (hV : V = textBad s.data.toList) (hb : V ≠ 0) (w : World) : Calls Tryz.prog 18 #[d, .agg #[.int .i64 c0, .int .i64 c1, .int .i64 c2, .int .i64 c3, .int .i64 c4, .int .i64 l0, .int .i64 l1, .int .i64 l2, .slice va vn vc], .string s, iv] w fun e w' => e = .returned (.tuple #[.pointer none, .int .i64 V]) ∧ Chg (fun _ => False) w w' := by
  obtain ⟨w1, hw1⟩ : ∃ w1, w1 = w.alloc (.cells #[.int .i64 c0, .int .i64 c1, .int .i64 c2, .int .i64 c3, .int .i64 c4, .int .i64 l0, .int .i64 l1, .int .i64 l2, .slice va vn vc] 41) := ⟨_, rfl⟩
  have hc1 : Chg (fun _ => False) w w1 := by rw [hw1]; ((repeat (first | exact Chg.refl _ _ | assumption | refine Chg.drewN ?_ _ | refine Chg.drew ?_ | refine Chg.alloc ?_ _ | refine Chg.setCell ?_ (by first | (simp; done) | (simp; omega) | (intro h; simp at h; omega)) _)))
  have hb1 : Blk w1 w.heap.size 41 #[.int .i64 c0, .int .i64 c1, .int .i64 c2, .int .i64 c3, .int .i64 c4, .int .i64 l0, .int .i64 l1, .int .i64 l2, .slice va vn vc] := by rw [hw1]; exact Blk.new _ _ _
  have hop := en_open_no d c0 c1 c2 c3 c4 l0 l1 l2 va vn vc s V hV hb w1
  have q : (V != 0) = true := by simp [hb]
  have y0 := hb1.cell 0
  have y1 := hb1.cell 1
  have y2 := hb1.cell 2
  have y3 := hb1.cell 3
  have y4 := hb1.cell 4
  have y5 := hb1.cell 5
  have y6 := hb1.cell 6
  have y7 := hb1.cell 7
  have y8 := hb1.cell 8
  simp at y0 y1 y2 y3 y4 y5 y6 y7 y8
  have HW1 := Lib.hid hw1
  have HC1 := Lib.hid hc1
  have HOP := Lib.hid hop
  clear hw1 hc1 hop
  clear hV hb hb1
  go_enter Tryz.func18, Tryz.ntmps18
  go_upto_region 1 with fail
  rw [← HW1.out]
  go_wp2_with fail
  refine HOP.out.mono ?_
  rintro e w2 ⟨rfl, h6⟩
  have hc := HC1.out.then h6
  have HC := Lib.hid hc
  clear hc
  clear h6
  go_wp2_with fail
  go_ret2
  exact ⟨rfl, HC.out⟩
set_option maxRecDepth 100000 in
set_option maxHeartbeats 4000000 in
theorem fd_play_no (d b : Nat) (iv : Value) (c0 c1 c2 c3 c4 l0 l1 l2 : Int) (va : Option Addr) (vn vc : Nat) (s : ByteArray) (V : Int) (hV : V = textBad s.data.toList) (hb : V ≠ 0) (w : World) (hD : DkB w d) (hL : Blk w b 52 #[.int .i64 1, .int .i64 0, .slice none 0 0]) (hdb : b ≠ d) :
    Calls Tryz.prog 7 #[.pointer (some ⟨d, 0, none⟩), .agg #[.int .i64 c0, .int .i64 c1, .int .i64 c2, .int .i64 c3, .int .i64 c4, .int .i64 l0, .int .i64 l1, .int .i64 l2, .slice va vn vc], .string s, iv, .slice (some ⟨b, 0, none⟩) 1 1] w fun e w' => e = .returned (.tuple #[.slice none 0 0, .int .i64 1, .int .i64 V]) ∧ Chg (fun k => k = d) w w' := by
  have h13 : V ≠ 13 := by rw [hV]; exact np_text _
  obtain ⟨w1, hw1⟩ : ∃ w1, w1 = w.alloc (.cells #[.int .i64 c0, .int .i64 c1, .int .i64 c2, .int .i64 c3, .int .i64 c4, .int .i64 l0, .int .i64 l1, .int .i64 l2, .slice va vn vc] 41) := ⟨_, rfl⟩
  have hc1 : Chg (fun _ => False) w w1 := by rw [hw1]; ((repeat (first | exact Chg.refl _ _ | assumption | refine Chg.drewN ?_ _ | refine Chg.drew ?_ | refine Chg.alloc ?_ _ | refine Chg.setCell ?_ (by first | (simp; done) | (simp; omega) | (intro h; simp at h; omega)) _)))
  obtain ⟨g, hg⟩ : ∃ g, w.heap.size = g := ⟨_, rfl⟩
  have hb1 : Blk w1 g 41 #[.int .i64 c0, .int .i64 c1, .int .i64 c2, .int .i64 c3, .int .i64 c4, .int .i64 l0, .int .i64 l1, .int .i64 l2, .slice va vn vc] := by rw [hw1, ← hg]; exact Blk.new _ _ _
  have hdg : ¬ g = d := by obtain ⟨_, _, _, _, _, _, _, _, _, _, _, _, h⟩ := hD; have := h.lt; omega
  have hD1 := hD.chg hc1 (by simp)
  have hL1 := hL.chg hc1 (by simp)
  obtain ⟨w2, hw2⟩ : ∃ w2, w2 = w1.alloc (.cells #[.int .i64 1, .int .i64 0, .slice none 0 0] 52) := ⟨_, rfl⟩
  obtain ⟨q, hq⟩ : ∃ q, w1.heap.size = q := ⟨_, rfl⟩
  have hc2 : Chg (fun _ => False) w1 w2 := by rw [hw2]; ((repeat (first | exact Chg.refl _ _ | assumption | refine Chg.drewN ?_ _ | refine Chg.drew ?_ | refine Chg.alloc ?_ _ | refine Chg.setCell ?_ (by first | (simp; done) | (simp; omega) | (intro h; simp at h; omega)) _)))
  have hl2 : Blk w2 q 52 #[.int .i64 1, .int .i64 0, .slice none 0 0] := by rw [hw2, ← hq]; exact Blk.new _ _ _
  have hct := disk_told d w2 (hD1.chg hc2 (by simp))
  have hon := fun W => fd_once_no (.pointer (some ⟨d, 0, none⟩)) iv c0 c1 c2 c3 c4 l0 l1 l2 va vn vc s V hV hb W
  have han := fun W hW => disk_anew d W hW
  have hb2 := hb1.chg hc2 (by simp)
  have hcw2 := hc1.then hc2
  have q0 : (V != 0) = true := by simp [hb]
  have q1 : (V != 13) = true := by simp [h13]
  have y0 := hL1.cell 0
  have y1 := hL1.cell 1
  have y2 := hL1.cell 2
  simp at y0 y1 y2
  have HW1 := Lib.hid hw1
  have HW2 := Lib.hid hw2
  have HG := Lib.hid hg
  have HQ := Lib.hid hq
  have HL2 := Lib.hid hl2
  have HCT := Lib.hid hct
  have HON := Lib.hid hon
  have HAN := Lib.hid han
  have HB2 := Lib.hid hb2
  have HCW2 := Lib.hid hcw2
  have HDG := Lib.hid hdg
  clear hw1 hw2 hg hq hl2 hct hon han hb2 hcw2 hdg
  clear hV hb h13 hb1 hD1 hL1 hc2 hc1 hD hL hdb
  go_enter Tryz.func7, Tryz.ntmps7
  go_upto_region 3 with fail
  rw [← HW1.out, HG.out]
  go_wp2_with fail
  go_loopw [25] (fun u wr => u = .int .i64 0 ∧ wr = w1) (fun _ _ => 0)
  case atStart => exact ⟨rfl, rfl⟩
  case round =>
    obtain ⟨rfl, rfl⟩ := hrel
    go_upto_region 6 with fail
    rw [← HW2.out, HQ.out]
    clear y0 y1 y2
    have z0 := HL2.out.cell 0
    have z1 := HL2.out.cell 1
    have z2 := HL2.out.cell 2
    simp at z0 z1 z2
    go_wp2_with fail
    refine HCT.out.mono ?_
    rintro e w3 ⟨rfl, hd3, h3⟩
    have hb3 := HB2.out.chg h3 HDG.out
    have t0 := hb3.cell 0
    have t1 := hb3.cell 1
    have t2 := hb3.cell 2
    have t3 := hb3.cell 3
    have t4 := hb3.cell 4
    have t5 := hb3.cell 5
    have t6 := hb3.cell 6
    have t7 := hb3.cell 7
    have t8 := hb3.cell 8
    simp at t0 t1 t2 t3 t4 t5 t6 t7 t8
    have hcw3 := (HCW2.out.mono (by simp)).trans h3 fun k hk e => e
    have HB3 := Lib.hid hb3
    have HD3 := Lib.hid hd3
    have HCW3 := Lib.hid hcw3
    clear hb3 hd3 hcw3
    clear z0 z1 z2 h3
    go_wp2_with fail
    refine (HON.out w3).mono ?_
    rintro e w4 ⟨rfl, h4⟩
    have hd4 := HD3.out.chg h4 (by simp)
    have hcw4 := HCW3.out.then (h4.mono (by simp))
    have han4 := HAN.out w4 hd4
    have HCW4 := Lib.hid hcw4
    have HAN4 := Lib.hid han4
    clear hcw4 han4
    clear hd4 h4 t0 t1 t2 t3 t4 t5 t6 t7 t8
    go_wp2_with fail
    refine HAN4.out.mono ?_
    rintro e w5 ⟨rfl, _, h5⟩
    have hcw5 := HCW4.out.trans h5 fun k hk e => e
    have HCW5 := Lib.hid hcw5
    clear hcw5
    clear h5
    go_wp2_with fail
    go_ret3
    exact ⟨rfl, HCW5.out⟩
end Go.Proofs.YtjloddlkleileaaGreatDoor
