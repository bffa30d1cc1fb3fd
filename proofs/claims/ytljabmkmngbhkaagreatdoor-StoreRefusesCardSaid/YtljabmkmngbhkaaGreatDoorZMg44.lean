/-
  The law's fixed store.
  sync.Once's parts: the lock, the two calls that its slow road defers. No condition but that the lock is free.
-/
import Derived.Test.YtljabmkmngbhkaaGreatDoorZStoI
import Derived.Test.YtljabmkmngbhkaaGreatDoorProg
import Derived.Test.YtljabmkmngbhkaaGreatDoorZMg00
import Derived.Tactics
import Derived.Tactics2
import Derived.Defers
import Derived.Laws.Pointers
import Derived.Laws.LoneSync
import Derived.RegionTactic
import Derived.RegionCalls
namespace Go.Proofs.YtljabmkmngbhkaaGreatDoor
open Go.RowKit
set_option linter.unusedVariables false
set_option linter.unusedSimpArgs false

def wkF : CfgV := ⟨1048576, 1000, 10, 10, 100, 0, 0, 0⟩
theorem lst1 {W : World} {g : Nat} (h : Blk W g 41 #[.string kA, .int .i64 0, .bool false, .string t1, .int .i64 0, .string kB, .int .i64 0, .bool false, .string t2, .int .i64 0]) : Lst entC W (.slice (some ⟨g, 0, none⟩) 2 2) wi1 := Lst.of_block (l := wi1) entOk h rfl (by decide)
theorem lst2 {W : World} {g : Nat} (h : Blk W g 41 #[.string kA, .int .i64 0, .bool true, .string ⟨#[]⟩, .int .i64 0]) : Lst entC W (.slice (some ⟨g, 0, none⟩) 1 1) wi2 := Lst.of_block (l := wi2) entOk h rfl (by decide)
set_option maxRecDepth 100000 in
set_option maxHeartbeats 8000000 in
theorem st_wakes (w : World) (ht : Tab w) (he : ErrOk w) : Calls Tryz.prog 13 #[] w fun e w' => e = .returned (.bool true) ∧ Chg (fun _ => False) w w' := by
  have hnew : Calls Tryz.prog 5 #[.int .i64 1048576] w fun e w' => e = .returned (.pointer (some ⟨w.heap.size + 2, 0, none⟩)) ∧ DState w w' (w.heap.size + 2) (startD room1) := st_new 1048576 (by omega) w
  have HNEW := Lib.hid hnew
  have HT := Lib.hid ht
  have HE := Lib.hid he
  clear hnew ht he
  go_enter Tryz.func13, Tryz.ntmps13
  go_wp2_with fail
  refine HNEW.out.mono ?_
  rintro e w1 ⟨rfl, hd1⟩
  have hd1 := DY.of hd1
  obtain ⟨d, hd⟩ : ∃ d, w.heap.size + 2 = d := ⟨_, rfl⟩
  rw [hd] at hd1 ⊢
  have hop := st_open w w1 d (startD room1) _ wkF hd1 HT.out HE.out (fresh room1 (.inl rfl)) (by decide)
  rw [show wkF.limit = 1048576 from rfl, ws0_eq] at hop
  simp only [wkF] at hop
  have HOP := Lib.hid hop
  clear hop
  clear hd1 hd
  go_wp2_with fail
  refine HOP.out.mono ?_
  rintro e w2 ⟨p, Y, rfl, _, _, hat2⟩
  have HAT2 := Lib.hid hat2
  clear hat2
  -- the first Commit
  obtain ⟨g2, hg2⟩ : ∃ g2, w2.heap.size = g2 := ⟨_, rfl⟩
  obtain ⟨w3, hw3⟩ : ∃ w3, w3 = w2.alloc (.cells #[.string kA, .int .i64 0, .bool false, .string t1, .int .i64 0, .string kB, .int .i64 0, .bool false, .string t2, .int .i64 0] 41) := ⟨_, rfl⟩
  have hc23 : Chg (fun _ => False) w2 w3 := by rw [hw3]; exact cgS
  have hb3 : Blk w3 g2 41 #[.string kA, .int .i64 0, .bool false, .string t1, .int .i64 0, .string kB, .int .i64 0, .bool false, .string t2, .int .i64 0] := by rw [hw3, ← hg2]; exact Blk.new _ _ _
  have hat3 := HAT2.out.grow hc23
  have hcm := st_commit w w3 p _ wkF ws0 hat3 _ wi1 (lst1 hb3) (fun k hk => by
    have : k = g2 := by simpa [Value.ownBlock] using hk.symm
    subst this
    exact .inr ⟨by omega, hb3.lt⟩) (by decide) (by decide) wi_good1 (by decide) (by decide) rfl rfl 1 1000 (by omega) rfl ws_psm.1 (by omega) (by decide +kernel) (by decide +kernel) wi_room.1 wi_room.2.1 wi_log.1
  simp only [show ws0.seq = 0 from rfl, show (wi1.length : Int) = 2 from rfl] at hcm
  simp only [kA, kB, t1, t2] at hw3
  have HCM := Lib.hid hcm
  have HW3 := Lib.hid hw3
  have HG2 := Lib.hid hg2
  clear hcm hw3 hg2
  clear hc23 hb3 hat3
  go_upto_region 5 with fail
  rw [← HW3.out, HG2.out]
  refine HCM.out.mono ?_
  rintro e w4 ⟨rfl, p4, Y4, e4, _, hat4⟩
  have hsn := st_snap w w4 p4 Y4 wkF ws1 hat4 rfl (by decide)
  rw [e4, show ws1.seq = 2 from rfl] at hsn
  have HSN := Lib.hid hsn
  clear hsn
  clear hat4 HCM HW3 HG2 HAT2
  go_wp2_with fail
  refine HSN.out.mono ?_
  rintro e w5 ⟨rfl, p5, Y5, e5, _, hat5⟩
  rw [e4] at e5
  have HAT5 := Lib.hid hat5
  clear hat5
  -- the second Commit
  obtain ⟨g5, hg5⟩ : ∃ g5, w5.heap.size = g5 := ⟨_, rfl⟩
  obtain ⟨w6, hw6⟩ : ∃ w6, w6 = w5.alloc (.cells #[.string kA, .int .i64 0, .bool true, .string ⟨#[]⟩, .int .i64 0] 41) := ⟨_, rfl⟩
  have hc56 : Chg (fun _ => False) w5 w6 := by rw [hw6]; exact cgS
  have hb6 : Blk w6 g5 41 #[.string kA, .int .i64 0, .bool true, .string ⟨#[]⟩, .int .i64 0] := by rw [hw6, ← hg5]; exact Blk.new _ _ _
  have hat6 := HAT5.out.grow hc56
  have hcm := st_commit w w6 p5 _ wkF ws2 hat6 _ wi2 (lst2 hb6) (fun k hk => by
    have : k = g5 := by simpa [Value.ownBlock] using hk.symm
    subst this
    exact .inr ⟨by omega, hb6.lt⟩) (by decide) (by decide) wi_good2 (by decide +kernel) (by decide) rfl rfl 1 1002 (by omega) rfl ws_psm.2 (by omega) (by decide +kernel) (by decide +kernel) wi_room.2.2.1 wi_room.2.2.2 wi_log.2
  rw [show ws2.seq = 2 from rfl, e5] at hcm
  simp only [show (wi2.length : Int) = 1 from rfl] at hcm
  simp only [kA] at hw6
  have hcm : Calls Tryz.prog 6 #[.pointer (some ⟨p.s, 0, none⟩), .slice (some ⟨g5, 0, none⟩) 1 1] w6 fun e w' => e = .returned (.tuple #[.int .i64 3, .int .i64 0]) ∧ SPost w p5 wkF ws3 w' := hcm
  have HCM := Lib.hid hcm
  have HW6 := Lib.hid hw6
  have HG5 := Lib.hid hg5
  clear hcm hw6 hg5
  clear hc56 hb6 hat6
  go_upto_region 7 with fail
  rw [← HW6.out, HG5.out]
  refine HCM.out.mono ?_
  rintro e w7 ⟨rfl, p7, Y7, e7, _, hat7⟩
  rw [e5] at e7
  obtain ⟨r1, r2⟩ := wi_alive
  obtain ⟨k1, k2⟩ := wi_get
  have hg1 := fun W (hW : Chg (fun _ => False) w7 W) => st_get w W p7 Y7 wkF ws3 (hat7.same hW) rfl kA 9223372036854775807 gone3 k1
  have hg2 := fun W (hW : Chg (fun _ => False) w7 W) => st_get w W p7 Y7 wkF ws3 (hat7.same hW) rfl kA 2 then1 k2
  simp only [show ws3.now = 0 from rfl, r1, r2, e7] at hg1 hg2
  simp only [entA, zeroE, then1, kA, t1] at hg1 hg2
  have hfr := hat7.disk.frame
  have HG1 := Lib.hid hg1
  have HG2 := Lib.hid hg2
  have HFR := Lib.hid hfr
  clear hg1 hg2 hfr
  clear hat7 HCM HW6 HG5 HAT5 r1 r2 k1 k2 e4 e5 e7
  go_wp2_with fail
  refine (HG1.out _ (Chg.refl _ _)).mono ?_
  rintro e w8 ⟨rfl, hc8⟩
  obtain ⟨w9, hw9⟩ : ∃ w9, w9 = w8.alloc (.cells #[.string ⟨#[]⟩, .int .i64 0, .bool false, .string ⟨#[]⟩, .int .i64 0] 41) := ⟨_, rfl⟩
  have hc79 : Chg (fun _ => False) w7 w9 := hc8.then (by rw [hw9]; exact cgS)
  have HW9 := Lib.hid hw9
  have HC79 := Lib.hid hc79
  clear hw9 hc79
  clear hc8
  go_upto_region 8 with fail
  rw [← HW9.out]
  go_wp2_with fail
  refine (HG2.out _ HC79.out).mono ?_
  rintro e w10 ⟨rfl, hc10⟩
  obtain ⟨g10, hg10⟩ : ∃ g10, w10.heap.size = g10 := ⟨_, rfl⟩
  obtain ⟨w11, hw11⟩ : ∃ w11, w11 = w10.alloc (.cells #[.string ⟨#[97]⟩, .int .i64 1, .bool false, .string ⟨#[49]⟩, .int .i64 0] 41) := ⟨_, rfl⟩
  have hb11 : Blk w11 g10 41 #[.string ⟨#[97]⟩, .int .i64 1, .bool false, .string ⟨#[49]⟩, .int .i64 0] := by rw [hw11, ← hg10]; exact Blk.new _ _ _
  have hcf : Chg (fun _ => False) w w11 := HFR.out.then ((HC79.out.then hc10).then (by rw [hw11]; exact cgS))
  have x3 := hb11.cell 3
  simp at x3
  have q1 : (({ data := #[49] } : ByteArray).toList == [49]) = true := by rw [ByteArray.toList_eq]; rfl
  have HW11 := Lib.hid hw11
  have HCF := Lib.hid hcf
  have HG10 := Lib.hid hg10
  clear hw11 hcf hg10
  clear hc10 hb11
  go_upto_region 9 with fail
  rw [← HW11.out, HG10.out]
  go_wp2_with fail
  go_ret
  exact ⟨by first | rfl | simp, HCF.out⟩
end Go.Proofs.YtljabmkmngbhkaaGreatDoor
namespace Go.Proofs.YtljabmkmngbhkaaGreatDoor
open Go.RowKit
set_option linter.unusedVariables false
set_option linter.unusedSimpArgs false

theorem ra_disable (w : World) : (callFunc 334 #[]).run Tryz.prog w = .ok (.value (.tuple #[])) w := run_call_mark0 Tryz.func334 (by kernel_rfl) (by kernel_rfl) (by kernel_rfl) .disable (by kernel_rfl) w
theorem ra_enable (w : World) : (callFunc 336 #[]).run Tryz.prog w = .ok (.value (.tuple #[])) w := run_call_mark0 Tryz.func336 (by kernel_rfl) (by kernel_rfl) (by kernel_rfl) .enable (by kernel_rfl) w
theorem ra_acquire (a : Addr) (w : World) : (callFunc 337 #[.pointer (some a)]).run Tryz.prog w = .ok (.value (.tuple #[])) w := run_call_marked Tryz.func337 (by kernel_rfl) (by kernel_rfl) (by kernel_rfl) .acquire (by kernel_rfl) a w
theorem ra_merge (a : Addr) (w : World) : (callFunc 339 #[.pointer (some a)]).run Tryz.prog w = .ok (.value (.tuple #[])) w := run_call_marked Tryz.func339 (by kernel_rfl) (by kernel_rfl) (by kernel_rfl) .releaseMerge (by kernel_rfl) a w
set_option maxRecDepth 100000 in
set_option maxHeartbeats 4000000 in
theorem ab_store_d (a : Addr) (x : Value) (u : FrameMode) (w : World) (hc : w.cell? a = some x) (hz : w.frozen? a = false) :
    CallsD Tryz.prog 212 #[.pointer (some a), .bool true] u w fun e u' w' => u' = u ∧ (e = .returned (.tuple #[]) ∧ w' = w.drew.setCell a (.int .u32 1)) := by
  have hc' : w.drew.cell? a = some x := by go_simp
  have hz' : w.drew.frozen? a = false := by go_simp
  have hst := run_call_store (P := Tryz.prog) Tryz.func288 (by kernel_rfl) (by kernel_rfl) (by kernel_rfl) (by kernel_rfl) (k := .u32) (y := 1) hc' hz'
  go_enter_d Tryz.func212, Tryz.ntmps212
  go_wp2
  go_region_calls
  all_goals (go_end0; exact ⟨rfl, rfl⟩)
set_option maxRecDepth 100000 in
set_option maxHeartbeats 4000000 in
theorem mx_unlock_d (a : Addr) (u : FrameMode) (w : World) (hc : w.cell? a = some (.int .i32 1)) (hz : w.frozen? a = false) :
    CallsD Tryz.prog 211 #[.pointer (some a)] u w fun e u' w' => u' = u ∧ (e = .returned (.tuple #[]) ∧ w' = w.setCell a (.int .i32 0)) := by
  have hd := ra_disable
  have he := ra_enable
  have hr := ra_merge
  have hadd := run_call_add (P := Tryz.prog) Tryz.func340 (by kernel_rfl) (by kernel_rfl) (by kernel_rfl) .i32 (by kernel_rfl) (y := -1) (s := 0) hc hz (by simp [go_sem]; rfl)
  have hcv := run_convert_to_unsafe (P := Tryz.prog) (src := 434) (dst := 370) Tryz.underlying434 Tryz.underlying370 (by kernel_rfl) hc
  go_enter_d Tryz.func211, Tryz.ntmps211
  go_wp2
  go_end0
  go_wp2
  go_end0
  exact ⟨rfl, rfl⟩
set_option maxRecDepth 100000 in
set_option maxHeartbeats 4000000 in
theorem mx_lock (a : Addr) (w : World) (hc : w.cell? a = some (.int .i32 0)) (hz : w.frozen? a = false) :
    Calls Tryz.prog 210 #[.pointer (some a)] w fun e w' => e = .returned (.tuple #[]) ∧ w' = w.setCell a (.int .i32 1) := by
  have hd := ra_disable
  have he := ra_enable
  have ha := ra_acquire
  have hcas := run_call_cas_hit (P := Tryz.prog) Tryz.func335 (by kernel_rfl) (by kernel_rfl) (by kernel_rfl) .i32 (by kernel_rfl) (y := 1) hc hz
  have hc' : (w.setCell a (.int .i32 1)).cell? a = some (.int .i32 1) := World.cell?_setCell_same w a _ hc
  have hcv := run_convert_to_unsafe (P := Tryz.prog) (src := 434) (dst := 370) Tryz.underlying434 Tryz.underlying370 (by kernel_rfl) hc'
  go_enter Tryz.func210, Tryz.ntmps210
  go_wp2
  first | go_end0 | (simp only [Exit.inBlock, Exit.then]; refine bodyPost_ret (results_none rfl _ _ _) rfl ?_) | refine bodyPost_ret (results_none rfl _ _ _) rfl ?_
  go_wp2
  go_end0
  exact ⟨rfl, rfl⟩
end Go.Proofs.YtljabmkmngbhkaaGreatDoor
