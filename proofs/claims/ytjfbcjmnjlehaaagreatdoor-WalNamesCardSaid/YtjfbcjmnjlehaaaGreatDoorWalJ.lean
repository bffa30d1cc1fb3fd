/-
  The laws' fixed log.
-/
import Derived.Test.YtjfbcjmnjlehaaaGreatDoorWalI
namespace Go.Proofs.YtjfbcjmnjlehaaaGreatDoor
open Go.RowKit
set_option linter.unusedVariables false
set_option linter.unusedSimpArgs false

def sX : ByteArray := ⟨#[120]⟩
def jk1 : DiskV := (createW (startD 100) (logN 7)).2
def jk2 : DiskV := (appendW jk1 (logN 7) sX).2
theorem jk_res : (createW (startD 100) (logN 7)).1 = 0 ∧ (appendW jk1 (logN 7) sX).1 = 0 ∧ readD jk2 (logN 7) = (fraBA sX, 0) := by
  refine ⟨?_, ?_, ?_⟩ <;> decide +kernel
theorem jk_all : allF (fraBA sX).data.toList = ([sX.data.toList], 10) := by
  have := all_fra sX.data.toList [] (by decide)
  rw [List.append_nil, all_nil] at this
  exact this
theorem psm_create {m : Nat} {D : DiskV} (n : ByteArray) (h : PSm m D) : PSm (m + 2) (createW D n).2 := by
  unfold createW
  split
  · exact (p_bsm_create n h).up
  · exact p_bsm_syncdir (p_bsm_create n h)
theorem psm_append {m : Nat} {D : DiskV} (n b : ByteArray) (h : PSm m D) : PSm (m + 2) (appendW D n b).2 := by
  unfold appendW
  split
  · exact h.up.up
  split
  · exact (p_bsm_append n _ h).up
  · exact p_bsm_sync n (p_bsm_append n _ h)
theorem psm_remove {m : Nat} {D : DiskV} (n : ByteArray) (h : PSm m D) : PSm (m + 2) (removeW D n).2 := by
  unfold removeW
  split
  · exact (p_bsm_remove n h).up
  · exact p_bsm_syncdir (p_bsm_remove n h)
theorem bl_one {l : List ByteArray} {x : ByteArray} (h : bl l = [x.data.toList]) : l = [x] := by
  cases l with
  | nil => simp [bl] at h
  | cons b r =>
    cases r with
    | nil =>
      have h2 : b.data.toList = x.data.toList := by simpa [bl] using h
      rw [show b = x from ByteArray.ext (Array.ext' h2)]
    | cons c r => simp [bl] at h
set_option maxRecDepth 100000 in
set_option maxHeartbeats 4000000 in
theorem wal_wakes (w : World) : Calls Tryz.prog 7 #[] w fun e w' => e = .returned (.bool true) ∧ Chg (fun _ => False) w w' := by
  obtain ⟨r1, r2, r3⟩ := jk_res
  have hnew := st_new 100 (by omega) w
  have HNEW := Lib.hid hnew
  have R1 := Lib.hid r1
  have R2 := Lib.hid r2
  have R3 := Lib.hid r3
  clear hnew r1 r2 r3
  go_enter Tryz.func7, Tryz.ntmps7
  go_wp2_with fail
  refine HNEW.out.mono ?_
  rintro e w1 ⟨rfl, hd1⟩
  have hd1 := DY.of hd1
  obtain ⟨d, hd⟩ : ∃ d, w.heap.size + 2 = d := ⟨_, rfl⟩
  rw [hd] at hd1 ⊢
  have hnm := wal_name 7 (by omega) w1
  have H1 := Lib.hid hd1
  have HNM := Lib.hid hnm
  have hq : ((logN 7).toList == [108, 111, 103, 45, 48, 48, 48, 48, 48, 48, 48, 55]) = true := by rw [ByteArray.toList_eq]; rfl
  clear hd hd1 hnm
  go_wp2_with fail
  refine HNM.out.mono ?_
  rintro e w2 ⟨rfl, hc2⟩
  have hcr := wal_create 7 0 (by omega) d (startD 100) _ w w2 (p_bsm_start 100) (by omega) (H1.out.same hc2)
  have HCR := Lib.hid hcr
  clear hcr hc2
  go_wp2_with fail
  refine HCR.out.mono ?_
  rintro e w3 ⟨rfl, hd3, _⟩
  have hap := wal_append 7 2 (by omega) sX (by decide) d jk1 _ w w3 (psm_create _ (p_bsm_start 100)) (by omega) hd3
  rw [R1.out]
  have HAP := Lib.hid hap
  clear hap hd3
  go_wp2_with fail
  refine HAP.out.mono ?_
  rintro e w4 ⟨rfl, hd4, _⟩
  have hrd := wal_read 7 (by omega) d jk2 _ w w4 hd4
  have hfr := hd4.frame
  rw [R3.out] at hrd
  rw [R2.out]
  have HRD := Lib.hid hrd
  have HFR := Lib.hid hfr
  clear hrd hd4 hfr
  go_wp2_with fail
  refine HRD.out.mono ?_
  rintro e w5 ⟨hr, hc5⟩
  simp only [jk_all] at hr
  rcases hr with ⟨h, _⟩ | ⟨_, h, _⟩ | ⟨_, _, _, v, l, rfl, hL, hbl⟩
  · exact absurd rfl h
  · omega
  · have hl := bl_one hbl
    subst hl
    obtain ⟨a, cap, rfl, _, _, hr⟩ := str_form hL
    obtain ⟨g, rfl, hg, _, x0⟩ := hr [] sX [] rfl
    have HC5 := Lib.hid (HFR.out.then hc5)
    have hqx : (sX.toList == [120]) = true := by rw [ByteArray.toList_eq]; rfl
    clear hr hL hbl hc5
    simp only [List.length_nil] at x0
    go_wp2_with fail
    go_ret
    exact ⟨rfl, HC5.out⟩
end Go.Proofs.YtjfbcjmnjlehaaaGreatDoor
