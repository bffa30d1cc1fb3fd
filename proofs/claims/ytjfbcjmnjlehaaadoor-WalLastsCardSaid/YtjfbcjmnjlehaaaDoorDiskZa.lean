/-
  The disk: Remove, Break, On, Off.
-/
import Derived.Test.YtjfbcjmnjlehaaaDoorDiskO
namespace Go.Proofs.YtjfbcjmnjlehaaaDoor
open Go.RowKit
set_option linter.unusedVariables false
set_option linter.unusedSimpArgs false

set_option maxRecDepth 100000 in
set_option maxHeartbeats 4000000 in
theorem disk_remove (d : Nat) (ids : List Nat) (D : DiskV) (M : Nat → Prop) (a : ByteArray) (hn : a.size ≤ maxLen) (hq : D.queue.length ≤ 999999990) (w : World) (h : DiskAt w d ids D M) :
    Calls Tryd.prog 32 #[.pointer (some ⟨d, 0, none⟩), .string a] w fun e w' => e = .returned (.int .i64 (removeD D a).1) ∧ DPost w d ids M (removeD D a).2 w' := by
  have hlt := h.lt
  have hdl := h.d_lt
  have H := Lib.hid h
  have HLT := Lib.hid hlt
  unfold removeD
  obtain ⟨W1, hW1⟩ : ∃ W1, W1 = (w.alloc (.cells #[.pointer (some ⟨d, 0, none⟩)] 23)).alloc (.cells #[.string a] 9) := ⟨_, rfl⟩
  have hc1 : Chg (fun _ => False) w W1 := by rw [hW1]; ((repeat (first | exact Chg.refl _ _ | assumption | refine Chg.drewN ?_ _ | refine Chg.drew ?_ | refine Chg.alloc ?_ _ | refine Chg.setCell ?_ (by first | (simp; done) | (simp; omega) | (intro h; simp at h; omega)) _)))
  have hbd : Blk W1 w.heap.size 23 #[.pointer (some ⟨d, 0, none⟩)] := by rw [hW1]; exact (Blk.new w _ _).alloc _
  have hba : Blk W1 (w.heap.size + 1) 9 #[.string a] := by
    rw [hW1]
    have := Blk.new (w.alloc (.cells #[.pointer (some ⟨d, 0, none⟩)] 23)) 9 #[.string a]
    simpa using this
  have hs1 : W1.heap.size = w.heap.size + 2 := by rw [hW1]; simp
  have h1 := h.same hc1
  have hfind := disk_find d ids D M a hn W1 h1
  unfold findV at hfind
  have b0 := hbd.cell 0
  have b1 := hba.cell 0
  simp at b0 b1
  have HW1 := Lib.hid hW1
  have HC1 := Lib.hid hc1
  have HBD := Lib.hid hbd
  have HBA := Lib.hid hba
  have H1 := Lib.hid h1
  have HS1 := Lib.hid hs1
  have hpost : ∀ W, Chg (fun _ => False) w W → DPost w d ids M D W := fun W hW => DPost.same (H.out.same hW) HLT.out (hW.mono (by simp))
  have HP0 := Lib.hid hpost
  clear hW1 hc1 hbd hba h1 hs1 hpost hlt
  cases ho : D.off with
  | true =>
    rw [ho] at hfind
    have HFI := Lib.hid hfind
    clear hfind ho h
    go_enter Tryd.func32, Tryd.ntmps32
    go_wp2_with fail
    rw [← HW1.out]
    refine HFI.out.mono ?_
    rintro e w' ⟨rfl, rfl⟩
    go_wp2_with fail
    go_ret
    exact ⟨rfl, HP0.out _ (HC1.out.then (by ((repeat (first | exact Chg.refl _ _ | assumption | refine Chg.drewN ?_ _ | refine Chg.drew ?_ | refine Chg.alloc ?_ _ | refine Chg.setCell ?_ (by first | (simp; done) | (simp; omega) | (intro h; simp at h; omega)) _)))))⟩
  | false =>
    rw [ho] at hfind
    cases hk : look D.names a with
    | none =>
      rw [hk] at hfind
      have HFI := Lib.hid hfind
      clear hfind ho h hk
      go_enter Tryd.func32, Tryd.ntmps32
      go_wp2_with fail
      rw [← HW1.out]
      refine HFI.out.mono ?_
      rintro e w' ⟨rfl, rfl⟩
      go_wp2_with fail
      go_ret
      exact ⟨rfl, HP0.out _ (HC1.out.then (by ((repeat (first | exact Chg.refl _ _ | assumption | refine Chg.drewN ?_ _ | refine Chg.drew ?_ | refine Chg.alloc ?_ _ | refine Chg.setCell ?_ (by first | (simp; done) | (simp; omega) | (intro h; simp at h; omega)) _)))))⟩
    | some i =>
      rw [hk] at hfind
      have ha64 := h.1.names.sz _ (look_some hk)
      have hs1 := HS1.out
      have hch := disk_change d ids D M true 52 #[.pointer (some ⟨w.heap.size, 0, none⟩), .pointer (some ⟨w.heap.size + 1, 0, none⟩)] (removeA a) W1 H1.out (by unfold removeA rename1 trapped; simp; omega) (by omega) (enters _ _ (by kernel_rfl))
        (fun W y' hy hW => act_remove d w.heap.size (w.heap.size + 1) a ids (trapped D) y' M W (trapped_ok h.1) (by show D.queue.length ≤ _; omega) ha64 hy (HBD.out.chg hW (by omega)) (HBA.out.chg hW (by omega)))
      have hl2 : w.heap.size + 1 < W1.heap.size := HBA.out.lt
      unfold fptr at hfind
      simp only at hfind
      generalize ids.getD i 0 = q at hfind
      have HFI := Lib.hid hfind
      have HCH := Lib.hid hch
      clear hfind ho h hk ha64 hch hs1
      go_enter Tryd.func32, Tryd.ntmps32
      go_wp2_with fail
      rw [← HW1.out]
      refine HFI.out.mono ?_
      rintro e w' ⟨rfl, rfl⟩
      go_wp2_with fail
      refine HCH.out.mono ?_
      rintro e w3 ⟨rfl, hp⟩
      have HP := Lib.hid hp
      clear hp
      go_wp2_with fail
      go_ret
      exact ⟨rfl, HP.out.first HLT.out (HC1.out.mono (by simp))⟩

def breakD (D : DiskV) (n : Int) : DiskV := { D with fullL := max 1 n }
def onD (D : DiskV) : DiskV := { D with off := false, cutL := 0, cutN := 0, cutB := [], fullL := 0 }
theorem break_ok {D : DiskV} (h : DiskOk D) {n : Int} (hn : n ≤ 9223372036854775807) : DiskOk (breakD D n) := { h with fullL := by show 0 ≤ max 1 n ∧ max 1 n ≤ _; omega }
theorem on_ok {D : DiskV} (h : DiskOk D) : DiskOk (onD D) := { h with cutL := by simp [onD], fullL := by simp [onD], cutN := by simp [onD], cutB := by simp [onD] }

end Go.Proofs.YtjfbcjmnjlehaaaDoor
