/-
  The disk: Sync, SyncDir, Rename, Remove.
-/
import Derived.Test.YtjfbcjmnjlehaaaGreatDoorDiskH
import Derived.Test.YtjfbcjmnjlehaaaGreatDoorDiskI
namespace Go.Proofs.YtjfbcjmnjlehaaaGreatDoor
open Go.RowKit
set_option linter.unusedVariables false
set_option linter.unusedSimpArgs false

def syncD (D : DiskV) (n : ByteArray) : Int × DiskV := if D.off then (13, D) else match look D.names n with | some i => changeD D false (syncA i) | none => (10, D)
def syncDirD (D : DiskV) : Int × DiskV := if D.off then (13, D) else changeD D false syncDirA
def renameD (D : DiskV) (a b : ByteArray) : Int × DiskV := if D.off then (13, D) else match look D.names a with | some i => if goodN b then changeD D true (renameA a b i) else (2, D) | none => (10, D)
def removeD (D : DiskV) (n : ByteArray) : Int × DiskV := if D.off then (13, D) else match look D.names n with | some i => changeD D true (removeA n) | none => (10, D)
theorem enters (K : Nat) (caps : Array Value) (h : (Tryz.prog.funcs[K]?).any (fun f => !(f.name == "runtime.NumGoroutine") && f.body.isSome) = true) : ∀ W : World, (callFunc K caps).run Tryz.prog W = .ok (.enter K caps) W := by
  intro W
  cases hf : Tryz.prog.funcs[K]? with
  | none => rw [hf] at h; simp at h
  | some fn =>
    rw [hf] at h
    simp only [Option.any_some, Bool.and_eq_true, Bool.not_eq_true'] at h
    obtain ⟨h1, h2⟩ := h
    have h3 : fn.body.isNone = false := by cases hb : fn.body with | none => rw [hb] at h2; cases h2 | some c => rfl
    have h4 : fn.name ≠ "runtime.NumGoroutine" := by simpa using h1
    have h5 : fn.body ≠ none := by intro e; rw [e] at h3; cases h3
    have hp : (Sem.program Sem.pure : Sem Program).run Tryz.prog W = .ok Tryz.prog W := rfl
    simp [callFunc, program, hp, hf, h4, h5, Result.andThen]

set_option maxRecDepth 100000 in
set_option maxHeartbeats 2000000 in
theorem disk_sync (d : Nat) (ids : List Nat) (D : DiskV) (M : Nat → Prop) (n : ByteArray) (hn : n.size ≤ maxLen) (hq : D.queue.length ≤ 999999990) (w : World) (h : DiskAt w d ids D M) :
    Calls Tryz.prog 41 #[.pointer (some ⟨d, 0, none⟩), .string n] w fun e w' => e = .returned (.int .i64 (syncD D n).1) ∧ DPost w d ids M (syncD D n).2 w' := by
  have hlt := h.lt
  have hfind := disk_find d ids D M n hn w h
  have H := Lib.hid h
  have HLT := Lib.hid hlt
  unfold syncD
  unfold findV at hfind
  cases ho : D.off with
  | true =>
    rw [ho] at hfind
    have HFI := Lib.hid hfind
    have hpost : ∀ W, Chg (fun _ => False) w W → DPost w d ids M D W := fun W hW => DPost.same (H.out.same hW) HLT.out (hW.mono (by simp))
    have HP := Lib.hid hpost
    clear hfind ho h hlt hpost
    go_enter Tryz.func41, Tryz.ntmps41
    go_wp2_with fail
    refine HFI.out.mono ?_
    rintro e w' ⟨rfl, rfl⟩
    go_wp2_with fail
    go_ret
    exact ⟨rfl, HP.out _ (by ((repeat (first | exact Chg.refl _ _ | assumption | refine Chg.drewN ?_ _ | refine Chg.drew ?_ | refine Chg.alloc ?_ _ | refine Chg.setCell ?_ (by first | (simp; done) | (simp; omega) | (intro h; simp at h; omega)) _))))⟩
  | false =>
    rw [ho] at hfind
    cases hk : look D.names n with
    | none =>
      rw [hk] at hfind
      have HFI := Lib.hid hfind
      have hpost : ∀ W, Chg (fun _ => False) w W → DPost w d ids M D W := fun W hW => DPost.same (H.out.same hW) HLT.out (hW.mono (by simp))
      have HP := Lib.hid hpost
      clear hfind ho h hlt hk hpost
      go_enter Tryz.func41, Tryz.ntmps41
      go_wp2_with fail
      refine HFI.out.mono ?_
      rintro e w' ⟨rfl, rfl⟩
      go_wp2_with fail
      go_ret
      exact ⟨rfl, HP.out _ (by ((repeat (first | exact Chg.refl _ _ | assumption | refine Chg.drewN ?_ _ | refine Chg.drew ?_ | refine Chg.alloc ?_ _ | refine Chg.setCell ?_ (by first | (simp; done) | (simp; omega) | (intro h; simp at h; omega)) _))))⟩
    | some i =>
      rw [hk] at hfind
      have hi := h.1.names.lt _ (look_some hk)
      obtain ⟨W1, hW1⟩ : ∃ W1, W1 = w.alloc (.cells #[fptr ids i] 126) := ⟨_, rfl⟩
      have hc1 : Chg (fun _ => False) w W1 := by rw [hW1]; ((repeat (first | exact Chg.refl _ _ | assumption | refine Chg.drewN ?_ _ | refine Chg.drew ?_ | refine Chg.alloc ?_ _ | refine Chg.setCell ?_ (by first | (simp; done) | (simp; omega) | (intro h; simp at h; omega)) _)))
      have hbox : Blk W1 w.heap.size 126 #[fptr ids i] := by rw [hW1]; exact Blk.new w _ _
      have hne : w.heap.size ≠ d := by
        obtain ⟨_, y, hy⟩ := h
        have := hy.blk.lt
        omega
      have hch := disk_change d ids D M false 102 #[.pointer (some ⟨w.heap.size, 0, none⟩)] (syncA i) W1 (h.same hc1) (by simp [syncA, setF, trapped]; omega) (by omega) (enters _ _ (by kernel_rfl)) (fun W y' hy hW => act_sync d ids (trapped D) y' M W w.heap.size i (trapped_ok h.1) hi hy (hbox.chg hW hne))
      unfold fptr at hfind hW1
      simp only at hfind
      generalize ids.getD i 0 = q at hfind hW1
      have HFI := Lib.hid hfind
      have HCH := Lib.hid hch
      have HW1 := Lib.hid hW1
      have HC1 := Lib.hid hc1
      clear hfind ho h hlt hk hch hW1 hc1 hbox hne hi
      go_enter Tryz.func41, Tryz.ntmps41
      go_wp2_with fail
      refine HFI.out.mono ?_
      rintro e w' ⟨rfl, rfl⟩
      go_wp2_with fail
      rw [← HW1.out]
      refine HCH.out.mono ?_
      rintro e w2 ⟨rfl, hp⟩
      have HP := Lib.hid hp
      clear hp
      go_wp2_with fail
      go_ret
      exact ⟨rfl, HP.out.first HLT.out (HC1.out.mono (by simp))⟩

set_option maxRecDepth 100000 in
set_option maxHeartbeats 2000000 in
theorem disk_syncdir (d : Nat) (ids : List Nat) (D : DiskV) (M : Nat → Prop) (hq : D.queue.length ≤ 999999990) (w : World) (h : DiskAt w d ids D M) :
    Calls Tryz.prog 32 #[.pointer (some ⟨d, 0, none⟩)] w fun e w' => e = .returned (.int .i64 (syncDirD D).1) ∧ DPost w d ids M (syncDirD D).2 w' := by
  have hlt := h.lt
  have H := Lib.hid h
  have HLT := Lib.hid hlt
  unfold syncDirD
  obtain ⟨W1, hW1⟩ : ∃ W1, W1 = w.alloc (.cells #[.pointer (some ⟨d, 0, none⟩)] 29) := ⟨_, rfl⟩
  have hc1 : Chg (fun _ => False) w W1 := by rw [hW1]; ((repeat (first | exact Chg.refl _ _ | assumption | refine Chg.drewN ?_ _ | refine Chg.drew ?_ | refine Chg.alloc ?_ _ | refine Chg.setCell ?_ (by first | (simp; done) | (simp; omega) | (intro h; simp at h; omega)) _)))
  have hbox : Blk W1 w.heap.size 29 #[.pointer (some ⟨d, 0, none⟩)] := by rw [hW1]; exact Blk.new w _ _
  have hne : w.heap.size ≠ d := by
    obtain ⟨_, y, hy⟩ := h
    have := hy.blk.lt
    omega
  have h1 := h.same hc1
  have hmay : Calls Tryz.prog 93 #[.pointer (some ⟨d, 0, none⟩)] W1 fun e w' => e = .returned (.int .i64 (if D.off then 13 else 0)) ∧ W1 = w' := by
    obtain ⟨_, y, hy⟩ := h1
    have := hy.blk.cell 11
    exact disk_may d D.off W1 (by simpa using this)
  cases ho : D.off with
  | true =>
    rw [ho] at hmay
    have HFI := Lib.hid hmay
    have hpost : ∀ W, Chg (fun _ => False) w W → DPost w d ids M D W := fun W hW => DPost.same (H.out.same hW) HLT.out (hW.mono (by simp))
    have HP := Lib.hid hpost
    have HW1 := Lib.hid hW1
    have HC1 := Lib.hid hc1
    clear hmay ho h hlt hpost hW1 hc1 hbox hne h1
    go_enter Tryz.func32, Tryz.ntmps32
    go_wp2_with fail
    rw [← HW1.out]
    refine HFI.out.mono ?_
    rintro e w' ⟨rfl, rfl⟩
    go_wp2_with fail
    go_ret
    exact ⟨rfl, HP.out _ HC1.out⟩
  | false =>
    rw [ho] at hmay
    have hch := disk_change d ids D M false 94 #[.pointer (some ⟨w.heap.size, 0, none⟩)] syncDirA W1 h1 (by simp [syncDirA]) (by omega) (enters _ _ (by kernel_rfl)) (fun W y' hy hW => act_syncdir d w.heap.size ids (trapped D) y' M W (trapped_ok h.1) hy (hbox.chg hW hne))
    have b0 := hbox.cell 0
    simp at b0
    have HFI := Lib.hid hmay
    have HCH := Lib.hid hch
    have HW1 := Lib.hid hW1
    have HC1 := Lib.hid hc1
    clear hmay ho h hlt hch hW1 hc1 hbox hne h1
    go_enter Tryz.func32, Tryz.ntmps32
    go_wp2_with fail
    rw [← HW1.out]
    refine HFI.out.mono ?_
    rintro e w' ⟨rfl, rfl⟩
    go_wp2_with fail
    refine HCH.out.mono ?_
    rintro e w2 ⟨rfl, hp⟩
    have HP := Lib.hid hp
    clear hp
    go_wp2_with fail
    go_ret
    exact ⟨rfl, HP.out.first HLT.out (HC1.out.mono (by simp))⟩
end Go.Proofs.YtjfbcjmnjlehaaaGreatDoor
