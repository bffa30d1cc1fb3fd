/-
  A disk of the call's own: every call in one form; wakes.
  The disk: Remove, Break, On, Off.
-/
import Derived.Test.YtjfbcjmnjlehaaaGreatDoorZMg14
namespace Go.Proofs.YtjfbcjmnjlehaaaGreatDoor
open Go.RowKit
set_option linter.unusedVariables false
set_option linter.unusedSimpArgs false

/-- A disk at d whose blocks are all new since w0; nothing older has changed. -/
def DState (w0 w : World) (d : Nat) (D : DiskV) : Prop := ∃ ids M, DiskAt w d ids D M ∧ (∀ k, M k → w0.heap.size ≤ k) ∧ Chg (fun _ => False) w0 w
section
variable {w0 w w' : World} {d : Nat} {ids : List Nat} {D D' : DiskV} {M : Nat → Prop}
theorem DState.of_post (hM : ∀ k, M k → w0.heap.size ≤ k) (hc : Chg (fun _ => False) w0 w) (h : DPost w d ids M D' w') : DState w0 w' d D' := by
  obtain ⟨ids', ha, _, hc2⟩ := h
  have := hc.size
  refine ⟨ids', _, ha, fun k hk => ?_, hc.trans hc2 fun k hk e => by have := hM k e; omega⟩
  rcases hk with e | e
  · exact hM k e
  · omega
theorem DState.same (h : DState w0 w d D) (hc : Chg (fun _ => False) w w') : DState w0 w' d D := by
  obtain ⟨ids, M, ha, hM, hc0⟩ := h
  exact ⟨ids, M, ha.same hc, hM, hc0.then hc⟩
theorem DState.frame (h : DState w0 w d D) : Chg (fun _ => False) w0 w := h.choose_spec.choose_spec.2.2
theorem DState.ok (h : DState w0 w d D) : DiskOk D := h.choose_spec.choose_spec.1.1
end
/-- Bounds that a disk in a law keeps well below. -/
structure DSmall (D : DiskV) : Prop where
  q : D.queue.length ≤ 999999990
  f : D.files.length ≤ 999999990
  n : D.names.length ≤ 1000000

section
variable (w0 : World) (d : Nat) (D : DiskV) (n : ByteArray) (hn : n.size ≤ maxLen) (hD : DSmall D) (w : World) (h : DState w0 w d D)
include hn hD h
theorem st_create : Calls Tryz.prog 31 #[.pointer (some ⟨d, 0, none⟩), .string n] w fun e w' => e = .returned (.int .i64 (createD D n).1) ∧ DState w0 w' d (createD D n).2 := by
  obtain ⟨ids, M, ha, hM, hc⟩ := h
  exact (disk_create d ids D M n hn hD.q hD.f w ha).mono fun e w' ⟨he, hp⟩ => ⟨he, DState.of_post hM hc hp⟩
theorem st_append (s : ByteArray) (hs : s.size ≤ 140737488355328) : Calls Tryz.prog 39 #[.pointer (some ⟨d, 0, none⟩), .string n, .string s] w fun e w' => e = .returned (.int .i64 (appendD D n s).1) ∧ DState w0 w' d (appendD D n s).2 := by
  obtain ⟨ids, M, ha, hM, hc⟩ := h
  exact (disk_append d ids D M n s hn hs hD.n hD.q w ha).mono fun e w' ⟨he, hp⟩ => ⟨he, DState.of_post hM hc hp⟩
theorem st_sync : Calls Tryz.prog 41 #[.pointer (some ⟨d, 0, none⟩), .string n] w fun e w' => e = .returned (.int .i64 (syncD D n).1) ∧ DState w0 w' d (syncD D n).2 := by
  obtain ⟨ids, M, ha, hM, hc⟩ := h
  exact (disk_sync d ids D M n hn hD.q w ha).mono fun e w' ⟨he, hp⟩ => ⟨he, DState.of_post hM hc hp⟩
theorem st_rename (b : ByteArray) (hb : b.size ≤ maxLen) : Calls Tryz.prog 53 #[.pointer (some ⟨d, 0, none⟩), .string n, .string b] w fun e w' => e = .returned (.int .i64 (renameD D n b).1) ∧ DState w0 w' d (renameD D n b).2 := by
  obtain ⟨ids, M, ha, hM, hc⟩ := h
  exact (disk_rename d ids D M n b hn hb hD.q w ha).mono fun e w' ⟨he, hp⟩ => ⟨he, DState.of_post hM hc hp⟩
omit hD in
theorem st_read : Calls Tryz.prog 45 #[.pointer (some ⟨d, 0, none⟩), .string n] w fun e w' => e = .returned (.tuple #[.string (readD D n).1, .int .i64 (readD D n).2]) ∧ DState w0 w' d D := by
  have h' := h
  obtain ⟨ids, M, ha, hM, hc⟩ := h
  exact (disk_read d ids D M n hn w ha).mono fun e w' ⟨he, hp⟩ => ⟨he, h'.same hp⟩
end
theorem st_syncdir (w0 : World) (d : Nat) (D : DiskV) (hD : DSmall D) (w : World) (h : DState w0 w d D) : Calls Tryz.prog 32 #[.pointer (some ⟨d, 0, none⟩)] w fun e w' => e = .returned (.int .i64 (syncDirD D).1) ∧ DState w0 w' d (syncDirD D).2 := by
  obtain ⟨ids, M, ha, hM, hc⟩ := h
  exact (disk_syncdir d ids D M hD.q w ha).mono fun e w' ⟨he, hp⟩ => ⟨he, DState.of_post hM hc hp⟩
theorem st_crash (w0 : World) (d : Nat) (D : DiskV) (names : Int) (bytes : List Int) (bv : Value) (hq : D.queue.length ≤ 999999990) (hn1 : -9223372036854775808 ≤ names) (hn2 : names ≤ 9223372036854775807) (w : World) (h : DState w0 w d D)
    (hbs : ∀ W, Chg (fun k => w0.heap.size ≤ k) w W → RInts W bv bytes) : Calls Tryz.prog 57 #[.pointer (some ⟨d, 0, none⟩), .int .i64 names, bv] w fun e w' => e = .returned (.tuple #[]) ∧ DState w0 w' d (crashD D names bytes) := by
  obtain ⟨ids, M, ha, hM, hc⟩ := h
  exact (disk_crash d ids D M names bytes bv (by omega) hn1 hn2 w ha fun W hW => hbs W (hW.mono fun k _ e => hM k e)).mono fun e w' ⟨he, hp⟩ => ⟨he, DState.of_post hM hc hp⟩
theorem st_cut (w0 : World) (d : Nat) (D : DiskV) (n names : Int) (bytes : List Int) (bv : Value) (hl : bytes.length ≤ 17592186044416) (hn : n ≤ 9223372036854775807) (hn1 : -9223372036854775808 ≤ names) (hn2 : names ≤ 9223372036854775807) (w : World) (h : DState w0 w d D)
    (hbs : RInts w bv bytes) : Calls Tryz.prog 59 #[.pointer (some ⟨d, 0, none⟩), .int .i64 n, .int .i64 names, bv] w fun e w' => e = .returned (.tuple #[]) ∧ DState w0 w' d (cutD D n names bytes) := by
  obtain ⟨ids, M, ha, hM, hc⟩ := h
  exact (disk_cut d ids D M n names bytes bv hl hn hn1 hn2 w ha hbs).mono fun e w' ⟨he, hp⟩ => ⟨he, DState.of_post hM hc hp⟩
theorem st_new (room : Int) (hr : room ≤ 9223372036854775807) (w : World) : Calls Tryz.prog 11 #[.int .i64 room] w fun e w' => e = .returned (.pointer (some ⟨w.heap.size + 2, 0, none⟩)) ∧ DState w w' (w.heap.size + 2) (startD room) :=
  (disk_new room hr w).mono fun e w' ⟨he, ha, hc, _⟩ => ⟨he, [], _, ha, fun k hk => hk.1, hc⟩
theorem rints_nil (W : World) : RInts W (.slice none 0 0) [] := ⟨none, 0, rfl, by decide, by simp, by simp⟩

/-! ### wakes -/
def sA : ByteArray := ⟨#[97]⟩
def sXY : ByteArray := ⟨#[120, 121]⟩
def sZ : ByteArray := ⟨#[122]⟩
def wk1 : DiskV := (createD (startD 9) sA).2
def wk2 : DiskV := (appendD wk1 sA sXY).2
def wk3 : DiskV := (syncD wk2 sA).2
def wk4 : DiskV := (syncDirD wk3).2
def wk5 : DiskV := (appendD wk4 sA sZ).2
def wk6 : DiskV := crashD wk5 0 []
theorem wk_res : (createD (startD 9) sA).1 = 0 ∧ (appendD wk1 sA sXY).1 = 0 ∧ (syncD wk2 sA).1 = 0 ∧ (syncDirD wk3).1 = 0 ∧ (appendD wk4 sA sZ).1 = 0 ∧ readD wk6 sA = (sXY, 0) := by
  refine ⟨?_, ?_, ?_, ?_, ?_, ?_⟩ <;> decide +kernel
end Go.Proofs.YtjfbcjmnjlehaaaGreatDoor
namespace Go.Proofs.YtjfbcjmnjlehaaaGreatDoor
open Go.RowKit
set_option linter.unusedVariables false
set_option linter.unusedSimpArgs false

set_option maxRecDepth 100000 in
set_option maxHeartbeats 4000000 in
theorem disk_remove (d : Nat) (ids : List Nat) (D : DiskV) (M : Nat → Prop) (a : ByteArray) (hn : a.size ≤ maxLen) (hq : D.queue.length ≤ 999999990) (w : World) (h : DiskAt w d ids D M) :
    Calls Tryz.prog 51 #[.pointer (some ⟨d, 0, none⟩), .string a] w fun e w' => e = .returned (.int .i64 (removeD D a).1) ∧ DPost w d ids M (removeD D a).2 w' := by
  have hlt := h.lt
  have hdl := h.d_lt
  have H := Lib.hid h
  have HLT := Lib.hid hlt
  unfold removeD
  obtain ⟨W1, hW1⟩ : ∃ W1, W1 = (w.alloc (.cells #[.pointer (some ⟨d, 0, none⟩)] 29)).alloc (.cells #[.string a] 9) := ⟨_, rfl⟩
  have hc1 : Chg (fun _ => False) w W1 := by rw [hW1]; ((repeat (first | exact Chg.refl _ _ | assumption | refine Chg.drewN ?_ _ | refine Chg.drew ?_ | refine Chg.alloc ?_ _ | refine Chg.setCell ?_ (by first | (simp; done) | (simp; omega) | (intro h; simp at h; omega)) _)))
  have hbd : Blk W1 w.heap.size 29 #[.pointer (some ⟨d, 0, none⟩)] := by rw [hW1]; exact (Blk.new w _ _).alloc _
  have hba : Blk W1 (w.heap.size + 1) 9 #[.string a] := by
    rw [hW1]
    have := Blk.new (w.alloc (.cells #[.pointer (some ⟨d, 0, none⟩)] 29)) 9 #[.string a]
    simpa using this
  have hs1 : W1.heap.size = w.heap.size + 2 := by rw [hW1]; simp
  have h1 := h.same hc1
  have hfind := disk_find d ids D M a hn W1 h1
  unfold findV at hfind
  have b0 := hbd.cell 0
  have b1 := hba.cell 0
  simp at b0 b1
  have HW1 := Lib.hid hW1
  have HC1 := Lib.hid hc1
  have HBD := Lib.hid hbd
  have HBA := Lib.hid hba
  have H1 := Lib.hid h1
  have HS1 := Lib.hid hs1
  have hpost : ∀ W, Chg (fun _ => False) w W → DPost w d ids M D W := fun W hW => DPost.same (H.out.same hW) HLT.out (hW.mono (by simp))
  have HP0 := Lib.hid hpost
  clear hW1 hc1 hbd hba h1 hs1 hpost hlt
  cases ho : D.off with
  | true =>
    rw [ho] at hfind
    have HFI := Lib.hid hfind
    clear hfind ho h
    go_enter Tryz.func51, Tryz.ntmps51
    go_wp2_with fail
    rw [← HW1.out]
    refine HFI.out.mono ?_
    rintro e w' ⟨rfl, rfl⟩
    go_wp2_with fail
    go_ret
    exact ⟨rfl, HP0.out _ (HC1.out.then (by ((repeat (first | exact Chg.refl _ _ | assumption | refine Chg.drewN ?_ _ | refine Chg.drew ?_ | refine Chg.alloc ?_ _ | refine Chg.setCell ?_ (by first | (simp; done) | (simp; omega) | (intro h; simp at h; omega)) _)))))⟩
  | false =>
    rw [ho] at hfind
    cases hk : look D.names a with
    | none =>
      rw [hk] at hfind
      have HFI := Lib.hid hfind
      clear hfind ho h hk
      go_enter Tryz.func51, Tryz.ntmps51
      go_wp2_with fail
      rw [← HW1.out]
      refine HFI.out.mono ?_
      rintro e w' ⟨rfl, rfl⟩
      go_wp2_with fail
      go_ret
      exact ⟨rfl, HP0.out _ (HC1.out.then (by ((repeat (first | exact Chg.refl _ _ | assumption | refine Chg.drewN ?_ _ | refine Chg.drew ?_ | refine Chg.alloc ?_ _ | refine Chg.setCell ?_ (by first | (simp; done) | (simp; omega) | (intro h; simp at h; omega)) _)))))⟩
    | some i =>
      rw [hk] at hfind
      have ha64 := h.1.names.sz _ (look_some hk)
      have hs1 := HS1.out
      have hch := disk_change d ids D M true 106 #[.pointer (some ⟨w.heap.size, 0, none⟩), .pointer (some ⟨w.heap.size + 1, 0, none⟩)] (removeA a) W1 H1.out (by unfold removeA rename1 trapped; simp; omega) (by omega) (enters _ _ (by kernel_rfl))
        (fun W y' hy hW => act_remove d w.heap.size (w.heap.size + 1) a ids (trapped D) y' M W (trapped_ok h.1) (by show D.queue.length ≤ _; omega) ha64 hy (HBD.out.chg hW (by omega)) (HBA.out.chg hW (by omega)))
      have hl2 : w.heap.size + 1 < W1.heap.size := HBA.out.lt
      unfold fptr at hfind
      simp only at hfind
      generalize ids.getD i 0 = q at hfind
      have HFI := Lib.hid hfind
      have HCH := Lib.hid hch
      clear hfind ho h hk ha64 hch hs1
      go_enter Tryz.func51, Tryz.ntmps51
      go_wp2_with fail
      rw [← HW1.out]
      refine HFI.out.mono ?_
      rintro e w' ⟨rfl, rfl⟩
      go_wp2_with fail
      refine HCH.out.mono ?_
      rintro e w3 ⟨rfl, hp⟩
      have HP := Lib.hid hp
      clear hp
      go_wp2_with fail
      go_ret
      exact ⟨rfl, HP.out.first HLT.out (HC1.out.mono (by simp))⟩

def breakD (D : DiskV) (n : Int) : DiskV := { D with fullL := max 1 n }
def onD (D : DiskV) : DiskV := { D with off := false, cutL := 0, cutN := 0, cutB := [], fullL := 0 }
theorem break_ok {D : DiskV} (h : DiskOk D) {n : Int} (hn : n ≤ 9223372036854775807) : DiskOk (breakD D n) := { h with fullL := by show 0 ≤ max 1 n ∧ max 1 n ≤ _; omega }
theorem on_ok {D : DiskV} (h : DiskOk D) : DiskOk (onD D) := { h with cutL := by simp [onD], fullL := by simp [onD], cutN := by simp [onD], cutB := by simp [onD] }

set_option maxRecDepth 100000 in
theorem disk_break (d : Nat) (ids : List Nat) (D : DiskV) (M : Nat → Prop) (n : Int) (hn : n ≤ 9223372036854775807) (w : World) (h : DiskAt w d ids D M) :
    Calls Tryz.prog 61 #[.pointer (some ⟨d, 0, none⟩), .int .i64 n] w fun e w' => e = .returned (.tuple #[]) ∧ DPost w d ids M (breakD D n) w' := by
  obtain ⟨hok, y, h⟩ := h
  have k8 := h.blk.cell 8
  have k9 := h.blk.cell 9
  have k10 := h.blk.cell 10
  have j8 := h.blk.frozen 8
  have j9 := h.blk.frozen 9
  have j10 := h.blk.frozen 10
  simp at k8 k9 k10
  have hfin : ∀ m, m = max 1 n → DPost w d ids M (breakD D n) (((w.setCell ⟨d, 8, none⟩ (.int .i64 m)).setCell ⟨d, 9, none⟩ (.int .i64 0)).setCell ⟨d, 10, none⟩ (.slice none 0 0)) := by
    rintro m rfl
    have hset : Chg (fun k => k = d) w (((w.setCell ⟨d, 8, none⟩ (.int .i64 (max 1 n))).setCell ⟨d, 9, none⟩ (.int .i64 0)).setCell ⟨d, 10, none⟩ (.slice none 0 0)) := Chg.setOwn (Chg.setOwn (Chg.setOwn (Chg.refl _ _) _ _) _ _) _ _
    have hb := ((h.blk.set_ 8 (.int .i64 (max 1 n))).set_ 9 (.int .i64 0)).set_ 10 (.slice none 0 0)
    have hd := h.setD hset D.cutL D.cutN D.cutB (max 1 n) D.off y.cv (by simpa using hb) (h.cutb.chg hset fun k hk => (h.cut_ne hk).1) (fun k hk => h.mine k (.inr (.inr (.inr (.inr (.inr hk))))))
    exact ⟨ids, ⟨break_ok hok hn, _, hd.more (fun k hk => .inl hk) (mx_lt h.lt hset.size)⟩, List.prefix_refl _, hset.mono fun k _ e => by rw [e]; exact h.mine _ (.inl rfl)⟩
  have HF := Lib.hid hfin
  clear h hfin hok
  go_enter Tryz.func61, Tryz.ntmps61
  go_wp2_with fail
  all_goals
    first | go_end0 | refine bodyPost_ret (results_none rfl _ _ _) rfl ?_
    exact ⟨rfl, HF.out _ (by omega)⟩

set_option maxRecDepth 100000 in
theorem disk_on (d : Nat) (ids : List Nat) (D : DiskV) (M : Nat → Prop) (w : World) (h : DiskAt w d ids D M) :
    Calls Tryz.prog 63 #[.pointer (some ⟨d, 0, none⟩)] w fun e w' => e = .returned (.tuple #[]) ∧ DPost w d ids M (onD D) w' := by
  obtain ⟨hok, y, h⟩ := h
  have k5 := h.blk.cell 5
  have k6 := h.blk.cell 6
  have k7 := h.blk.cell 7
  have k8 := h.blk.cell 8
  have k9 := h.blk.cell 9
  have k10 := h.blk.cell 10
  have k11 := h.blk.cell 11
  have j5 := h.blk.frozen 5
  have j6 := h.blk.frozen 6
  have j7 := h.blk.frozen 7
  have j8 := h.blk.frozen 8
  have j9 := h.blk.frozen 9
  have j10 := h.blk.frozen 10
  have j11 := h.blk.frozen 11
  simp at k5 k6 k7 k8 k9 k10 k11
  have hfin : ∀ W, W = ((((((w.setCell ⟨d, 11, none⟩ (.bool false)).setCell ⟨d, 5, none⟩ (.int .i64 0)).setCell ⟨d, 6, none⟩ (.int .i64 0)).setCell ⟨d, 7, none⟩ (.slice none 0 0)).setCell ⟨d, 8, none⟩ (.int .i64 0)).setCell ⟨d, 9, none⟩ (.int .i64 0)).setCell ⟨d, 10, none⟩ (.slice none 0 0) → DPost w d ids M (onD D) W := by
    rintro W hW
    have hset : Chg (fun k => k = d) w W := by rw [hW]; exact Chg.setOwn (Chg.setOwn (Chg.setOwn (Chg.setOwn (Chg.setOwn (Chg.setOwn (Chg.setOwn (Chg.refl _ _) _ _) _ _) _ _) _ _) _ _) _ _) _ _
    have hb := ((((((h.blk.set_ 11 (.bool false)).set_ 5 (.int .i64 0)).set_ 6 (.int .i64 0)).set_ 7 (.slice none 0 0)).set_ 8 (.int .i64 0)).set_ 9 (.int .i64 0)).set_ 10 (.slice none 0 0)
    rw [← hW] at hb
    have hd := h.setD hset 0 0 [] 0 false (.slice none 0 0) (by simpa using hb) own_nil (by simp [Value.ownBlock])
    exact ⟨ids, ⟨on_ok hok, _, hd.more (fun k hk => .inl hk) (mx_lt h.lt hset.size)⟩, List.prefix_refl _, hset.mono fun k _ e => by rw [e]; exact h.mine _ (.inl rfl)⟩
  have HF := Lib.hid hfin
  clear h hfin hok
  go_enter Tryz.func63, Tryz.ntmps63
  go_wp2_with fail
  first | go_end0 | refine bodyPost_ret (results_none rfl _ _ _) rfl ?_
  exact ⟨rfl, HF.out _ rfl⟩
theorem disk_off (d : Nat) (ids : List Nat) (D : DiskV) (M : Nat → Prop) (w : World) (h : DiskAt w d ids D M) :
    Calls Tryz.prog 69 #[.pointer (some ⟨d, 0, none⟩)] w fun e w' => e = .returned (.bool D.off) ∧ w = w' := by
  obtain ⟨hok, y, h⟩ := h
  have k11 := h.blk.cell 11
  simp at k11
  clear h hok
  go_enter Tryz.func69, Tryz.ntmps69
  go_wp2_with fail
  go_ret
  exact ⟨rfl, rfl⟩
end Go.Proofs.YtjfbcjmnjlehaaaGreatDoor
