/-
  A disk of the call's own: every call in one form; wakes.
-/
import Derived.Test.YtjfbcjmnjlehaaaGreatDoorDiskO
namespace Go.Proofs.YtjfbcjmnjlehaaaGreatDoor
open Go.RowKit
set_option linter.unusedVariables false
set_option linter.unusedSimpArgs false

/-- A disk at d whose blocks are all new since w0; nothing older has changed. -/
def DState (w0 w : World) (d : Nat) (D : DiskV) : Prop := ∃ ids M, DiskAt w d ids D M ∧ (∀ k, M k → w0.heap.size ≤ k) ∧ Chg (fun _ => False) w0 w
section
variable {w0 w w' : World} {d : Nat} {ids : List Nat} {D D' : DiskV} {M : Nat → Prop}
theorem DState.of_post (hM : ∀ k, M k → w0.heap.size ≤ k) (hc : Chg (fun _ => False) w0 w) (h : DPost w d ids M D' w') : DState w0 w' d D' := by
  obtain ⟨ids', ha, _, hc2⟩ := h
  have := hc.size
  refine ⟨ids', _, ha, fun k hk => ?_, hc.trans hc2 fun k hk e => by have := hM k e; omega⟩
  rcases hk with e | e
  · exact hM k e
  · omega
theorem DState.same (h : DState w0 w d D) (hc : Chg (fun _ => False) w w') : DState w0 w' d D := by
  obtain ⟨ids, M, ha, hM, hc0⟩ := h
  exact ⟨ids, M, ha.same hc, hM, hc0.then hc⟩
theorem DState.frame (h : DState w0 w d D) : Chg (fun _ => False) w0 w := h.choose_spec.choose_spec.2.2
theorem DState.ok (h : DState w0 w d D) : DiskOk D := h.choose_spec.choose_spec.1.1
end
/-- Bounds that a disk in a law keeps well below. -/
structure DSmall (D : DiskV) : Prop where
  q : D.queue.length ≤ 999999990
  f : D.files.length ≤ 999999990
  n : D.names.length ≤ 1000000

section
variable (w0 : World) (d : Nat) (D : DiskV) (n : ByteArray) (hn : n.size ≤ maxLen) (hD : DSmall D) (w : World) (h : DState w0 w d D)
include hn hD h
theorem st_create : Calls Tryz.prog 31 #[.pointer (some ⟨d, 0, none⟩), .string n] w fun e w' => e = .returned (.int .i64 (createD D n).1) ∧ DState w0 w' d (createD D n).2 := by
  obtain ⟨ids, M, ha, hM, hc⟩ := h
  exact (disk_create d ids D M n hn hD.q hD.f w ha).mono fun e w' ⟨he, hp⟩ => ⟨he, DState.of_post hM hc hp⟩
theorem st_append (s : ByteArray) (hs : s.size ≤ 140737488355328) : Calls Tryz.prog 39 #[.pointer (some ⟨d, 0, none⟩), .string n, .string s] w fun e w' => e = .returned (.int .i64 (appendD D n s).1) ∧ DState w0 w' d (appendD D n s).2 := by
  obtain ⟨ids, M, ha, hM, hc⟩ := h
  exact (disk_append d ids D M n s hn hs hD.n hD.q w ha).mono fun e w' ⟨he, hp⟩ => ⟨he, DState.of_post hM hc hp⟩
theorem st_sync : Calls Tryz.prog 41 #[.pointer (some ⟨d, 0, none⟩), .string n] w fun e w' => e = .returned (.int .i64 (syncD D n).1) ∧ DState w0 w' d (syncD D n).2 := by
  obtain ⟨ids, M, ha, hM, hc⟩ := h
  exact (disk_sync d ids D M n hn hD.q w ha).mono fun e w' ⟨he, hp⟩ => ⟨he, DState.of_post hM hc hp⟩
theorem st_rename (b : ByteArray) (hb : b.size ≤ maxLen) : Calls Tryz.prog 53 #[.pointer (some ⟨d, 0, none⟩), .string n, .string b] w fun e w' => e = .returned (.int .i64 (renameD D n b).1) ∧ DState w0 w' d (renameD D n b).2 := by
  obtain ⟨ids, M, ha, hM, hc⟩ := h
  exact (disk_rename d ids D M n b hn hb hD.q w ha).mono fun e w' ⟨he, hp⟩ => ⟨he, DState.of_post hM hc hp⟩
omit hD in
theorem st_read : Calls Tryz.prog 45 #[.pointer (some ⟨d, 0, none⟩), .string n] w fun e w' => e = .returned (.tuple #[.string (readD D n).1, .int .i64 (readD D n).2]) ∧ DState w0 w' d D := by
  have h' := h
  obtain ⟨ids, M, ha, hM, hc⟩ := h
  exact (disk_read d ids D M n hn w ha).mono fun e w' ⟨he, hp⟩ => ⟨he, h'.same hp⟩
end
theorem st_syncdir (w0 : World) (d : Nat) (D : DiskV) (hD : DSmall D) (w : World) (h : DState w0 w d D) : Calls Tryz.prog 32 #[.pointer (some ⟨d, 0, none⟩)] w fun e w' => e = .returned (.int .i64 (syncDirD D).1) ∧ DState w0 w' d (syncDirD D).2 := by
  obtain ⟨ids, M, ha, hM, hc⟩ := h
  exact (disk_syncdir d ids D M hD.q w ha).mono fun e w' ⟨he, hp⟩ => ⟨he, DState.of_post hM hc hp⟩
theorem st_crash (w0 : World) (d : Nat) (D : DiskV) (names : Int) (bytes : List Int) (bv : Value) (hq : D.queue.length ≤ 999999990) (hn1 : -9223372036854775808 ≤ names) (hn2 : names ≤ 9223372036854775807) (w : World) (h : DState w0 w d D)
    (hbs : ∀ W, Chg (fun k => w0.heap.size ≤ k) w W → RInts W bv bytes) : Calls Tryz.prog 57 #[.pointer (some ⟨d, 0, none⟩), .int .i64 names, bv] w fun e w' => e = .returned (.tuple #[]) ∧ DState w0 w' d (crashD D names bytes) := by
  obtain ⟨ids, M, ha, hM, hc⟩ := h
  exact (disk_crash d ids D M names bytes bv (by omega) hn1 hn2 w ha fun W hW => hbs W (hW.mono fun k _ e => hM k e)).mono fun e w' ⟨he, hp⟩ => ⟨he, DState.of_post hM hc hp⟩
theorem st_cut (w0 : World) (d : Nat) (D : DiskV) (n names : Int) (bytes : List Int) (bv : Value) (hl : bytes.length ≤ 17592186044416) (hn : n ≤ 9223372036854775807) (hn1 : -9223372036854775808 ≤ names) (hn2 : names ≤ 9223372036854775807) (w : World) (h : DState w0 w d D)
    (hbs : RInts w bv bytes) : Calls Tryz.prog 59 #[.pointer (some ⟨d, 0, none⟩), .int .i64 n, .int .i64 names, bv] w fun e w' => e = .returned (.tuple #[]) ∧ DState w0 w' d (cutD D n names bytes) := by
  obtain ⟨ids, M, ha, hM, hc⟩ := h
  exact (disk_cut d ids D M n names bytes bv hl hn hn1 hn2 w ha hbs).mono fun e w' ⟨he, hp⟩ => ⟨he, DState.of_post hM hc hp⟩
theorem st_new (room : Int) (hr : room ≤ 9223372036854775807) (w : World) : Calls Tryz.prog 11 #[.int .i64 room] w fun e w' => e = .returned (.pointer (some ⟨w.heap.size + 2, 0, none⟩)) ∧ DState w w' (w.heap.size + 2) (startD room) :=
  (disk_new room hr w).mono fun e w' ⟨he, ha, hc, _⟩ => ⟨he, [], _, ha, fun k hk => hk.1, hc⟩
theorem rints_nil (W : World) : RInts W (.slice none 0 0) [] := ⟨none, 0, rfl, by decide, by simp, by simp⟩

/-! ### wakes -/
def sA : ByteArray := ⟨#[97]⟩
def sXY : ByteArray := ⟨#[120, 121]⟩
def sZ : ByteArray := ⟨#[122]⟩
def wk1 : DiskV := (createD (startD 9) sA).2
def wk2 : DiskV := (appendD wk1 sA sXY).2
def wk3 : DiskV := (syncD wk2 sA).2
def wk4 : DiskV := (syncDirD wk3).2
def wk5 : DiskV := (appendD wk4 sA sZ).2
def wk6 : DiskV := crashD wk5 0 []
theorem wk_res : (createD (startD 9) sA).1 = 0 ∧ (appendD wk1 sA sXY).1 = 0 ∧ (syncD wk2 sA).1 = 0 ∧ (syncDirD wk3).1 = 0 ∧ (appendD wk4 sA sZ).1 = 0 ∧ readD wk6 sA = (sXY, 0) := by
  refine ⟨?_, ?_, ?_, ?_, ?_, ?_⟩ <;> decide +kernel
end Go.Proofs.YtjfbcjmnjlehaaaGreatDoor
