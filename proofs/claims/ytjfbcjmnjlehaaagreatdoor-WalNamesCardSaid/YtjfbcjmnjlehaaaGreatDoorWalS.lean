/-
  A disk of the call's own beside blocks that it leaves alone: every call in one form. Plain lemmas over the disk's contracts; no condition.
-/
import Derived.Test.YtjfbcjmnjlehaaaGreatDoorDiskS
import Derived.Test.YtjfbcjmnjlehaaaGreatDoorLst
import Derived.Test.YtjfbcjmnjlehaaaGreatDoorDiskZa
import Derived.Test.YtjfbcjmnjlehaaaGreatDoorDiskZb
namespace Go.Proofs.YtjfbcjmnjlehaaaGreatDoor
open Go.RowKit
set_option linter.unusedVariables false
set_option linter.unusedSimpArgs false

/-- The disk at d has D; it was made behind w0; the blocks of Y are none of its own. -/
def DY (w0 w : World) (d : Nat) (D : DiskV) (Y : Nat → Prop) : Prop :=
  ∃ ids M, DiskAt w d ids D M ∧ (∀ k, M k → w0.heap.size ≤ k) ∧ (∀ k, Y k → k < w.heap.size ∧ ¬ M k) ∧ Chg (fun _ => False) w0 w
/-- The blocks of Y are as they were. -/
def Kept (Y : Nat → Prop) (w w' : World) : Prop := Chg (fun k => ¬ Y k) w w'
section
variable {w0 w w' w1 w2 : World} {d : Nat} {D D' : DiskV} {Y Z : Nat → Prop} {ids : List Nat} {M : Nat → Prop} {g : Nat} {t : TypeId} {cs : Array Value}
theorem Kept.refl (Y : Nat → Prop) (w : World) : Kept Y w w := Chg.refl _ _
theorem Kept.then (h : Kept Y w w1) (h' : Kept Y w1 w2) : Kept Y w w2 := Chg.then h h'
theorem Kept.of_chg (h : Chg (fun _ => False) w w') : Kept Y w w' := h.mono fun _ _ h => h.elim
theorem Kept.mono (h : Kept Y w w') (hZ : ∀ k, Z k → Y k) : Kept Z w w' := Chg.mono h fun k _ hn hz => hn (hZ k hz)
theorem Blk.kept (h : Blk w g t cs) (hk : Kept Y w w') (hg : Y g) : Blk w' g t cs := h.chg hk fun hn => hn hg
theorem Kept.cell (h : Kept Y w w') {p : Addr} (hp : Y p.block) {v : Value} (hv : w.cell? p = some v) : w'.cell? p = some v := (Chg.cell h (World.block_lt_of_cell? w p hv) fun hn => hn hp).trans hv
theorem Lst.kept {α : Type} {C : Codec α} {v : Value} {l : List α} (h : Lst C w v l) (hk : Kept Y w w') (hv : ∀ k, v.ownBlock = some k → Y k) : Lst C w' v l := h.chg hk fun k e hn => hn (hv k e)
theorem DY.of (h : DState w0 w d D) : DY w0 w d D (fun _ => False) := by
  obtain ⟨ids, M, ha, hM, hc⟩ := h
  exact ⟨ids, M, ha, hM, fun _ h => h.elim, hc⟩
theorem DY.lt (h : DY w0 w d D Y) : ∀ k, Y k → k < w.heap.size := by
  obtain ⟨ids, M, ha, hM, hY, hc⟩ := h
  exact fun k hk => (hY k hk).1
theorem DY.frame (h : DY w0 w d D Y) : Chg (fun _ => False) w0 w := by
  obtain ⟨ids, M, ha, hM, hY, hc⟩ := h
  exact hc
theorem DY.ok (h : DY w0 w d D Y) : DiskOk D := by
  obtain ⟨ids, M, ha, hM, hY, hc⟩ := h
  exact ha.1
theorem DY.mono (h : DY w0 w d D Y) (hZ : ∀ k, Z k → Y k) : DY w0 w d D Z := by
  obtain ⟨ids, M, ha, hM, hY, hc⟩ := h
  exact ⟨ids, M, ha, hM, fun k hk => hY k (hZ k hk), hc⟩
theorem DY.same (h : DY w0 w d D Y) (hc : Chg (fun _ => False) w w') : DY w0 w' d D Y := by
  obtain ⟨ids, M, ha, hM, hY, hc0⟩ := h
  exact ⟨ids, M, ha.same hc, hM, fun k hk => ⟨Nat.lt_of_lt_of_le (hY k hk).1 hc.size, (hY k hk).2⟩, hc0.then hc⟩
/-- New blocks may be watched too. -/
theorem DY.grow (h : DY w0 w d D Y) (hc : Chg (fun _ => False) w w') : DY w0 w' d D (fun k => Y k ∨ (w.heap.size ≤ k ∧ k < w'.heap.size)) := by
  obtain ⟨ids, M, ha, hM, hY, hc0⟩ := h
  have hlt := ha.lt
  have hsz := hc.size
  refine ⟨ids, M, ha.same hc, hM, fun k hk => ?_, hc0.then hc⟩
  rcases hk with hk | hk
  · exact ⟨Nat.lt_of_lt_of_le (hY k hk).1 hsz, (hY k hk).2⟩
  · exact ⟨hk.2, fun e => by have := hlt k e; omega⟩
theorem DY.post (hM : ∀ k, M k → w0.heap.size ≤ k) (hY : ∀ k, Y k → k < w.heap.size ∧ ¬ M k) (hc : Chg (fun _ => False) w0 w) (h : DPost w d ids M D' w') : DY w0 w' d D' Y ∧ Kept Y w w' := by
  obtain ⟨ids', ha, _, hc2⟩ := h
  have hs := hc.size
  have hs2 := hc2.size
  refine ⟨⟨ids', _, ha, fun k hk => ?_, fun k hk => ⟨Nat.lt_of_lt_of_le (hY k hk).1 hs2, fun e => ?_⟩, hc.trans hc2 fun k hk e => by have := hM k e; omega⟩, hc2.mono fun k _ e hy => (hY k hy).2 e⟩
  · rcases hk with e | e
    · exact hM k e
    · omega
  · rcases e with e | e
    · exact (hY k hk).2 e
    · have := (hY k hk).1; omega
end
/-- What a call answers and does. -/
def YPost (w0 w : World) (d : Nat) (Y : Nat → Prop) (r : Int × DiskV) (e : Ending) (w' : World) : Prop := e = .returned (.int .i64 r.1) ∧ DY w0 w' d r.2 Y ∧ Kept Y w w'
section
variable (w0 : World) (d : Nat) (D : DiskV) (Y : Nat → Prop) (n : ByteArray) (hn : n.size ≤ maxLen) (hD : DSmall D) (w : World) (h : DY w0 w d D Y)
include hn hD h
theorem y_create : Calls Tryz.prog 31 #[.pointer (some ⟨d, 0, none⟩), .string n] w (YPost w0 w d Y (createD D n)) := by
  obtain ⟨ids, M, ha, hM, hY, hc⟩ := h
  exact (disk_create d ids D M n hn hD.q hD.f w ha).mono fun e w' ⟨he, hp⟩ => ⟨he, DY.post hM hY hc hp⟩
theorem y_append (s : ByteArray) (hs : s.size ≤ 140737488355328) : Calls Tryz.prog 39 #[.pointer (some ⟨d, 0, none⟩), .string n, .string s] w (YPost w0 w d Y (appendD D n s)) := by
  obtain ⟨ids, M, ha, hM, hY, hc⟩ := h
  exact (disk_append d ids D M n s hn hs hD.n hD.q w ha).mono fun e w' ⟨he, hp⟩ => ⟨he, DY.post hM hY hc hp⟩
theorem y_sync : Calls Tryz.prog 41 #[.pointer (some ⟨d, 0, none⟩), .string n] w (YPost w0 w d Y (syncD D n)) := by
  obtain ⟨ids, M, ha, hM, hY, hc⟩ := h
  exact (disk_sync d ids D M n hn hD.q w ha).mono fun e w' ⟨he, hp⟩ => ⟨he, DY.post hM hY hc hp⟩
theorem y_remove : Calls Tryz.prog 51 #[.pointer (some ⟨d, 0, none⟩), .string n] w (YPost w0 w d Y (removeD D n)) := by
  obtain ⟨ids, M, ha, hM, hY, hc⟩ := h
  exact (disk_remove d ids D M n hn hD.q w ha).mono fun e w' ⟨he, hp⟩ => ⟨he, DY.post hM hY hc hp⟩
omit hn in
theorem y_syncdir : Calls Tryz.prog 32 #[.pointer (some ⟨d, 0, none⟩)] w (YPost w0 w d Y (syncDirD D)) := by
  obtain ⟨ids, M, ha, hM, hY, hc⟩ := h
  exact (disk_syncdir d ids D M hD.q w ha).mono fun e w' ⟨he, hp⟩ => ⟨he, DY.post hM hY hc hp⟩
omit hD in
theorem y_read : Calls Tryz.prog 45 #[.pointer (some ⟨d, 0, none⟩), .string n] w fun e w' => e = .returned (.tuple #[.string (readD D n).1, .int .i64 (readD D n).2]) ∧ Chg (fun _ => False) w w' := by
  obtain ⟨ids, M, ha, hM, hY, hc⟩ := h
  exact disk_read d ids D M n hn w ha
omit hD in
theorem y_spoil (bit : Int) (hb1 : -9223372036854775808 ≤ bit) (hb2 : bit ≤ 9223372036854775807) : Calls Tryz.prog 64 #[.pointer (some ⟨d, 0, none⟩), .string n, .int .i64 bit] w fun e w' => e = .returned (.tuple #[]) ∧ DY w0 w' d (spoilD D n bit) Y ∧ Kept Y w w' := by
  obtain ⟨ids, M, ha, hM, hY, hc⟩ := h
  exact (disk_spoil d ids D M n bit hn hb1 hb2 w ha).mono fun e w' ⟨he, hp⟩ => ⟨he, DY.post hM hY hc hp⟩
end
end Go.Proofs.YtjfbcjmnjlehaaaGreatDoor
