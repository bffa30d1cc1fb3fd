/-
  A new skip list, without coins.
-/
import Derived.Test.YtljabmkmngbhkaaGreatDoorZSkpB
import Derived.RegionTactic
import Derived.BigRegion
import Derived.Deep.Upon
import Derived.Deep.AppendSrc
import Derived.Laws.MakeOwn
namespace Go.Proofs.YtljabmkmngbhkaaGreatDoor
open Go.RowKit
set_option linter.unusedVariables false
set_option linter.unusedSimpArgs false

theorem links_nil (w : World) (b : Nat) (hb : Blk w b 194 (Array.replicate 8 (.pointer none))) : Links w b 8 [] := by
  refine ⟨_, hb, by simp, fun f hf => ?_⟩
  rw [Array.getElem?_replicate, if_pos hf]
  rfl
theorem made_links (n : Nat) (hn : n ≤ 8) (W : World) : (Instr.makeSlice 144 (.int .i64 (n : Int)) (.int .i64 (n : Int))).run Tryz.prog W = .ok (.slice (some ⟨W.heap.size, 0, none⟩) n n) (W.alloc (.cells (Array.replicate n (.pointer none)) 194)) := by
  obtain ⟨i1, hi1, hz, hs, hby⟩ := info_parts (show (Tryz.prog.info? 194).map (fun i => (i.zero, i.size, i.bytes)) = some (some (.pointer none), 1, 8) by kernel_rfl)
  have h := run_makeSlice (P := Tryz.prog) (w := W) 144 194 i1 (.pointer none) Tryz.underlying144 hi1 hz .i64 .i64 (n : Int) (n : Int) (by omega) (Int.le_refl _) (by rw [hs]; omega) (by rw [hby]; omega) (by omega)
  rw [h]
  have e : madeCells (Value.pointer none).cells ((n : Int).toNat * i1.size) = Array.replicate n (.pointer none) := by
    rw [hs, Int.toNat_natCast, Nat.mul_one]
    apply Array.ext
    · simp [size_madeCells]
    · intro k h1 h2
      simp [madeCells, Value.cells, Nat.mod_one]
  rw [e, Int.toNat_natCast]
/-- A list that is new. -/
def NewPost (w : World) (r : Ending) (w' : World) : Prop := ∃ l hb, r = .returned (.pointer (some ⟨l, 0, none⟩)) ∧ w.heap.size ≤ l ∧ w.heap.size ≤ hb ∧ SkipAt w' l hb (.slice none 0 0) [] [] 0 ∧ Chg (fun _ => False) w w'
theorem new_post (w w' : World) (l hb : Nat) (hl : w.heap.size ≤ l) (hh : w.heap.size ≤ hb) (h1 : Blk w' l 148 #[.slice none 0 0, .string ⟨#[]⟩, .int .i64 0, .bool false, .string ⟨#[]⟩, .int .i64 0, .slice (some ⟨hb, 0, none⟩) 8 8, .int .i64 0, .int .i64 0]) (h2 : Blk w' hb 194 (Array.replicate 8 (.pointer none))) (hc : Chg (fun _ => False) w w') : NewPost w (.returned (.pointer (some ⟨l, 0, none⟩))) w' :=
  ⟨l, hb, rfl, hl, hh, { blk := h1, coin := ⟨none, 0, rfl, by simp, by simp, by simp, by simp⟩, coff := by simp, head := links_nil w' hb h2, nodes := fun A n R e => by simp at e, ord := List.Pairwise.nil, fit := by simp, apart := by simp, sz := by simp, len := by simp }, hc⟩
set_option maxRecDepth 100000 in
set_option maxHeartbeats 4000000 in
theorem sk_new (w : World) : Calls Tryz.prog 28 #[.slice none 0 0] w (NewPost w) := by
  obtain ⟨i0, hi, hz0, hz1, hz2⟩ := info_parts (show (Tryz.prog.info? 3).map (fun i => (i.zero, i.size, i.bytes)) = some (some (.int .i64 0), 1, 8) by kernel_rfl)
  have hap : ∀ W : World, (Builtin.append_ #[22, 22] 22 #[.slice none 0 0, .slice none 0 0]).run Tryz.prog W = .ok (.slice none 0 0) W := fun W =>
    run_append_nothing W 22 22 22 3 i0 Tryz.underlying22 hi none 0 0 (Nat.le_refl _) (.slice none 0 0) (Src.ofNil _ Tryz.underlying22 _)
  have hms : ∀ W : World, (Instr.makeSlice 144 (.int .i64 8) (.int .i64 8)).run Tryz.prog W = .ok (.slice (some ⟨W.heap.size, 0, none⟩) 8 8) (W.alloc (.cells (Array.replicate 8 (.pointer none)) 194)) := fun W => made_links 8 (by omega) W
  go_enter Tryz.func28, Tryz.ntmps28
  go_wp2_with fail
  go_region
  all_goals go_wp2_with fail
  all_goals go_ret
  exact new_post w _ (w.heap.size + 1) w.heap.size (by omega) (by omega) (Blk.drew (Blk.new1 _ _ _ _)) (Blk.drew ((Blk.new _ _ _).alloc _)) cgS
end Go.Proofs.YtljabmkmngbhkaaGreatDoor
