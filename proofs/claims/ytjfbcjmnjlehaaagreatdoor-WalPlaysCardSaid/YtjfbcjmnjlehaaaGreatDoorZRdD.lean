/-
  The document's disk: Trap, and what a store into the disk's own block leaves.
-/
import Derived.Test.YtjfbcjmnjlehaaaGreatDoorZRdC
namespace Go.Proofs.YtjfbcjmnjlehaaaGreatDoor
open Go.RowKit
set_option linter.unusedVariables false
set_option linter.unusedSimpArgs false

theorem RIn.setR {w w' : World} {r : Nat} {D D' : DiskV} {y : RLay} {M : Nat → Prop} (h : RIn w r D y M) (hc : Chg (fun k => k = r) w w') (hb : Blk w' r 72 (rCells D' y)) (hf : D'.files = D.files) (hn : D'.names = D.names) (hl : D'.lasts = D.lasts) (hq : D'.queue = D.queue) : RIn w' r D' y M := by
  have hp := h.own hc
  exact ⟨hb, ⟨by rw [hf]; exact hp.files, by rw [hn]; exact hp.names, by rw [hl]; exact hp.lasts, by rw [hq]; exact hp.queue, hp.cutb⟩, h.cnb, h.mine, fun k hk => Nat.lt_of_lt_of_le (h.lt k hk) hc.size⟩
def trapN (D : DiskV) : Int := if (spring D.cutL).1 then 1 else if (spring D.fullL).1 then 2 else 0
theorem spring_ways {l : Int} (h : 0 ≤ l ∧ l ≤ 9223372036854775807) : (l = 0 ∧ spring l = (false, 0)) ∨ (l = 1 ∧ spring l = (true, 0)) ∨ (1 < l ∧ spring l = (false, l - 1)) := by
  unfold spring
  by_cases h0 : l = 0
  · left; simp [h0]
  · by_cases h1 : l = 1
    · right; left; subst h1; exact ⟨rfl, rfl⟩
    · right; right
      refine ⟨by omega, ?_⟩
      rw [if_neg h0]
      have : ¬ (l - 1 = 0) := by omega
      simp [this]

set_option maxRecDepth 100000 in
set_option maxHeartbeats 4000000 in
theorem rd_trap0 (r : Nat) (t : TypeId) (cl fl : Int) (v0 v1 v2 v3 v4 v5 v7 v8 : Value) (hcl : 0 ≤ cl ∧ cl ≤ 9223372036854775807) (hfl : 0 ≤ fl ∧ fl ≤ 9223372036854775807) (w : World) (h : Blk w r t #[v0, v1, v2, v3, v4, v5, .int .i64 cl, v7, v8, .int .i64 fl]) :
    Calls Tryz.prog 98 #[.pointer (some ⟨r, 0, none⟩)] w fun e w' => e = .returned (.int .i64 (if (spring cl).1 then 1 else if (spring fl).1 then 2 else 0)) ∧ Blk w' r t #[v0, v1, v2, v3, v4, v5, .int .i64 (spring cl).2, v7, v8, .int .i64 (spring fl).2] ∧ Chg (fun k => k = r) w w' := by
  have c6 := h.cell 6
  have c9 := h.cell 9
  have f6 := h.frozen 6
  have f9 := h.frozen 9
  simp at c6 c9
  have H := Lib.hid h
  clear h
  rcases spring_ways hcl with ⟨e1, s1⟩ | ⟨e1, s1⟩ | ⟨e1, s1⟩ <;> rcases spring_ways hfl with ⟨e2, s2⟩ | ⟨e2, s2⟩ | ⟨e2, s2⟩
  all_goals
    rw [s1, s2]
    clear s1 s2
    try subst e1
    try subst e2
    try (have d1 : ¬ (cl = 1) := by omega)
    try (have d2 : ¬ (fl = 1) := by omega)
    go_enter Tryz.func98, Tryz.ntmps98
    go_wp2_with fail
    go_ret
    refine ⟨rfl, ?_, ?_⟩
    · first
      | exact H.out
      | (have := H.out.set_ 6 (.int .i64 0); simpa using this)
      | (have := H.out.set_ 6 (.int .i64 (cl - 1)); simpa using this)
      | (have := H.out.set_ 9 (.int .i64 0); simpa using this)
      | (have := H.out.set_ 9 (.int .i64 (fl - 1)); simpa using this)
      | (have := (H.out.set_ 6 (.int .i64 0)).set_ 9 (.int .i64 0); simpa using this)
      | (have := (H.out.set_ 6 (.int .i64 (cl - 1))).set_ 9 (.int .i64 0); simpa using this)
      | (have := (H.out.set_ 6 (.int .i64 0)).set_ 9 (.int .i64 (fl - 1)); simpa using this)
      | (have := (H.out.set_ 6 (.int .i64 (cl - 1))).set_ 9 (.int .i64 (fl - 1)); simpa using this)
    · first
      | exact Chg.refl _ _
      | exact Chg.setOwn (Chg.refl _ _) _ _
      | exact Chg.setOwn (Chg.setOwn (Chg.refl _ _) _ _) _ _
theorem rd_trap (r : Nat) (D : DiskV) (y : RLay) (M : Nat → Prop) (hok : DiskOk D) (w : World) (h : RIn w r D y M) :
    Calls Tryz.prog 98 #[.pointer (some ⟨r, 0, none⟩)] w fun e w' => e = .returned (.int .i64 (trapN D)) ∧ RIn w' r (trapped D) y M ∧ Chg (fun k => k = r) w w' :=
  (rd_trap0 r _ D.cutL D.fullL _ _ _ _ _ _ _ _ hok.cutL hok.fullL w h.blk).mono fun e w' ⟨he, hb, hc⟩ => ⟨he, h.setR hc hb rfl rfl rfl rfl, hc⟩
theorem cut_trapped {D : DiskV} {y : RLay} (hok : DiskOk D) (h : CutEq D y) : CutEq (trapped D) y := fun hne => h fun e => hne (by simp [trapped, spring, e])
end Go.Proofs.YtjfbcjmnjlehaaaGreatDoor
