/-
  The functions beside the laws of layer 5: wakes, act, same.
-/
import Derived.Test.YtafdgncjfiiekaaBudR
import Derived.Deep.RegionHeld3
namespace Go.Proofs.Ytafdgncjfiiekaa
open Go.RowKit
set_option linter.unusedVariables false
set_option linter.unusedSimpArgs false

theorem bud_wakes (w : World) :
    Calls Try.prog 17 #[] w fun e w' => e = .returned (.bool true) ∧ Chg (fun _ => False) w w' := by
  have e1 : (Bud.start 10).reserve 0 7 = (0, ⟨10, 7, 7, 7, 0, 0, 0⟩) := rfl
  have e2 : (Bud.mk 10 7 7 7 0 0 0).reserve 1 4 = (14, ⟨10, 7, 7, 7, 0, 0, 0⟩) := rfl
  have e3 : (Bud.mk 10 7 7 7 0 0 0).change 0 6 = (0, ⟨10, 6, 7, 6, 0, 0, 0⟩) := rfl
  have e4 : (Bud.mk 10 6 7 6 0 0 0).reserve 1 4 = (0, ⟨10, 10, 10, 6, 4, 0, 0⟩) := rfl
  have E1 := Lib.hid e1; have E2 := Lib.hid e2; have E3 := Lib.hid e3; have E4 := Lib.hid e4
  clear e1 e2 e3 e4
  go_enter Try.func17, Try.ntmps17
  go_wp2_with fail
  refine (bud_new 10 w).mono ?_
  rintro e w1 ⟨rfl, hb, hs, hc⟩
  clear hs
  go_wp2_with fail
  refine (bud_reserve _ _ 0 7 _ hb).mono ?_
  rw [E1.out]
  rintro e w2 ⟨rfl, hb2, hc2⟩
  go_wp2_with fail
  refine (bud_reserve _ _ 1 4 _ hb2).mono ?_
  rw [E2.out]
  rintro e w3 ⟨rfl, hb3, hc3⟩
  go_wp2_with fail
  refine (bud_change _ _ 0 6 _ hb3 (by omega)).mono ?_
  rw [E3.out]
  rintro e w4 ⟨rfl, hb4, hc4⟩
  go_wp2_with fail
  refine (bud_reserve _ _ 1 4 _ hb4).mono ?_
  rw [E4.out]
  rintro e w5 ⟨rfl, hb5, hc5⟩
  go_wp2_with fail
  refine (bud_high _ _ _ hb5).mono ?_
  rintro e w6 ⟨rfl, rfl⟩
  go_wp2_with fail
  go_ret
  exact ⟨rfl, (((hc.own hc2 (Nat.le_refl _)).own hc3 (Nat.le_refl _)).own hc4 (Nat.le_refl _)).own hc5 (Nat.le_refl _)⟩

/-- a nil budget: every law of it. -/
theorem bud_nil (k n : Int) (w : World) :
    Calls Try.prog 7 #[.int .i64 k, .int .i64 n] w fun e w' => e = .returned (.bool true) ∧ Chg (fun _ => False) w w' := by
  go_enter Try.func7, Try.ntmps7
  go_wp2_with (first | (go_at_call 17; refine (bud_wakes w).mono ?_; rintro e w' ⟨rfl, hc⟩) | (go_at_call 38; refine (bud_may_nil _ _ _).mono ?_; rintro e w' ⟨rfl, rfl⟩) | go_in)
  go_ret
  exact ⟨rfl, hc⟩

/-- act, at a release. -/
theorem bud_act_release0 (g r : Nat) (hgr : g ≠ r) (B C : Bud) (d k n : Int) (hn : n ≤ 9223372036854775807) (hd : d.tmod 3 = 1) (w : World) (hb : BudAt w g B) (hr : RBudAt w r C) :
    Calls Try.prog 21 #[.pointer (some ⟨g, 0, none⟩), .pointer (some ⟨r, 0, none⟩), .agg #[.int .i64 d, .int .i64 k, .int .i64 n]] w fun e w' =>
      e = .returned (.bool ((B.release k n).1 == (C.release k n).1)) ∧ BudAt w' g (B.release k n).2 ∧ RBudAt w' r (C.release k n).2 ∧ Chg (fun k => k = g ∨ k = r) w w' := by
  have hgl := hb.blk.lt
  have hrl := hr.blk.lt
  have HB := Lib.hid hb
  have HR := Lib.hid hr
  have HG := Lib.hid hgr
  clear hb hr hgr
  go_enter Try.func21, Try.ntmps21
  go_wp2_with fail
  go_region_held3 (fun w' => w'.cell? ⟨w.heap.size, 0, none⟩ = some (.int .i64 d) ∧ w'.cell? ⟨w.heap.size, 1, none⟩ = some (.int .i64 k) ∧ w'.cell? ⟨w.heap.size, 2, none⟩ = some (.int .i64 n))
    (first | (go_keep; done) | (go_split_ands; refine ⟨?_, ?_, ?_⟩ <;> (first | (rw [hc2.cell (by simp; have := hc1.size; simp at this; omega) (by simp; omega)]; assumption) | (rw [hc1.cell (by simp) (by simp; omega)]; assumption))))
    (first
      | (go_at_call 23; refine (bud_release g B k n _ ?_).mono ?_; exact HB.out.chg (S := fun _ => False) (by ((repeat (first | exact Chg.refl _ _ | assumption | refine Chg.drewN ?_ _ | refine Chg.drew ?_ | refine Chg.alloc ?_ _ | refine Chg.setCell ?_ (by simp) _)))) (by simp); rintro e w1 ⟨rfl, hb1, hc1⟩)
      | (go_at_call 41; refine (rbud_release r C k n _ ?_).mono ?_; exact (HR.out.chg (S := fun _ => False) (by ((repeat (first | exact Chg.refl _ _ | assumption | refine Chg.drewN ?_ _ | refine Chg.drew ?_ | refine Chg.alloc ?_ _ | refine Chg.setCell ?_ (by simp) _)))) (by simp)).chg hc1 (Ne.symm HG.out); rintro e w2 ⟨rfl, hr2, hc2⟩))
  go_wp2
  go_ret
  refine ⟨rfl, hb1.chg hc2 HG.out, hr2, ?_⟩
  have h0 : Chg (fun _ => False) w (w.alloc (.cells #[.int .i64 d, .int .i64 k, .int .i64 n] 34)).drew := by ((repeat (first | exact Chg.refl _ _ | assumption | refine Chg.drewN ?_ _ | refine Chg.drew ?_ | refine Chg.alloc ?_ _ | refine Chg.setCell ?_ (by simp) _)))
  exact ((h0.mono (by simp)).trans (hc1.mono fun k _ e => Or.inl e) (fun _ _ e => e)).trans (hc2.mono fun k _ e => Or.inr e) (fun _ _ e => e)
/-- act, at a release. -/
theorem bud_act_release1 (g r : Nat) (hgr : g ≠ r) (B C : Bud) (d k n : Int) (hn : n ≤ 9223372036854775807) (hd : d.tmod 3 = -1) (w : World) (hb : BudAt w g B) (hr : RBudAt w r C) :
    Calls Try.prog 21 #[.pointer (some ⟨g, 0, none⟩), .pointer (some ⟨r, 0, none⟩), .agg #[.int .i64 d, .int .i64 k, .int .i64 n]] w fun e w' =>
      e = .returned (.bool ((B.release k n).1 == (C.release k n).1)) ∧ BudAt w' g (B.release k n).2 ∧ RBudAt w' r (C.release k n).2 ∧ Chg (fun k => k = g ∨ k = r) w w' := by
  have hgl := hb.blk.lt
  have hrl := hr.blk.lt
  have HB := Lib.hid hb
  have HR := Lib.hid hr
  have HG := Lib.hid hgr
  clear hb hr hgr
  go_enter Try.func21, Try.ntmps21
  go_wp2_with fail
  go_region_held3 (fun w' => w'.cell? ⟨w.heap.size, 0, none⟩ = some (.int .i64 d) ∧ w'.cell? ⟨w.heap.size, 1, none⟩ = some (.int .i64 k) ∧ w'.cell? ⟨w.heap.size, 2, none⟩ = some (.int .i64 n))
    (first | (go_keep; done) | (go_split_ands; refine ⟨?_, ?_, ?_⟩ <;> (first | (rw [hc2.cell (by simp; have := hc1.size; simp at this; omega) (by simp; omega)]; assumption) | (rw [hc1.cell (by simp) (by simp; omega)]; assumption))))
    (first
      | (go_at_call 23; refine (bud_release g B k n _ ?_).mono ?_; exact HB.out.chg (S := fun _ => False) (by ((repeat (first | exact Chg.refl _ _ | assumption | refine Chg.drewN ?_ _ | refine Chg.drew ?_ | refine Chg.alloc ?_ _ | refine Chg.setCell ?_ (by simp) _)))) (by simp); rintro e w1 ⟨rfl, hb1, hc1⟩)
      | (go_at_call 41; refine (rbud_release r C k n _ ?_).mono ?_; exact (HR.out.chg (S := fun _ => False) (by ((repeat (first | exact Chg.refl _ _ | assumption | refine Chg.drewN ?_ _ | refine Chg.drew ?_ | refine Chg.alloc ?_ _ | refine Chg.setCell ?_ (by simp) _)))) (by simp)).chg hc1 (Ne.symm HG.out); rintro e w2 ⟨rfl, hr2, hc2⟩))
  go_wp2
  go_ret
  refine ⟨rfl, hb1.chg hc2 HG.out, hr2, ?_⟩
  have h0 : Chg (fun _ => False) w (w.alloc (.cells #[.int .i64 d, .int .i64 k, .int .i64 n] 34)).drew := by ((repeat (first | exact Chg.refl _ _ | assumption | refine Chg.drewN ?_ _ | refine Chg.drew ?_ | refine Chg.alloc ?_ _ | refine Chg.setCell ?_ (by simp) _)))
  exact ((h0.mono (by simp)).trans (hc1.mono fun k _ e => Or.inl e) (fun _ _ e => e)).trans (hc2.mono fun k _ e => Or.inr e) (fun _ _ e => e)
/-- act, at a change. -/
theorem bud_act_change0 (g r : Nat) (hgr : g ≠ r) (B C : Bud) (d k n : Int) (hn : n ≤ 9223372036854775807) (hd : d.tmod 3 = 2) (w : World) (hb : BudAt w g B) (hr : RBudAt w r C) :
    Calls Try.prog 21 #[.pointer (some ⟨g, 0, none⟩), .pointer (some ⟨r, 0, none⟩), .agg #[.int .i64 d, .int .i64 k, .int .i64 n]] w fun e w' =>
      e = .returned (.bool ((B.change k n).1 == (C.change k n).1)) ∧ BudAt w' g (B.change k n).2 ∧ RBudAt w' r (C.change k n).2 ∧ Chg (fun k => k = g ∨ k = r) w w' := by
  have hgl := hb.blk.lt
  have hrl := hr.blk.lt
  have HB := Lib.hid hb
  have HR := Lib.hid hr
  have HG := Lib.hid hgr
  clear hb hr hgr
  go_enter Try.func21, Try.ntmps21
  go_wp2_with fail
  go_region_held3 (fun w' => w'.cell? ⟨w.heap.size, 0, none⟩ = some (.int .i64 d) ∧ w'.cell? ⟨w.heap.size, 1, none⟩ = some (.int .i64 k) ∧ w'.cell? ⟨w.heap.size, 2, none⟩ = some (.int .i64 n))
    (first | (go_keep; done) | (go_split_ands; refine ⟨?_, ?_, ?_⟩ <;> (first | (rw [hc2.cell (by simp; have := hc1.size; simp at this; omega) (by simp; omega)]; assumption) | (rw [hc1.cell (by simp) (by simp; omega)]; assumption))))
    (first
      | (go_at_call 15; refine (bud_change g B k n _ ?_ hn).mono ?_; exact HB.out.chg (S := fun _ => False) (by ((repeat (first | exact Chg.refl _ _ | assumption | refine Chg.drewN ?_ _ | refine Chg.drew ?_ | refine Chg.alloc ?_ _ | refine Chg.setCell ?_ (by simp) _)))) (by simp); rintro e w1 ⟨rfl, hb1, hc1⟩)
      | (go_at_call 42; refine (rbud_change r C k n _ ?_ hn).mono ?_; exact (HR.out.chg (S := fun _ => False) (by ((repeat (first | exact Chg.refl _ _ | assumption | refine Chg.drewN ?_ _ | refine Chg.drew ?_ | refine Chg.alloc ?_ _ | refine Chg.setCell ?_ (by simp) _)))) (by simp)).chg hc1 (Ne.symm HG.out); rintro e w2 ⟨rfl, hr2, hc2⟩))
  go_wp2
  go_ret
  refine ⟨rfl, hb1.chg hc2 HG.out, hr2, ?_⟩
  have h0 : Chg (fun _ => False) w (w.alloc (.cells #[.int .i64 d, .int .i64 k, .int .i64 n] 34)).drew := by ((repeat (first | exact Chg.refl _ _ | assumption | refine Chg.drewN ?_ _ | refine Chg.drew ?_ | refine Chg.alloc ?_ _ | refine Chg.setCell ?_ (by simp) _)))
  exact ((h0.mono (by simp)).trans (hc1.mono fun k _ e => Or.inl e) (fun _ _ e => e)).trans (hc2.mono fun k _ e => Or.inr e) (fun _ _ e => e)
/-- act, at a change. -/
theorem bud_act_change1 (g r : Nat) (hgr : g ≠ r) (B C : Bud) (d k n : Int) (hn : n ≤ 9223372036854775807) (hd : d.tmod 3 = -2) (w : World) (hb : BudAt w g B) (hr : RBudAt w r C) :
    Calls Try.prog 21 #[.pointer (some ⟨g, 0, none⟩), .pointer (some ⟨r, 0, none⟩), .agg #[.int .i64 d, .int .i64 k, .int .i64 n]] w fun e w' =>
      e = .returned (.bool ((B.change k n).1 == (C.change k n).1)) ∧ BudAt w' g (B.change k n).2 ∧ RBudAt w' r (C.change k n).2 ∧ Chg (fun k => k = g ∨ k = r) w w' := by
  have hgl := hb.blk.lt
  have hrl := hr.blk.lt
  have HB := Lib.hid hb
  have HR := Lib.hid hr
  have HG := Lib.hid hgr
  clear hb hr hgr
  go_enter Try.func21, Try.ntmps21
  go_wp2_with fail
  go_region_held3 (fun w' => w'.cell? ⟨w.heap.size, 0, none⟩ = some (.int .i64 d) ∧ w'.cell? ⟨w.heap.size, 1, none⟩ = some (.int .i64 k) ∧ w'.cell? ⟨w.heap.size, 2, none⟩ = some (.int .i64 n))
    (first | (go_keep; done) | (go_split_ands; refine ⟨?_, ?_, ?_⟩ <;> (first | (rw [hc2.cell (by simp; have := hc1.size; simp at this; omega) (by simp; omega)]; assumption) | (rw [hc1.cell (by simp) (by simp; omega)]; assumption))))
    (first
      | (go_at_call 15; refine (bud_change g B k n _ ?_ hn).mono ?_; exact HB.out.chg (S := fun _ => False) (by ((repeat (first | exact Chg.refl _ _ | assumption | refine Chg.drewN ?_ _ | refine Chg.drew ?_ | refine Chg.alloc ?_ _ | refine Chg.setCell ?_ (by simp) _)))) (by simp); rintro e w1 ⟨rfl, hb1, hc1⟩)
      | (go_at_call 42; refine (rbud_change r C k n _ ?_ hn).mono ?_; exact (HR.out.chg (S := fun _ => False) (by ((repeat (first | exact Chg.refl _ _ | assumption | refine Chg.drewN ?_ _ | refine Chg.drew ?_ | refine Chg.alloc ?_ _ | refine Chg.setCell ?_ (by simp) _)))) (by simp)).chg hc1 (Ne.symm HG.out); rintro e w2 ⟨rfl, hr2, hc2⟩))
  go_wp2
  go_ret
  refine ⟨rfl, hb1.chg hc2 HG.out, hr2, ?_⟩
  have h0 : Chg (fun _ => False) w (w.alloc (.cells #[.int .i64 d, .int .i64 k, .int .i64 n] 34)).drew := by ((repeat (first | exact Chg.refl _ _ | assumption | refine Chg.drewN ?_ _ | refine Chg.drew ?_ | refine Chg.alloc ?_ _ | refine Chg.setCell ?_ (by simp) _)))
  exact ((h0.mono (by simp)).trans (hc1.mono fun k _ e => Or.inl e) (fun _ _ e => e)).trans (hc2.mono fun k _ e => Or.inr e) (fun _ _ e => e)
/-- act, at a reserve. -/
theorem bud_act_reserve0 (g r : Nat) (hgr : g ≠ r) (B C : Bud) (d k n : Int) (hn : n ≤ 9223372036854775807) (hd : d.tmod 3 = 0) (w : World) (hb : BudAt w g B) (hr : RBudAt w r C) :
    Calls Try.prog 21 #[.pointer (some ⟨g, 0, none⟩), .pointer (some ⟨r, 0, none⟩), .agg #[.int .i64 d, .int .i64 k, .int .i64 n]] w fun e w' =>
      e = .returned (.bool ((B.reserve k n).1 == (C.reserve k n).1)) ∧ BudAt w' g (B.reserve k n).2 ∧ RBudAt w' r (C.reserve k n).2 ∧ Chg (fun k => k = g ∨ k = r) w w' := by
  have hgl := hb.blk.lt
  have hrl := hr.blk.lt
  have HB := Lib.hid hb
  have HR := Lib.hid hr
  have HG := Lib.hid hgr
  clear hb hr hgr
  go_enter Try.func21, Try.ntmps21
  go_wp2_with fail
  go_region_held3 (fun w' => w'.cell? ⟨w.heap.size, 0, none⟩ = some (.int .i64 d) ∧ w'.cell? ⟨w.heap.size, 1, none⟩ = some (.int .i64 k) ∧ w'.cell? ⟨w.heap.size, 2, none⟩ = some (.int .i64 n))
    (first | (go_keep; done) | (go_split_ands; refine ⟨?_, ?_, ?_⟩ <;> (first | (rw [hc2.cell (by simp; have := hc1.size; simp at this; omega) (by simp; omega)]; assumption) | (rw [hc1.cell (by simp) (by simp; omega)]; assumption))))
    (first
      | (go_at_call 14; refine (bud_reserve g B k n _ ?_).mono ?_; exact HB.out.chg (S := fun _ => False) (by ((repeat (first | exact Chg.refl _ _ | assumption | refine Chg.drewN ?_ _ | refine Chg.drew ?_ | refine Chg.alloc ?_ _ | refine Chg.setCell ?_ (by simp) _)))) (by simp); rintro e w1 ⟨rfl, hb1, hc1⟩)
      | (go_at_call 43; refine (rbud_reserve r C k n _ ?_).mono ?_; exact (HR.out.chg (S := fun _ => False) (by ((repeat (first | exact Chg.refl _ _ | assumption | refine Chg.drewN ?_ _ | refine Chg.drew ?_ | refine Chg.alloc ?_ _ | refine Chg.setCell ?_ (by simp) _)))) (by simp)).chg hc1 (Ne.symm HG.out); rintro e w2 ⟨rfl, hr2, hc2⟩))
  go_wp2
  go_ret
  refine ⟨rfl, hb1.chg hc2 HG.out, hr2, ?_⟩
  have h0 : Chg (fun _ => False) w (w.alloc (.cells #[.int .i64 d, .int .i64 k, .int .i64 n] 34)).drew := by ((repeat (first | exact Chg.refl _ _ | assumption | refine Chg.drewN ?_ _ | refine Chg.drew ?_ | refine Chg.alloc ?_ _ | refine Chg.setCell ?_ (by simp) _)))
  exact ((h0.mono (by simp)).trans (hc1.mono fun k _ e => Or.inl e) (fun _ _ e => e)).trans (hc2.mono fun k _ e => Or.inr e) (fun _ _ e => e)

theorem bud_act (g r : Nat) (hgr : g ≠ r) (B C : Bud) (d k n : Int) (hn : n ≤ 9223372036854775807) (w : World) (hb : BudAt w g B) (hr : RBudAt w r C) :
    Calls Try.prog 21 #[.pointer (some ⟨g, 0, none⟩), .pointer (some ⟨r, 0, none⟩), .agg #[.int .i64 d, .int .i64 k, .int .i64 n]] w fun e w' =>
      e = .returned (.bool ((B.act d k n).1 == (C.act d k n).1)) ∧ BudAt w' g (B.act d k n).2 ∧ RBudAt w' r (C.act d k n).2 ∧ Chg (fun k => k = g ∨ k = r) w w' := by
  rcases tmod3_cases d with h | h | h | h | h
  · rw [Bud.act_release (.inl h), Bud.act_release (.inl h)]; exact bud_act_release0 g r hgr B C d k n hn h w hb hr
  · rw [Bud.act_release (.inr h), Bud.act_release (.inr h)]; exact bud_act_release1 g r hgr B C d k n hn h w hb hr
  · rw [Bud.act_change (.inl h), Bud.act_change (.inl h)]; exact bud_act_change0 g r hgr B C d k n hn h w hb hr
  · rw [Bud.act_change (.inr h), Bud.act_change (.inr h)]; exact bud_act_change1 g r hgr B C d k n hn h w hb hr
  · rw [Bud.act_reserve h, Bud.act_reserve h]; exact bud_act_reserve0 g r hgr B C d k n hn h w hb hr
end Go.Proofs.Ytafdgncjfiiekaa
