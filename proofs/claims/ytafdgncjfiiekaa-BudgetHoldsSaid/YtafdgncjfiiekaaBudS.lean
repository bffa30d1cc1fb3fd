/-
  The budget's laws: same, and the walks of the laws of layer 5.
-/
import Derived.Test.YtafdgncjfiiekaaBudL
namespace Go.Proofs.Ytafdgncjfiiekaa
open Go.RowKit
set_option linter.unusedVariables false
set_option linter.unusedSimpArgs false

theorem bud_same (g r : Nat) (B : Bud) (w : World) (hb : BudAt w g B) (hr : RBudAt w r B) :
    Calls Try.prog 24 #[.pointer (some ⟨g, 0, none⟩), .pointer (some ⟨r, 0, none⟩)] w fun e w' => e = .returned (.bool true) ∧ ∃ n, w.drewN n = w' := by
  have hlim : B.u ≤ B.l := Int.le_trans hb.good.uh hb.good.hl
  have hlim2 := hb.good.l1
  have hof := Bud.of_bd hb.good 0
  have hu0 : 0 ≤ B.u := by omega
  clear hof
  have hrc : ∀ k : Nat, k < 4 → w.cell? ⟨r, 1 + k, none⟩ = some (.int .i64 (B.of k)) := fun k hk => by have := rbud_of_cell hr (k := (k : Int)) (by omega) (by omega); simpa using this
  have c0 := hr.blk.cell 0
  have c5 := hr.blk.cell 5
  simp at c0 c5
  have HB := Lib.hid hb
  have HR := Lib.hid hr
  have HC := Lib.hid hrc
  clear hb hr hrc
  go_enter Try.func24, Try.ntmps24
  go_wp2_with fail
  go_loopw [7] (fun i wr => ∃ k : Nat, k ≤ 4 ∧ i = .int .i64 k ∧ ∃ n, wr = w.drewN n) (fun i _ => 4 - (intOf i).toNat)
  case atStart => exact ⟨0, by omega, rfl, 0, rfl⟩
  case round =>
    obtain ⟨k, hk, rfl, n0, hw⟩ := hrel
    have hb : BudAt wr g B := by rw [hw]; exact HB.out.drewN _
    have hr : RBudAt wr r B := by rw [hw]; exact HR.out.drewN _
    have hrc : k < 4 → wr.cell? ⟨r, 1 + k, none⟩ = some (.int .i64 (B.of k)) := by rw [hw]; exact HC.out k
    have c0 : wr.cell? ⟨r, 0, none⟩ = some (.int .i64 B.l) := by rw [hw]; exact c0
    have c5 : wr.cell? ⟨r, 5, none⟩ = some (.int .i64 B.h) := by rw [hw]; exact c5
    have HW := Lib.hid hw
    clear HC hw
    by_cases hlt : k < 4
    · have hcell := hrc hlt
      have hk1 : (k : Int) < 4 := by omega
      have hk0 : (0 : Int) ≤ (k : Int) := by omega
      clear hrc
      go_wp2_with fail
      go_quiet ((go_at_call 16; refine quiet_same (bud_of g B _ _ ?_); exact hb.drewN _))
      go_wp2_with fail
      go_roundw
      case rel => exact ⟨k + 1, by omega, by go_num, n0 + nq, by rw [HW.out]; exact World.drewN_drewN _ _ _⟩
      case measure => simp [intOf]; omega
    · clear hrc
      go_wp2_with fail
      refine (rbud_used r B _ hr).mono ?_
      rintro e w' ⟨rfl, n1, hw1⟩
      have hb1 : BudAt w' g B := by rw [← hw1]; exact hb.drewN _
      have c0' : w'.cell? ⟨r, 0, none⟩ = some (.int .i64 B.l) := by rw [← hw1]; exact c0
      have c5' : w'.cell? ⟨r, 5, none⟩ = some (.int .i64 B.h) := by rw [← hw1]; exact c5
      clear c0 c5
      have HW1 := Lib.hid hw1
      clear hw1
      go_wp2_with fail
      go_quiet ((first
        | (go_at_call 18; refine quiet_same (bud_used g B _ ?_); exact hb1.drewN _)
        | (go_at_call 19; refine quiet_same (bud_high g B _ ?_); exact hb1.drewN _)
        | (go_at_call 20; refine quiet_drew' (bud_left g B _ ?_); exact hb1.drewN _)))
      go_wp2_with fail
      go_ret
      refine ⟨rfl, n0 + n1 + nq, ?_⟩
      rw [← HW1.out, HW.out, World.drewN_drewN, World.drewN_drewN, Nat.add_assoc]
end Go.Proofs.Ytafdgncjfiiekaa
