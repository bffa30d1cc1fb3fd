/-
  The budget: contracts of Reserve, Release, Change, Of, Used, High, Left.
-/
import Derived.Test.YtafdgncjfiiekaaBudA
namespace Go.Proofs.Ytafdgncjfiiekaa
open Go.RowKit
set_option linter.unusedVariables false
set_option linter.unusedSimpArgs false

theorem bud_add (g : Nat) (B : Bud) (k n : Int) (w : World) (hb : BudAt w g B) (hk0 : 0 ≤ k) (hk4 : k < 4) (h0 : 0 ≤ B.of k + n) (hn : n ≤ B.l - B.u) :
    Calls Try.prog 39 #[.pointer (some ⟨g, 0, none⟩), .int .i64 k, .int .i64 n] w fun e w' => e = .returned (.int .i64 0) ∧ BudAt w' g (B.put k (B.of k + n)) ∧ Chg (fun k => k = g) w w' := by
  have hgood := Bud.put_good (k := k) (x := B.of k + n) hb.good h0 (by have := hb.good.uh; omega)
  obtain ⟨l, u, h, a, b, c, d⟩ := B
  obtain ⟨hb, l0, l1, a0, b0, c0, d0, u0, uh, hl⟩ := hb
  simp only at *
  rcases kind_cases hk0 hk4 with rfl | rfl | rfl | rfl <;> simp [Bud.of, Bud.put] at h0 hgood ⊢ <;> by_cases hup : h < u + n
  · refine (bud_add_up0 g l u h a b c d n w hb (by omega) (by omega) l1 hn a0 (by omega) h0 (by omega) hup).mono ?_
    rintro e w' ⟨rfl, h1, h2⟩
    exact ⟨rfl, ⟨by simpa [show u - a + (a + n) = u + n from by omega, hup] using h1, hgood⟩, h2⟩
  · refine (bud_add_stay0 g l u h a b c d n w hb (by omega) (by omega) l1 hn a0 (by omega) h0 (by omega) (by omega)).mono ?_
    rintro e w' ⟨rfl, h1, h2⟩
    exact ⟨rfl, ⟨by simpa [show u - a + (a + n) = u + n from by omega, hup] using h1, hgood⟩, h2⟩
  · refine (bud_add_up1 g l u h a b c d n w hb (by omega) (by omega) l1 hn b0 (by omega) h0 (by omega) hup).mono ?_
    rintro e w' ⟨rfl, h1, h2⟩
    exact ⟨rfl, ⟨by simpa [show u - b + (b + n) = u + n from by omega, hup] using h1, hgood⟩, h2⟩
  · refine (bud_add_stay1 g l u h a b c d n w hb (by omega) (by omega) l1 hn b0 (by omega) h0 (by omega) (by omega)).mono ?_
    rintro e w' ⟨rfl, h1, h2⟩
    exact ⟨rfl, ⟨by simpa [show u - b + (b + n) = u + n from by omega, hup] using h1, hgood⟩, h2⟩
  · refine (bud_add_up2 g l u h a b c d n w hb (by omega) (by omega) l1 hn c0 (by omega) h0 (by omega) hup).mono ?_
    rintro e w' ⟨rfl, h1, h2⟩
    exact ⟨rfl, ⟨by simpa [show u - c + (c + n) = u + n from by omega, hup] using h1, hgood⟩, h2⟩
  · refine (bud_add_stay2 g l u h a b c d n w hb (by omega) (by omega) l1 hn c0 (by omega) h0 (by omega) (by omega)).mono ?_
    rintro e w' ⟨rfl, h1, h2⟩
    exact ⟨rfl, ⟨by simpa [show u - c + (c + n) = u + n from by omega, hup] using h1, hgood⟩, h2⟩
  · refine (bud_add_up3 g l u h a b c d n w hb (by omega) (by omega) l1 hn d0 (by omega) h0 (by omega) hup).mono ?_
    rintro e w' ⟨rfl, h1, h2⟩
    exact ⟨rfl, ⟨by simpa [show u - d + (d + n) = u + n from by omega, hup] using h1, hgood⟩, h2⟩
  · refine (bud_add_stay3 g l u h a b c d n w hb (by omega) (by omega) l1 hn d0 (by omega) h0 (by omega) (by omega)).mono ?_
    rintro e w' ⟨rfl, h1, h2⟩
    exact ⟨rfl, ⟨by simpa [show u - d + (d + n) = u + n from by omega, hup] using h1, hgood⟩, h2⟩

theorem bud_add_refuses (g : Nat) (B : Bud) (k n : Int) (w : World) (hb : BudAt w g B) (hn : B.l - B.u < n) :
    Calls Try.prog 39 #[.pointer (some ⟨g, 0, none⟩), .int .i64 k, .int .i64 n] w fun e w' => e = .returned (.int .i64 14) ∧ BudAt w' g B ∧ Chg (fun k => k = g) w w' := by
  have hg := hb
  obtain ⟨l, u, h, a, b, c, d⟩ := B
  obtain ⟨hb, l0, l1, a0, b0, c0, d0, u0, uh, hl⟩ := hb
  simp only at *
  refine (bud_add_no g l u h a b c d k n w hb (by omega) (by omega) l1 hn).mono ?_
  rintro e w' ⟨rfl, h2⟩
  exact ⟨rfl, hg.chg h2 (by simp), h2.mono (by simp)⟩

theorem bud_of_cell {w : World} {g : Nat} {B : Bud} (hb : BudAt w g B) {k : Int} (hk0 : 0 ≤ k) (hk4 : k < 4) : w.cell? ⟨g, 3 + k.toNat, none⟩ = some (.int .i64 (B.of k)) := by
  rcases kind_cases hk0 hk4 with rfl | rfl | rfl | rfl
  · exact hb.blk.cell 3
  · exact hb.blk.cell 4
  · exact hb.blk.cell 5
  · exact hb.blk.cell 6

/-- Reserve. -/
theorem bud_reserve (g : Nat) (B : Bud) (k n : Int) (w : World) (hb : BudAt w g B) :
    Calls Try.prog 14 #[.pointer (some ⟨g, 0, none⟩), .int .i64 k, .int .i64 n] w fun e w' => e = .returned (.int .i64 (B.reserve k n).1) ∧ BudAt w' g (B.reserve k n).2 ∧ Chg (fun k => k = g) w w' := by
  have hof := Bud.of_bd hb.good k
  unfold Bud.reserve
  by_cases h1 : k < 0 ∨ 4 ≤ k ∨ n < 0
  · rw [if_pos h1]
    have hm := bud_may g k n w
    rw [if_pos h1] at hm
    go_enter Try.func14, Try.ntmps14
    go_wp2_with (go_at_call 38; refine hm.mono ?_; rintro e w' ⟨rfl, rfl⟩)
    go_ret
    exact ⟨rfl, hb, Chg.refl _ _⟩
  · rw [if_neg h1]
    have hm := bud_may g k n w
    rw [if_neg h1] at hm
    by_cases h2 : B.l - B.u < n
    · rw [if_pos h2]
      go_enter Try.func14, Try.ntmps14
      go_wp2_with (first | (go_at_call 38; refine hm.mono ?_; rintro e w' ⟨rfl, rfl⟩) | (go_at_call 39; refine (bud_add_refuses g B k n _ hb h2).mono ?_; rintro e w' ⟨rfl, hb', hc⟩))
      go_ret
      exact ⟨rfl, hb', hc⟩
    · rw [if_neg h2]
      go_enter Try.func14, Try.ntmps14
      go_wp2_with (first | (go_at_call 38; refine hm.mono ?_; rintro e w' ⟨rfl, rfl⟩) | (go_at_call 39; refine (bud_add g B k n _ hb (by omega) (by omega) (by omega) (by omega)).mono ?_; rintro e w' ⟨rfl, hb', hc⟩))
      go_ret
      exact ⟨rfl, hb', hc⟩

/-- Release. -/
theorem bud_release (g : Nat) (B : Bud) (k n : Int) (w : World) (hb : BudAt w g B) :
    Calls Try.prog 23 #[.pointer (some ⟨g, 0, none⟩), .int .i64 k, .int .i64 n] w fun e w' => e = .returned (.int .i64 (B.release k n).1) ∧ BudAt w' g (B.release k n).2 ∧ Chg (fun k => k = g) w w' := by
  have hof := Bud.of_bd hb.good k
  have hlim : B.u ≤ B.l := Int.le_trans hb.good.uh hb.good.hl
  have hlim2 := hb.good.l1
  unfold Bud.release
  by_cases h1 : k < 0 ∨ 4 ≤ k ∨ n < 0
  · rw [if_pos h1]
    have hm := bud_may g k n w
    rw [if_pos h1] at hm
    go_enter Try.func23, Try.ntmps23
    go_wp2_with (go_at_call 38; refine hm.mono ?_; rintro e w' ⟨rfl, rfl⟩)
    go_ret
    exact ⟨rfl, hb, Chg.refl _ _⟩
  · rw [if_neg h1]
    have hm := bud_may g k n w
    rw [if_neg h1] at hm
    have hk0 : 0 ≤ k := by omega
    have hk4 : k < 4 := by omega
    have hn0 : 0 ≤ n := by omega
    have hcell := bud_of_cell hb hk0 hk4
    by_cases h2 : B.of k < n
    · rw [if_pos h2]
      go_enter Try.func23, Try.ntmps23
      go_wp2_with (first | (go_at_call 38; refine hm.mono ?_; rintro e w' ⟨rfl, rfl⟩) | (go_at_call 40; refine (atomic_load _ _ (B.of k) _ hcell).mono ?_; rintro e w' ⟨rfl, rfl⟩))
      go_ret
      exact ⟨rfl, hb, Chg.refl _ _⟩
    · rw [if_neg h2]
      go_enter Try.func23, Try.ntmps23
      go_wp2_with (first | (go_at_call 38; refine hm.mono ?_; rintro e w' ⟨rfl, rfl⟩) | (go_at_call 40; refine (atomic_load _ _ (B.of k) _ hcell).mono ?_; rintro e w' ⟨rfl, rfl⟩) | (go_at_call 39; refine (bud_add g B k (-n) _ hb (by omega) (by omega) (by omega) (by omega)).mono ?_; rintro e w' ⟨rfl, hb', hc⟩))
      go_ret
      exact ⟨rfl, hb', hc⟩

/-- Change. -/
theorem bud_change (g : Nat) (B : Bud) (k n : Int) (w : World) (hb : BudAt w g B) (hnm : n ≤ 9223372036854775807) :
    Calls Try.prog 15 #[.pointer (some ⟨g, 0, none⟩), .int .i64 k, .int .i64 n] w fun e w' => e = .returned (.int .i64 (B.change k n).1) ∧ BudAt w' g (B.change k n).2 ∧ Chg (fun k => k = g) w w' := by
  have hof := Bud.of_bd hb.good k
  have hlim : B.u ≤ B.l := Int.le_trans hb.good.uh hb.good.hl
  have hlim2 := hb.good.l1
  unfold Bud.change
  by_cases h1 : k < 0 ∨ 4 ≤ k ∨ n < 0
  · rw [if_pos h1]
    have hm := bud_may g k n w
    rw [if_pos h1] at hm
    go_enter Try.func15, Try.ntmps15
    go_wp2_with (go_at_call 38; refine hm.mono ?_; rintro e w' ⟨rfl, rfl⟩)
    go_ret
    exact ⟨rfl, hb, Chg.refl _ _⟩
  · rw [if_neg h1]
    have hm := bud_may g k n w
    rw [if_neg h1] at hm
    have hk0 : 0 ≤ k := by omega
    have hk4 : k < 4 := by omega
    have hn0 : 0 ≤ n := by omega
    have hcell := bud_of_cell hb hk0 hk4
    by_cases h2 : B.l - B.u < n - B.of k
    · rw [if_pos h2]
      go_enter Try.func15, Try.ntmps15
      go_wp2_with (first | (go_at_call 38; refine hm.mono ?_; rintro e w' ⟨rfl, rfl⟩) | (go_at_call 40; refine (atomic_load _ _ (B.of k) _ hcell).mono ?_; rintro e w' ⟨rfl, rfl⟩) | (go_at_call 39; refine (bud_add_refuses g B k (n - B.of k) _ hb h2).mono ?_; rintro e w' ⟨rfl, hb', hc⟩))
      go_ret
      exact ⟨rfl, hb', hc⟩
    · rw [if_neg h2]
      have hp := bud_add g B k (n - B.of k) w hb (by omega) (by omega) (by omega) (by omega)
      rw [show B.of k + (n - B.of k) = n by omega] at hp
      go_enter Try.func15, Try.ntmps15
      go_wp2_with (first | (go_at_call 38; refine hm.mono ?_; rintro e w' ⟨rfl, rfl⟩) | (go_at_call 40; refine (atomic_load _ _ (B.of k) _ hcell).mono ?_; rintro e w' ⟨rfl, rfl⟩) | (go_at_call 39; refine hp.mono ?_; rintro e w' ⟨rfl, hb', hc⟩))
      go_ret
      exact ⟨rfl, hb', hc⟩

/-- Of: 0 of a kind that there is not. -/
theorem bud_of (g : Nat) (B : Bud) (k : Int) (w : World) (hb : BudAt w g B) :
    Calls Try.prog 16 #[.pointer (some ⟨g, 0, none⟩), .int .i64 k] w fun e w' => e = .returned (.int .i64 (B.of k)) ∧ w = w' := by
  by_cases h1 : k < 0 ∨ 4 ≤ k ∨ (0 : Int) < 0
  · have hm := bud_may g k 0 w
    rw [if_pos h1] at hm
    have hz : B.of k = 0 := by unfold Bud.of; split; omega; split; omega; split; omega; split; omega; rfl
    rw [hz]
    go_enter Try.func16, Try.ntmps16
    go_wp2_with (go_at_call 38; refine hm.mono ?_; rintro e w' ⟨rfl, rfl⟩)
    go_ret
    exact ⟨rfl, rfl⟩
  · have hm := bud_may g k 0 w
    rw [if_neg h1] at hm
    have hk0 : 0 ≤ k := by omega
    have hk4 : k < 4 := by omega
    have hcell := bud_of_cell hb hk0 hk4
    go_enter Try.func16, Try.ntmps16
    go_wp2_with (first | (go_at_call 38; refine hm.mono ?_; rintro e w' ⟨rfl, rfl⟩) | (go_at_call 40; refine (atomic_load _ _ (B.of k) _ hcell).mono ?_; rintro e w' ⟨rfl, rfl⟩))
    go_ret
    exact ⟨rfl, rfl⟩

theorem bud_used (g : Nat) (B : Bud) (w : World) (hb : BudAt w g B) :
    Calls Try.prog 18 #[.pointer (some ⟨g, 0, none⟩)] w fun e w' => e = .returned (.int .i64 B.u) ∧ w = w' := by
  have c1 := hb.blk.cell 1
  go_enter Try.func18, Try.ntmps18
  go_wp2_with (go_at_call 40; refine (atomic_load _ _ B.u _ c1).mono ?_; rintro e w' ⟨rfl, rfl⟩)
  go_ret
  exact ⟨rfl, rfl⟩
theorem bud_high (g : Nat) (B : Bud) (w : World) (hb : BudAt w g B) :
    Calls Try.prog 19 #[.pointer (some ⟨g, 0, none⟩)] w fun e w' => e = .returned (.int .i64 B.h) ∧ w = w' := by
  have c1 := hb.blk.cell 2
  go_enter Try.func19, Try.ntmps19
  go_wp2_with (go_at_call 40; refine (atomic_load _ _ B.h _ c1).mono ?_; rintro e w' ⟨rfl, rfl⟩)
  go_ret
  exact ⟨rfl, rfl⟩
theorem bud_left (g : Nat) (B : Bud) (w : World) (hb : BudAt w g B) :
    Calls Try.prog 20 #[.pointer (some ⟨g, 0, none⟩)] w fun e w' => e = .returned (.int .i64 (B.l - B.u)) ∧ ∃ n, w.drewN n = w' := by
  have c0 := hb.blk.cell 0
  have c1 := hb.blk.cell 1
  simp at c0 c1
  have hu := hb.good.u0
  obtain ⟨l0, l1, a0, b0, c0', d0, u0, uh, hl⟩ := hb.good
  have hu0 : 0 ≤ B.u := by omega
  have hul : B.u ≤ B.l := by omega
  clear hu u0 uh hl a0 b0 c0' d0
  go_enter Try.func20, Try.ntmps20
  go_wp2
  go_quiet ((go_at_call 40; refine quiet_same (atomic_load _ _ B.u _ ?_); exact c1))
  go_wp2
  go_ret
  exact ⟨rfl, nq, rfl⟩
end Go.Proofs.Ytafdgncjfiiekaa
