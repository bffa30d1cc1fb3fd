/-
  The document's budget: contracts of every function of package oxbowref05.
-/
import Derived.Test.YtafdgncjfiiekaaBudB
namespace Go.Proofs.Ytafdgncjfiiekaa
open Go.RowKit
set_option linter.unusedVariables false
set_option linter.unusedSimpArgs false

/-- The document's budget at block g. -/
structure RBudAt (w : World) (g : Nat) (B : Bud) : Prop where
  blk : Blk w g 80 #[.int .i64 B.l, .int .i64 B.a, .int .i64 B.b, .int .i64 B.c, .int .i64 B.d, .int .i64 B.h]
  good : B.Good
theorem RBudAt.chg {S : Nat → Prop} {w w' : World} {g : Nat} {B : Bud} (h : RBudAt w g B) (hc : Chg S w w') (hg : ¬ S g) : RBudAt w' g B := ⟨h.blk.chg hc hg, h.good⟩

theorem rbud_cells {w : World} {g : Nat} {l h a b c d : Int} (hb : Blk w g 80 #[.int .i64 l, .int .i64 a, .int .i64 b, .int .i64 c, .int .i64 d, .int .i64 h]) :
    w.cell? ⟨g, 0, none⟩ = some (.int .i64 l) ∧ w.cell? ⟨g, 1, none⟩ = some (.int .i64 a) ∧ w.cell? ⟨g, 2, none⟩ = some (.int .i64 b) ∧ w.cell? ⟨g, 3, none⟩ = some (.int .i64 c) ∧ w.cell? ⟨g, 4, none⟩ = some (.int .i64 d) ∧ w.cell? ⟨g, 5, none⟩ = some (.int .i64 h) :=
  ⟨hb.cell 0, hb.cell 1, hb.cell 2, hb.cell 3, hb.cell 4, hb.cell 5⟩

theorem rbud_new (l : Int) (w : World) :
    Calls Try.prog 22 #[.int .i64 l] w fun e w' => e = .returned (.pointer (some ⟨w.heap.size, 0, none⟩)) ∧ RBudAt w' w.heap.size (Bud.start l) ∧ w'.heap.size = w.heap.size + 1 ∧ Chg (fun _ => False) w w' := by
  have key : ∀ m : Int, m = max 0 (min l 1099511627776) → RBudAt (w.alloc (.cells #[.int .i64 m, .int .i64 0, .int .i64 0, .int .i64 0, .int .i64 0, .int .i64 0] 80)) w.heap.size (Bud.start l) := by
    rintro m rfl
    exact ⟨Blk.new _ _ _, Bud.start_good l⟩
  go_enter Try.func22, Try.ntmps22
  go_wp2
  all_goals go_ret
  all_goals exact ⟨rfl, key _ (by omega), by simp, (Chg.refl _ _).alloc _⟩

/-- the sum of what four cells hold -/
theorem rbud_used4 (g : Nat) (l a b c d h : Int) (w : World) (hb : Blk w g 80 #[.int .i64 l, .int .i64 a, .int .i64 b, .int .i64 c, .int .i64 d, .int .i64 h])
    (a0 : 0 ≤ a) (b0 : 0 ≤ b) (cc0 : 0 ≤ c) (d0 : 0 ≤ d) (hs : a + b + c + d ≤ 1099511627776) :
    Calls Try.prog 44 #[.pointer (some ⟨g, 0, none⟩)] w fun e w' => e = .returned (.int .i64 (a + b + c + d)) ∧ ∃ n, w.drewN n = w' := by
  obtain ⟨c0, c1, c2, c3, c4, c5⟩ := rbud_cells hb
  clear hb c0 c5
  go_enter Try.func44, Try.ntmps44
  go_wp2
  go_quiet (fail)
  go_wp2
  go_ret
  exact ⟨rfl, nq, rfl⟩

theorem rbud_used (g : Nat) (B : Bud) (w : World) (hb : RBudAt w g B) :
    Calls Try.prog 44 #[.pointer (some ⟨g, 0, none⟩)] w fun e w' => e = .returned (.int .i64 B.u) ∧ ∃ n, w.drewN n = w' := by
  obtain ⟨l0, l1, a0, b0, c0, d0, u0, uh, hl⟩ := hb.good
  rw [u0]
  exact rbud_used4 g B.l B.a B.b B.c B.d B.h w hb.blk a0 b0 c0 d0 (by omega)
theorem rbud_set_up0 (g : Nat) (l h a b c d x : Int) (w : World)
    (hb : Blk w g 80 #[.int .i64 l, .int .i64 a, .int .i64 b, .int .i64 c, .int .i64 d, .int .i64 h]) (a0 : 0 ≤ a) (b0 : 0 ≤ b) (cc0 : 0 ≤ c) (d0 : 0 ≤ d) (x0 : 0 ≤ x) (hs : x + b + c + d ≤ 1099511627776) (hup : h < x + b + c + d) :
    Calls Try.prog 61 #[.pointer (some ⟨g, 0, none⟩), .int .i64 0, .int .i64 x] w fun e w' => e = .returned (.tuple #[]) ∧ Blk w' g 80 #[.int .i64 l, .int .i64 x, .int .i64 b, .int .i64 c, .int .i64 d, .int .i64 (x + b + c + d)] ∧ Chg (fun k => k = g) w w' := by
  obtain ⟨c0, c1, c2, c3, c4, c5⟩ := rbud_cells hb
  have f1 := hb.frozen 1
  have f5 := hb.frozen 5
  have h2 := hb.set_ 1 (.int .i64 x)
  simp at h2
  have HB := Lib.hid hb
  clear hb
  have H2 := Lib.hid h2
  clear h2
  go_enter Try.func61, Try.ntmps61
  go_wp2_with fail
  have h2 := H2.out
  refine (rbud_used4 g l x b c d h _ h2 (by omega) (by omega) (by omega) (by omega) hs).mono ?_
  rintro e w' ⟨rfl, nq, rfl⟩
  clear h2
  go_wp2
  first | go_end0 | refine bodyPost_ret (results_none rfl _ _ _) rfl ?_
  have hb := HB.out
  exact ⟨rfl, by simpa using (((hb.set_ 1 (.int .i64 x)).drewN nq)).set_ 5 (.int .i64 (x + b + c + d)), by ((repeat (first | exact Chg.refl _ _ | assumption | refine Chg.drewN ?_ _ | refine Chg.drew ?_ | refine Chg.alloc ?_ _ | refine Chg.setCell ?_ (by simp) _)))⟩
theorem rbud_set_stay0 (g : Nat) (l h a b c d x : Int) (w : World)
    (hb : Blk w g 80 #[.int .i64 l, .int .i64 a, .int .i64 b, .int .i64 c, .int .i64 d, .int .i64 h]) (a0 : 0 ≤ a) (b0 : 0 ≤ b) (cc0 : 0 ≤ c) (d0 : 0 ≤ d) (x0 : 0 ≤ x) (hs : x + b + c + d ≤ 1099511627776) (hup : x + b + c + d ≤ h) :
    Calls Try.prog 61 #[.pointer (some ⟨g, 0, none⟩), .int .i64 0, .int .i64 x] w fun e w' => e = .returned (.tuple #[]) ∧ Blk w' g 80 #[.int .i64 l, .int .i64 x, .int .i64 b, .int .i64 c, .int .i64 d, .int .i64 h] ∧ Chg (fun k => k = g) w w' := by
  obtain ⟨c0, c1, c2, c3, c4, c5⟩ := rbud_cells hb
  have f1 := hb.frozen 1
  have f5 := hb.frozen 5
  have h2 := hb.set_ 1 (.int .i64 x)
  simp at h2
  have HB := Lib.hid hb
  clear hb
  have H2 := Lib.hid h2
  clear h2
  go_enter Try.func61, Try.ntmps61
  go_wp2_with fail
  have h2 := H2.out
  refine (rbud_used4 g l x b c d h _ h2 (by omega) (by omega) (by omega) (by omega) hs).mono ?_
  rintro e w' ⟨rfl, nq, rfl⟩
  clear h2
  go_wp2
  first | go_end0 | refine bodyPost_ret (results_none rfl _ _ _) rfl ?_
  have hb := HB.out
  exact ⟨rfl, by simpa using ((hb.set_ 1 (.int .i64 x)).drewN nq), by ((repeat (first | exact Chg.refl _ _ | assumption | refine Chg.drewN ?_ _ | refine Chg.drew ?_ | refine Chg.alloc ?_ _ | refine Chg.setCell ?_ (by simp) _)))⟩
theorem rbud_set_up1 (g : Nat) (l h a b c d x : Int) (w : World)
    (hb : Blk w g 80 #[.int .i64 l, .int .i64 a, .int .i64 b, .int .i64 c, .int .i64 d, .int .i64 h]) (a0 : 0 ≤ a) (b0 : 0 ≤ b) (cc0 : 0 ≤ c) (d0 : 0 ≤ d) (x0 : 0 ≤ x) (hs : a + x + c + d ≤ 1099511627776) (hup : h < a + x + c + d) :
    Calls Try.prog 61 #[.pointer (some ⟨g, 0, none⟩), .int .i64 1, .int .i64 x] w fun e w' => e = .returned (.tuple #[]) ∧ Blk w' g 80 #[.int .i64 l, .int .i64 a, .int .i64 x, .int .i64 c, .int .i64 d, .int .i64 (a + x + c + d)] ∧ Chg (fun k => k = g) w w' := by
  obtain ⟨c0, c1, c2, c3, c4, c5⟩ := rbud_cells hb
  have f2 := hb.frozen 2
  have f5 := hb.frozen 5
  have h2 := hb.set_ 2 (.int .i64 x)
  simp at h2
  have HB := Lib.hid hb
  clear hb
  have H2 := Lib.hid h2
  clear h2
  go_enter Try.func61, Try.ntmps61
  go_wp2_with fail
  have h2 := H2.out
  refine (rbud_used4 g l a x c d h _ h2 (by omega) (by omega) (by omega) (by omega) hs).mono ?_
  rintro e w' ⟨rfl, nq, rfl⟩
  clear h2
  go_wp2
  first | go_end0 | refine bodyPost_ret (results_none rfl _ _ _) rfl ?_
  have hb := HB.out
  exact ⟨rfl, by simpa using (((hb.set_ 2 (.int .i64 x)).drewN nq)).set_ 5 (.int .i64 (a + x + c + d)), by ((repeat (first | exact Chg.refl _ _ | assumption | refine Chg.drewN ?_ _ | refine Chg.drew ?_ | refine Chg.alloc ?_ _ | refine Chg.setCell ?_ (by simp) _)))⟩
theorem rbud_set_stay1 (g : Nat) (l h a b c d x : Int) (w : World)
    (hb : Blk w g 80 #[.int .i64 l, .int .i64 a, .int .i64 b, .int .i64 c, .int .i64 d, .int .i64 h]) (a0 : 0 ≤ a) (b0 : 0 ≤ b) (cc0 : 0 ≤ c) (d0 : 0 ≤ d) (x0 : 0 ≤ x) (hs : a + x + c + d ≤ 1099511627776) (hup : a + x + c + d ≤ h) :
    Calls Try.prog 61 #[.pointer (some ⟨g, 0, none⟩), .int .i64 1, .int .i64 x] w fun e w' => e = .returned (.tuple #[]) ∧ Blk w' g 80 #[.int .i64 l, .int .i64 a, .int .i64 x, .int .i64 c, .int .i64 d, .int .i64 h] ∧ Chg (fun k => k = g) w w' := by
  obtain ⟨c0, c1, c2, c3, c4, c5⟩ := rbud_cells hb
  have f2 := hb.frozen 2
  have f5 := hb.frozen 5
  have h2 := hb.set_ 2 (.int .i64 x)
  simp at h2
  have HB := Lib.hid hb
  clear hb
  have H2 := Lib.hid h2
  clear h2
  go_enter Try.func61, Try.ntmps61
  go_wp2_with fail
  have h2 := H2.out
  refine (rbud_used4 g l a x c d h _ h2 (by omega) (by omega) (by omega) (by omega) hs).mono ?_
  rintro e w' ⟨rfl, nq, rfl⟩
  clear h2
  go_wp2
  first | go_end0 | refine bodyPost_ret (results_none rfl _ _ _) rfl ?_
  have hb := HB.out
  exact ⟨rfl, by simpa using ((hb.set_ 2 (.int .i64 x)).drewN nq), by ((repeat (first | exact Chg.refl _ _ | assumption | refine Chg.drewN ?_ _ | refine Chg.drew ?_ | refine Chg.alloc ?_ _ | refine Chg.setCell ?_ (by simp) _)))⟩
theorem rbud_set_up2 (g : Nat) (l h a b c d x : Int) (w : World)
    (hb : Blk w g 80 #[.int .i64 l, .int .i64 a, .int .i64 b, .int .i64 c, .int .i64 d, .int .i64 h]) (a0 : 0 ≤ a) (b0 : 0 ≤ b) (cc0 : 0 ≤ c) (d0 : 0 ≤ d) (x0 : 0 ≤ x) (hs : a + b + x + d ≤ 1099511627776) (hup : h < a + b + x + d) :
    Calls Try.prog 61 #[.pointer (some ⟨g, 0, none⟩), .int .i64 2, .int .i64 x] w fun e w' => e = .returned (.tuple #[]) ∧ Blk w' g 80 #[.int .i64 l, .int .i64 a, .int .i64 b, .int .i64 x, .int .i64 d, .int .i64 (a + b + x + d)] ∧ Chg (fun k => k = g) w w' := by
  obtain ⟨c0, c1, c2, c3, c4, c5⟩ := rbud_cells hb
  have f3 := hb.frozen 3
  have f5 := hb.frozen 5
  have h2 := hb.set_ 3 (.int .i64 x)
  simp at h2
  have HB := Lib.hid hb
  clear hb
  have H2 := Lib.hid h2
  clear h2
  go_enter Try.func61, Try.ntmps61
  go_wp2_with fail
  have h2 := H2.out
  refine (rbud_used4 g l a b x d h _ h2 (by omega) (by omega) (by omega) (by omega) hs).mono ?_
  rintro e w' ⟨rfl, nq, rfl⟩
  clear h2
  go_wp2
  first | go_end0 | refine bodyPost_ret (results_none rfl _ _ _) rfl ?_
  have hb := HB.out
  exact ⟨rfl, by simpa using (((hb.set_ 3 (.int .i64 x)).drewN nq)).set_ 5 (.int .i64 (a + b + x + d)), by ((repeat (first | exact Chg.refl _ _ | assumption | refine Chg.drewN ?_ _ | refine Chg.drew ?_ | refine Chg.alloc ?_ _ | refine Chg.setCell ?_ (by simp) _)))⟩
theorem rbud_set_stay2 (g : Nat) (l h a b c d x : Int) (w : World)
    (hb : Blk w g 80 #[.int .i64 l, .int .i64 a, .int .i64 b, .int .i64 c, .int .i64 d, .int .i64 h]) (a0 : 0 ≤ a) (b0 : 0 ≤ b) (cc0 : 0 ≤ c) (d0 : 0 ≤ d) (x0 : 0 ≤ x) (hs : a + b + x + d ≤ 1099511627776) (hup : a + b + x + d ≤ h) :
    Calls Try.prog 61 #[.pointer (some ⟨g, 0, none⟩), .int .i64 2, .int .i64 x] w fun e w' => e = .returned (.tuple #[]) ∧ Blk w' g 80 #[.int .i64 l, .int .i64 a, .int .i64 b, .int .i64 x, .int .i64 d, .int .i64 h] ∧ Chg (fun k => k = g) w w' := by
  obtain ⟨c0, c1, c2, c3, c4, c5⟩ := rbud_cells hb
  have f3 := hb.frozen 3
  have f5 := hb.frozen 5
  have h2 := hb.set_ 3 (.int .i64 x)
  simp at h2
  have HB := Lib.hid hb
  clear hb
  have H2 := Lib.hid h2
  clear h2
  go_enter Try.func61, Try.ntmps61
  go_wp2_with fail
  have h2 := H2.out
  refine (rbud_used4 g l a b x d h _ h2 (by omega) (by omega) (by omega) (by omega) hs).mono ?_
  rintro e w' ⟨rfl, nq, rfl⟩
  clear h2
  go_wp2
  first | go_end0 | refine bodyPost_ret (results_none rfl _ _ _) rfl ?_
  have hb := HB.out
  exact ⟨rfl, by simpa using ((hb.set_ 3 (.int .i64 x)).drewN nq), by ((repeat (first | exact Chg.refl _ _ | assumption | refine Chg.drewN ?_ _ | refine Chg.drew ?_ | refine Chg.alloc ?_ _ | refine Chg.setCell ?_ (by simp) _)))⟩
theorem rbud_set_up3 (g : Nat) (l h a b c d x : Int) (w : World)
    (hb : Blk w g 80 #[.int .i64 l, .int .i64 a, .int .i64 b, .int .i64 c, .int .i64 d, .int .i64 h]) (a0 : 0 ≤ a) (b0 : 0 ≤ b) (cc0 : 0 ≤ c) (d0 : 0 ≤ d) (x0 : 0 ≤ x) (hs : a + b + c + x ≤ 1099511627776) (hup : h < a + b + c + x) :
    Calls Try.prog 61 #[.pointer (some ⟨g, 0, none⟩), .int .i64 3, .int .i64 x] w fun e w' => e = .returned (.tuple #[]) ∧ Blk w' g 80 #[.int .i64 l, .int .i64 a, .int .i64 b, .int .i64 c, .int .i64 x, .int .i64 (a + b + c + x)] ∧ Chg (fun k => k = g) w w' := by
  obtain ⟨c0, c1, c2, c3, c4, c5⟩ := rbud_cells hb
  have f4 := hb.frozen 4
  have f5 := hb.frozen 5
  have h2 := hb.set_ 4 (.int .i64 x)
  simp at h2
  have HB := Lib.hid hb
  clear hb
  have H2 := Lib.hid h2
  clear h2
  go_enter Try.func61, Try.ntmps61
  go_wp2_with fail
  have h2 := H2.out
  refine (rbud_used4 g l a b c x h _ h2 (by omega) (by omega) (by omega) (by omega) hs).mono ?_
  rintro e w' ⟨rfl, nq, rfl⟩
  clear h2
  go_wp2
  first | go_end0 | refine bodyPost_ret (results_none rfl _ _ _) rfl ?_
  have hb := HB.out
  exact ⟨rfl, by simpa using (((hb.set_ 4 (.int .i64 x)).drewN nq)).set_ 5 (.int .i64 (a + b + c + x)), by ((repeat (first | exact Chg.refl _ _ | assumption | refine Chg.drewN ?_ _ | refine Chg.drew ?_ | refine Chg.alloc ?_ _ | refine Chg.setCell ?_ (by simp) _)))⟩
theorem rbud_set_stay3 (g : Nat) (l h a b c d x : Int) (w : World)
    (hb : Blk w g 80 #[.int .i64 l, .int .i64 a, .int .i64 b, .int .i64 c, .int .i64 d, .int .i64 h]) (a0 : 0 ≤ a) (b0 : 0 ≤ b) (cc0 : 0 ≤ c) (d0 : 0 ≤ d) (x0 : 0 ≤ x) (hs : a + b + c + x ≤ 1099511627776) (hup : a + b + c + x ≤ h) :
    Calls Try.prog 61 #[.pointer (some ⟨g, 0, none⟩), .int .i64 3, .int .i64 x] w fun e w' => e = .returned (.tuple #[]) ∧ Blk w' g 80 #[.int .i64 l, .int .i64 a, .int .i64 b, .int .i64 c, .int .i64 x, .int .i64 h] ∧ Chg (fun k => k = g) w w' := by
  obtain ⟨c0, c1, c2, c3, c4, c5⟩ := rbud_cells hb
  have f4 := hb.frozen 4
  have f5 := hb.frozen 5
  have h2 := hb.set_ 4 (.int .i64 x)
  simp at h2
  have HB := Lib.hid hb
  clear hb
  have H2 := Lib.hid h2
  clear h2
  go_enter Try.func61, Try.ntmps61
  go_wp2_with fail
  have h2 := H2.out
  refine (rbud_used4 g l a b c x h _ h2 (by omega) (by omega) (by omega) (by omega) hs).mono ?_
  rintro e w' ⟨rfl, nq, rfl⟩
  clear h2
  go_wp2
  first | go_end0 | refine bodyPost_ret (results_none rfl _ _ _) rfl ?_
  have hb := HB.out
  exact ⟨rfl, by simpa using ((hb.set_ 4 (.int .i64 x)).drewN nq), by ((repeat (first | exact Chg.refl _ _ | assumption | refine Chg.drewN ?_ _ | refine Chg.drew ?_ | refine Chg.alloc ?_ _ | refine Chg.setCell ?_ (by simp) _)))⟩

theorem rbud_set (g : Nat) (B : Bud) (k x : Int) (w : World) (hb : RBudAt w g B) (hk0 : 0 ≤ k) (hk4 : k < 4) (x0 : 0 ≤ x) (hx : B.u - B.of k + x ≤ B.l) :
    Calls Try.prog 61 #[.pointer (some ⟨g, 0, none⟩), .int .i64 k, .int .i64 x] w fun e w' => e = .returned (.tuple #[]) ∧ RBudAt w' g (B.put k x) ∧ Chg (fun k => k = g) w w' := by
  have hgood := Bud.put_good (k := k) (x := x) hb.good x0 hx
  obtain ⟨l, u, h, a, b, c, d⟩ := B
  obtain ⟨hb, l0, l1, a0, b0, c0, d0, u0, uh, hl⟩ := hb
  simp only at *
  rcases kind_cases hk0 hk4 with rfl | rfl | rfl | rfl <;> simp [Bud.of, Bud.put] at hx hgood ⊢
  · have he : u - a + x = x + b + c + d := by omega
    rw [he] at hx hgood ⊢
    by_cases hup : h < x + b + c + d
    · refine (rbud_set_up0 g l h a b c d x w hb (by omega) (by omega) (by omega) (by omega) (by omega) (by omega) hup).mono ?_
      rintro e w' ⟨rfl, h1, h2⟩
      exact ⟨rfl, ⟨by simpa [hup] using h1, hgood⟩, h2⟩
    · refine (rbud_set_stay0 g l h a b c d x w hb (by omega) (by omega) (by omega) (by omega) (by omega) (by omega) (by omega)).mono ?_
      rintro e w' ⟨rfl, h1, h2⟩
      exact ⟨rfl, ⟨by simpa [hup] using h1, hgood⟩, h2⟩
  · have he : u - b + x = a + x + c + d := by omega
    rw [he] at hx hgood ⊢
    by_cases hup : h < a + x + c + d
    · refine (rbud_set_up1 g l h a b c d x w hb (by omega) (by omega) (by omega) (by omega) (by omega) (by omega) hup).mono ?_
      rintro e w' ⟨rfl, h1, h2⟩
      exact ⟨rfl, ⟨by simpa [hup] using h1, hgood⟩, h2⟩
    · refine (rbud_set_stay1 g l h a b c d x w hb (by omega) (by omega) (by omega) (by omega) (by omega) (by omega) (by omega)).mono ?_
      rintro e w' ⟨rfl, h1, h2⟩
      exact ⟨rfl, ⟨by simpa [hup] using h1, hgood⟩, h2⟩
  · have he : u - c + x = a + b + x + d := by omega
    rw [he] at hx hgood ⊢
    by_cases hup : h < a + b + x + d
    · refine (rbud_set_up2 g l h a b c d x w hb (by omega) (by omega) (by omega) (by omega) (by omega) (by omega) hup).mono ?_
      rintro e w' ⟨rfl, h1, h2⟩
      exact ⟨rfl, ⟨by simpa [hup] using h1, hgood⟩, h2⟩
    · refine (rbud_set_stay2 g l h a b c d x w hb (by omega) (by omega) (by omega) (by omega) (by omega) (by omega) (by omega)).mono ?_
      rintro e w' ⟨rfl, h1, h2⟩
      exact ⟨rfl, ⟨by simpa [hup] using h1, hgood⟩, h2⟩
  · have he : u - d + x = a + b + c + x := by omega
    rw [he] at hx hgood ⊢
    by_cases hup : h < a + b + c + x
    · refine (rbud_set_up3 g l h a b c d x w hb (by omega) (by omega) (by omega) (by omega) (by omega) (by omega) hup).mono ?_
      rintro e w' ⟨rfl, h1, h2⟩
      exact ⟨rfl, ⟨by simpa [hup] using h1, hgood⟩, h2⟩
    · refine (rbud_set_stay3 g l h a b c d x w hb (by omega) (by omega) (by omega) (by omega) (by omega) (by omega) (by omega)).mono ?_
      rintro e w' ⟨rfl, h1, h2⟩
      exact ⟨rfl, ⟨by simpa [hup] using h1, hgood⟩, h2⟩

theorem rbud_of_cell {w : World} {g : Nat} {B : Bud} (hb : RBudAt w g B) {k : Int} (hk0 : 0 ≤ k) (hk4 : k < 4) : w.cell? ⟨g, 1 + k.toNat, none⟩ = some (.int .i64 (B.of k)) := by
  rcases kind_cases hk0 hk4 with rfl | rfl | rfl | rfl
  · exact hb.blk.cell 1
  · exact hb.blk.cell 2
  · exact hb.blk.cell 3
  · exact hb.blk.cell 4
theorem RBudAt.drewN {w : World} {g : Nat} {B : Bud} (h : RBudAt w g B) (n : Nat) : RBudAt (w.drewN n) g B := ⟨h.blk, h.good⟩

theorem rbud_reserve (g : Nat) (B : Bud) (k n : Int) (w : World) (hb : RBudAt w g B) :
    Calls Try.prog 43 #[.pointer (some ⟨g, 0, none⟩), .int .i64 k, .int .i64 n] w fun e w' => e = .returned (.int .i64 (B.reserve k n).1) ∧ RBudAt w' g (B.reserve k n).2 ∧ Chg (fun k => k = g) w w' := by
  have hof := Bud.of_bd hb.good k
  have hlim : B.u ≤ B.l := Int.le_trans hb.good.uh hb.good.hl
  have hlim2 := hb.good.l1
  have hu0 : 0 ≤ B.u := by omega
  unfold Bud.reserve
  by_cases k0 : k < 0
  · rw [if_pos (by omega)]
    go_enter Try.func43, Try.ntmps43
    go_wp2
    go_ret
    exact ⟨rfl, hb, Chg.refl _ _⟩
  by_cases k4 : 3 < k
  · rw [if_pos (by omega)]
    go_enter Try.func43, Try.ntmps43
    go_wp2
    go_ret
    exact ⟨rfl, hb, Chg.refl _ _⟩
  by_cases n0 : n < 0
  · rw [if_pos (by omega)]
    go_enter Try.func43, Try.ntmps43
    go_wp2
    go_ret
    exact ⟨rfl, hb, Chg.refl _ _⟩
  rw [if_neg (by omega)]
  have hk0 : 0 ≤ k := by omega
  have hk4 : k < 4 := by omega
  have hn0 : 0 ≤ n := by omega
  have hcell := rbud_of_cell hb hk0 hk4
  have c0 := hb.blk.cell 0
  simp at c0
  have hused := rbud_used g B w hb
  by_cases h2 : B.l - B.u < n
  · rw [if_pos h2]
    go_enter Try.func43, Try.ntmps43
    go_wp2_with (go_at_call 44; refine hused.mono ?_; rintro e w' ⟨rfl, nq, rfl⟩)
    go_ret
    exact ⟨rfl, hb.drewN _, by ((repeat (first | exact Chg.refl _ _ | assumption | refine Chg.drewN ?_ _ | refine Chg.drew ?_ | refine Chg.alloc ?_ _ | refine Chg.setCell ?_ (by simp) _)))⟩
  · rw [if_neg h2]
    have hset := fun nq => rbud_set g B k (B.of k + n) (w.drewN nq) (hb.drewN nq) hk0 hk4 (by omega) (by omega)
    go_enter Try.func43, Try.ntmps43
    go_wp2_with (first | (go_at_call 44; refine hused.mono ?_; rintro e w' ⟨rfl, nq, rfl⟩) | (go_at_call 61; refine (hset nq).mono ?_; rintro e w' ⟨rfl, hb', hc⟩))
    go_ret
    exact ⟨rfl, hb', ((Chg.refl _ _).drewN nq).then hc⟩

theorem rbud_release (g : Nat) (B : Bud) (k n : Int) (w : World) (hb : RBudAt w g B) :
    Calls Try.prog 41 #[.pointer (some ⟨g, 0, none⟩), .int .i64 k, .int .i64 n] w fun e w' => e = .returned (.int .i64 (B.release k n).1) ∧ RBudAt w' g (B.release k n).2 ∧ Chg (fun k => k = g) w w' := by
  have hof := Bud.of_bd hb.good k
  have hlim : B.u ≤ B.l := Int.le_trans hb.good.uh hb.good.hl
  have hlim2 := hb.good.l1
  have hu0 : 0 ≤ B.u := by omega
  unfold Bud.release
  by_cases k0 : k < 0
  · rw [if_pos (by omega)]
    go_enter Try.func41, Try.ntmps41
    go_wp2
    go_ret
    exact ⟨rfl, hb, Chg.refl _ _⟩
  by_cases k4 : 3 < k
  · rw [if_pos (by omega)]
    go_enter Try.func41, Try.ntmps41
    go_wp2
    go_ret
    exact ⟨rfl, hb, Chg.refl _ _⟩
  by_cases n0 : n < 0
  · rw [if_pos (by omega)]
    go_enter Try.func41, Try.ntmps41
    go_wp2
    go_ret
    exact ⟨rfl, hb, Chg.refl _ _⟩
  rw [if_neg (by omega)]
  have hk0 : 0 ≤ k := by omega
  have hk4 : k < 4 := by omega
  have hn0 : 0 ≤ n := by omega
  have hcell := rbud_of_cell hb hk0 hk4
  by_cases h2 : B.of k < n
  · rw [if_pos h2]
    go_enter Try.func41, Try.ntmps41
    go_wp2
    go_ret
    exact ⟨rfl, hb, by ((repeat (first | exact Chg.refl _ _ | assumption | refine Chg.drewN ?_ _ | refine Chg.drew ?_ | refine Chg.alloc ?_ _ | refine Chg.setCell ?_ (by simp) _)))⟩
  · rw [if_neg h2]
    have hset := rbud_set g B k (B.of k - n) w hb hk0 hk4 (by omega) (by omega)
    go_enter Try.func41, Try.ntmps41
    go_wp2_with (go_at_call 61; refine hset.mono ?_; rintro e w' ⟨rfl, hb', hc⟩)
    go_ret
    exact ⟨rfl, hb', hc⟩

theorem rbud_change (g : Nat) (B : Bud) (k n : Int) (w : World) (hb : RBudAt w g B) (hnm : n ≤ 9223372036854775807) :
    Calls Try.prog 42 #[.pointer (some ⟨g, 0, none⟩), .int .i64 k, .int .i64 n] w fun e w' => e = .returned (.int .i64 (B.change k n).1) ∧ RBudAt w' g (B.change k n).2 ∧ Chg (fun k => k = g) w w' := by
  have hof := Bud.of_bd hb.good k
  have hlim : B.u ≤ B.l := Int.le_trans hb.good.uh hb.good.hl
  have hlim2 := hb.good.l1
  have hu0 : 0 ≤ B.u := by omega
  unfold Bud.change
  by_cases k0 : k < 0
  · rw [if_pos (by omega)]
    go_enter Try.func42, Try.ntmps42
    go_wp2
    go_ret
    exact ⟨rfl, hb, Chg.refl _ _⟩
  by_cases k4 : 3 < k
  · rw [if_pos (by omega)]
    go_enter Try.func42, Try.ntmps42
    go_wp2
    go_ret
    exact ⟨rfl, hb, Chg.refl _ _⟩
  by_cases n0 : n < 0
  · rw [if_pos (by omega)]
    go_enter Try.func42, Try.ntmps42
    go_wp2
    go_ret
    exact ⟨rfl, hb, Chg.refl _ _⟩
  rw [if_neg (by omega)]
  have hk0 : 0 ≤ k := by omega
  have hk4 : k < 4 := by omega
  have hn0 : 0 ≤ n := by omega
  have hcell := rbud_of_cell hb hk0 hk4
  have c0 := hb.blk.cell 0
  simp at c0
  have hused := rbud_used g B w hb
  by_cases h2 : B.l - B.u < n - B.of k
  · rw [if_pos h2]
    have h2' : B.l - (B.u - B.of k) < n := by omega
    go_enter Try.func42, Try.ntmps42
    go_wp2_with (go_at_call 44; refine hused.mono ?_; rintro e w' ⟨rfl, nq, rfl⟩)
    go_ret
    exact ⟨rfl, hb.drewN _, by ((repeat (first | exact Chg.refl _ _ | assumption | refine Chg.drewN ?_ _ | refine Chg.drew ?_ | refine Chg.alloc ?_ _ | refine Chg.setCell ?_ (by simp) _)))⟩
  · rw [if_neg h2]
    have h2' : ¬ B.l - (B.u - B.of k) < n := by omega
    have hset := fun nq => rbud_set g B k n (w.drewN nq) (hb.drewN nq) hk0 hk4 (by omega) (by omega)
    go_enter Try.func42, Try.ntmps42
    go_wp2_with (first | (go_at_call 44; refine hused.mono ?_; rintro e w' ⟨rfl, nq, rfl⟩) | (go_at_call 61; refine (hset nq).mono ?_; rintro e w' ⟨rfl, hb', hc⟩))
    go_ret
    exact ⟨rfl, hb', ((Chg.refl _ _).drewN nq).then hc⟩
end Go.Proofs.Ytafdgncjfiiekaa
