/-
  The budget: contracts of the atomic operations and of every function of package budget.
-/
import Derived.Test.YtafdgncjfiiekaaProg
import Derived.Test.YtafdgncjfiiekaaBase
import Derived.Test.YtafdgncjfiiekaaBudM
namespace Go.Proofs.Ytafdgncjfiiekaa
open Go.RowKit
set_option linter.unusedVariables false
set_option linter.unusedSimpArgs false

theorem atomic_load (b o : Nat) (x : Int) (w : World) (hc : w.cell? ⟨b, o, none⟩ = some (.int .i64 x)) :
    Calls Try.prog 40 #[.pointer (some ⟨b, o, none⟩)] w fun e w' => e = .returned (.int .i64 x) ∧ w = w' := by
  have hl := run_call_load (P := Try.prog) Try.func60 (by kernel_rfl) (by kernel_rfl) (by kernel_rfl) .i64 (by kernel_rfl) hc
  go_enter Try.func40, Try.ntmps40
  go_wp2
  go_ret
  exact ⟨rfl, rfl⟩

theorem atomic_add (b o : Nat) (x y : Int) (hx : 0 ≤ x + y) (hy : x + y ≤ 9223372036854775807) (w : World) (hc : w.cell? ⟨b, o, none⟩ = some (.int .i64 x)) (hz : w.frozen? ⟨b, o, none⟩ = false) :
    Calls Try.prog 58 #[.pointer (some ⟨b, o, none⟩), .int .i64 y] w fun e w' => e = .returned (.int .i64 (x + y)) ∧ w.setCell ⟨b, o, none⟩ (.int .i64 (x + y)) = w' := by
  have hl := run_call_add (P := Try.prog) Try.func66 (by kernel_rfl) (by kernel_rfl) (by kernel_rfl) .i64 (by kernel_rfl) (x := x) (y := y) (s := x + y) hc hz (by simp [go_sem]; rw [IntWalk.i64_in _ (by omega)])
  go_enter Try.func58, Try.ntmps58
  go_wp2
  go_ret
  exact ⟨rfl, rfl⟩

theorem atomic_cas (b o : Nat) (x y : Int) (w : World) (hc : w.cell? ⟨b, o, none⟩ = some (.int .i64 x)) (hz : w.frozen? ⟨b, o, none⟩ = false) :
    Calls Try.prog 59 #[.pointer (some ⟨b, o, none⟩), .int .i64 x, .int .i64 y] w fun e w' => e = .returned (.bool true) ∧ w.setCell ⟨b, o, none⟩ (.int .i64 y) = w' := by
  have hl := run_call_cas_hit (P := Try.prog) Try.func67 (by kernel_rfl) (by kernel_rfl) (by kernel_rfl) .i64 (by kernel_rfl) (y := y) hc hz
  go_enter Try.func59, Try.ntmps59
  go_wp2
  go_ret
  exact ⟨rfl, rfl⟩

/-- The budget at block g. -/
structure BudAt (w : World) (g : Nat) (B : Bud) : Prop where
  blk : Blk w g 77 #[.int .i64 B.l, .int .i64 B.u, .int .i64 B.h, .int .i64 B.a, .int .i64 B.b, .int .i64 B.c, .int .i64 B.d]
  good : B.Good

theorem BudAt.chg {S : Nat → Prop} {w w' : World} {g : Nat} {B : Bud} (h : BudAt w g B) (hc : Chg S w w') (hg : ¬ S g) : BudAt w' g B := ⟨h.blk.chg hc hg, h.good⟩
theorem BudAt.drewN {w : World} {g : Nat} {B : Bud} (h : BudAt w g B) (n : Nat) : BudAt (w.drewN n) g B := ⟨h.blk, h.good⟩

/-- All cells of a budget, and that none is frozen. -/
theorem bud_cells {w : World} {g : Nat} {l u h a b c d : Int} (hb : Blk w g 77 #[.int .i64 l, .int .i64 u, .int .i64 h, .int .i64 a, .int .i64 b, .int .i64 c, .int .i64 d]) :
    w.cell? ⟨g, 0, none⟩ = some (.int .i64 l) ∧ w.cell? ⟨g, 1, none⟩ = some (.int .i64 u) ∧ w.cell? ⟨g, 2, none⟩ = some (.int .i64 h) ∧ w.cell? ⟨g, 3, none⟩ = some (.int .i64 a) ∧ w.cell? ⟨g, 4, none⟩ = some (.int .i64 b) ∧ w.cell? ⟨g, 5, none⟩ = some (.int .i64 c) ∧ w.cell? ⟨g, 6, none⟩ = some (.int .i64 d) :=
  ⟨hb.cell 0, hb.cell 1, hb.cell 2, hb.cell 3, hb.cell 4, hb.cell 5, hb.cell 6⟩

theorem bud_new (l : Int) (w : World) :
    Calls Try.prog 13 #[.int .i64 l] w fun e w' => e = .returned (.pointer (some ⟨w.heap.size, 0, none⟩)) ∧ BudAt w' w.heap.size (Bud.start l) ∧ w'.heap.size = w.heap.size + 1 ∧ Chg (fun _ => False) w w' := by
  have key : ∀ m : Int, m = max 0 (min l 1099511627776) → BudAt (w.alloc (.cells #[.int .i64 m, .int .i64 0, .int .i64 0, .int .i64 0, .int .i64 0, .int .i64 0, .int .i64 0] 77)) w.heap.size (Bud.start l) := by
    rintro m rfl
    exact ⟨Blk.new _ _ _, Bud.start_good l⟩
  go_enter Try.func13, Try.ntmps13
  go_wp2
  all_goals go_ret
  all_goals exact ⟨rfl, key _ (by omega), by simp, (Chg.refl _ _).alloc _⟩

/-- may: a budget that there is. -/
theorem bud_may (g : Nat) (k n : Int) (w : World) :
    Calls Try.prog 38 #[.pointer (some ⟨g, 0, none⟩), .int .i64 k, .int .i64 n] w fun e w' => e = .returned (.int .i64 (if k < 0 ∨ 4 ≤ k ∨ n < 0 then 2 else 0)) ∧ w = w' := by
  go_enter Try.func38, Try.ntmps38
  by_cases h1 : k < 0
  · go_wp2
    go_ret
    exact ⟨by simp [h1], rfl⟩
  by_cases h2 : 4 ≤ k
  · go_wp2
    go_ret
    exact ⟨by simp [h2], rfl⟩
  by_cases h3 : n < 0
  · go_wp2
    go_ret
    exact ⟨by simp [h3], rfl⟩
  go_wp2
  go_ret
  exact ⟨by simp [h1, h2, h3], rfl⟩

/-- may: of a nil budget. -/
theorem bud_may_nil (k n : Int) (w : World) :
    Calls Try.prog 38 #[.pointer none, .int .i64 k, .int .i64 n] w fun e w' => e = .returned (.int .i64 1) ∧ w = w' := by
  go_enter Try.func38, Try.ntmps38
  go_wp2
  go_ret
  exact ⟨rfl, rfl⟩

theorem bud_add_no (g : Nat) (l u h a b c d k n : Int) (w : World)
    (hb : Blk w g 77 #[.int .i64 l, .int .i64 u, .int .i64 h, .int .i64 a, .int .i64 b, .int .i64 c, .int .i64 d]) (hu : 0 ≤ u) (hl : u ≤ l) (hl1 : l ≤ 1099511627776) (hn : l - u < n) :
    Calls Try.prog 39 #[.pointer (some ⟨g, 0, none⟩), .int .i64 k, .int .i64 n] w fun e w' => e = .returned (.int .i64 14) ∧ Chg (fun _ => False) w w' := by
  obtain ⟨c0, c1, c2, c3, c4, c5, c6⟩ := bud_cells hb
  clear c2 c3 c4 c5 c6 hb
  go_enter Try.func39, Try.ntmps39
  go_wp2
  go_quiet ((go_at_call 40; refine quiet_same (atomic_load _ _ u _ ?_); exact c1))
  go_wp2
  go_ret
  exact ⟨rfl, (Chg.refl _ _).drewN _⟩

/-- add, kind by kind, where the greatest sum rises ('up') and where it stays ('stay'). -/
theorem bud_add_up0 (g : Nat) (l u h a b c d n : Int) (w : World)
    (hb : Blk w g 77 #[.int .i64 l, .int .i64 u, .int .i64 h, .int .i64 a, .int .i64 b, .int .i64 c, .int .i64 d]) (hu : 0 ≤ u) (hl : u ≤ l) (hl1 : l ≤ 1099511627776) (hn : n ≤ l - u) (hx : 0 ≤ a) (hxu : a ≤ u) (hx0 : 0 ≤ a + n) (hun : 0 ≤ u + n) (hup : h < u + n) :
    Calls Try.prog 39 #[.pointer (some ⟨g, 0, none⟩), .int .i64 0, .int .i64 n] w fun e w' => e = .returned (.int .i64 0) ∧ Blk w' g 77 #[.int .i64 l, .int .i64 (u + n), .int .i64 (u + n), .int .i64 (a + n), .int .i64 b, .int .i64 c, .int .i64 d] ∧ Chg (fun k => k = g) w w' := by
  obtain ⟨c0, c1, c2, c3, c4, c5, c6⟩ := bud_cells hb
  have f1 := hb.frozen 1
  have f2 := hb.frozen 2
  have f3 := hb.frozen 3
  have HB := Lib.hid hb
  clear hb
  go_enter Try.func39, Try.ntmps39
  go_wp2
  go_quiet ((go_at_call 40; refine quiet_same (atomic_load _ _ u _ ?_); exact c1))
  go_wp2_with fail
  refine (atomic_add _ _ a n (by omega) (by omega) _ (by exact c3) (by exact f3)).mono ?_
  rintro e w' ⟨rfl, rfl⟩
  go_wp2_with fail
  refine (atomic_add _ _ u n (by omega) (by omega) _ (by go_simp) (by go_simp)).mono ?_
  rintro e w' ⟨rfl, rfl⟩
  go_wp2_with fail
  refine (atomic_load _ _ h _ (by go_simp)).mono ?_
  rintro e w' ⟨rfl, rfl⟩
  go_wp2_with fail
  apply wp_loop_once
  go_wp2_with fail
  refine (atomic_cas _ _ h (u + n) _ (by go_simp) (by go_simp)).mono ?_
  rintro e w' ⟨rfl, rfl⟩
  go_wp2_with fail
  go_ret
  have hb := HB.out
  exact ⟨rfl, by simpa using (((hb.drewN nq).set_ 3 (.int .i64 (a + n))).set_ 1 (.int .i64 (u + n))).set_ 2 (.int .i64 (u + n)), by ((repeat (first | exact Chg.refl _ _ | assumption | refine Chg.drewN ?_ _ | refine Chg.drew ?_ | refine Chg.alloc ?_ _ | refine Chg.setCell ?_ (by simp) _)))⟩
theorem bud_add_stay0 (g : Nat) (l u h a b c d n : Int) (w : World)
    (hb : Blk w g 77 #[.int .i64 l, .int .i64 u, .int .i64 h, .int .i64 a, .int .i64 b, .int .i64 c, .int .i64 d]) (hu : 0 ≤ u) (hl : u ≤ l) (hl1 : l ≤ 1099511627776) (hn : n ≤ l - u) (hx : 0 ≤ a) (hxu : a ≤ u) (hx0 : 0 ≤ a + n) (hun : 0 ≤ u + n) (hup : u + n ≤ h) :
    Calls Try.prog 39 #[.pointer (some ⟨g, 0, none⟩), .int .i64 0, .int .i64 n] w fun e w' => e = .returned (.int .i64 0) ∧ Blk w' g 77 #[.int .i64 l, .int .i64 (u + n), .int .i64 h, .int .i64 (a + n), .int .i64 b, .int .i64 c, .int .i64 d] ∧ Chg (fun k => k = g) w w' := by
  obtain ⟨c0, c1, c2, c3, c4, c5, c6⟩ := bud_cells hb
  have f1 := hb.frozen 1
  have f2 := hb.frozen 2
  have f3 := hb.frozen 3
  have HB := Lib.hid hb
  clear hb
  go_enter Try.func39, Try.ntmps39
  go_wp2
  go_quiet ((go_at_call 40; refine quiet_same (atomic_load _ _ u _ ?_); exact c1))
  go_wp2_with fail
  refine (atomic_add _ _ a n (by omega) (by omega) _ (by exact c3) (by exact f3)).mono ?_
  rintro e w' ⟨rfl, rfl⟩
  go_wp2_with fail
  refine (atomic_add _ _ u n (by omega) (by omega) _ (by go_simp) (by go_simp)).mono ?_
  rintro e w' ⟨rfl, rfl⟩
  go_wp2_with fail
  refine (atomic_load _ _ h _ (by go_simp)).mono ?_
  rintro e w' ⟨rfl, rfl⟩
  go_wp2_with fail
  apply wp_loop_once
  go_wp2_with fail
  go_ret
  have hb := HB.out
  exact ⟨rfl, by simpa using ((hb.drewN nq).set_ 3 (.int .i64 (a + n))).set_ 1 (.int .i64 (u + n)), by ((repeat (first | exact Chg.refl _ _ | assumption | refine Chg.drewN ?_ _ | refine Chg.drew ?_ | refine Chg.alloc ?_ _ | refine Chg.setCell ?_ (by simp) _)))⟩
theorem bud_add_up1 (g : Nat) (l u h a b c d n : Int) (w : World)
    (hb : Blk w g 77 #[.int .i64 l, .int .i64 u, .int .i64 h, .int .i64 a, .int .i64 b, .int .i64 c, .int .i64 d]) (hu : 0 ≤ u) (hl : u ≤ l) (hl1 : l ≤ 1099511627776) (hn : n ≤ l - u) (hx : 0 ≤ b) (hxu : b ≤ u) (hx0 : 0 ≤ b + n) (hun : 0 ≤ u + n) (hup : h < u + n) :
    Calls Try.prog 39 #[.pointer (some ⟨g, 0, none⟩), .int .i64 1, .int .i64 n] w fun e w' => e = .returned (.int .i64 0) ∧ Blk w' g 77 #[.int .i64 l, .int .i64 (u + n), .int .i64 (u + n), .int .i64 a, .int .i64 (b + n), .int .i64 c, .int .i64 d] ∧ Chg (fun k => k = g) w w' := by
  obtain ⟨c0, c1, c2, c3, c4, c5, c6⟩ := bud_cells hb
  have f1 := hb.frozen 1
  have f2 := hb.frozen 2
  have f4 := hb.frozen 4
  have HB := Lib.hid hb
  clear hb
  go_enter Try.func39, Try.ntmps39
  go_wp2
  go_quiet ((go_at_call 40; refine quiet_same (atomic_load _ _ u _ ?_); exact c1))
  go_wp2_with fail
  refine (atomic_add _ _ b n (by omega) (by omega) _ (by exact c4) (by exact f4)).mono ?_
  rintro e w' ⟨rfl, rfl⟩
  go_wp2_with fail
  refine (atomic_add _ _ u n (by omega) (by omega) _ (by go_simp) (by go_simp)).mono ?_
  rintro e w' ⟨rfl, rfl⟩
  go_wp2_with fail
  refine (atomic_load _ _ h _ (by go_simp)).mono ?_
  rintro e w' ⟨rfl, rfl⟩
  go_wp2_with fail
  apply wp_loop_once
  go_wp2_with fail
  refine (atomic_cas _ _ h (u + n) _ (by go_simp) (by go_simp)).mono ?_
  rintro e w' ⟨rfl, rfl⟩
  go_wp2_with fail
  go_ret
  have hb := HB.out
  exact ⟨rfl, by simpa using (((hb.drewN nq).set_ 4 (.int .i64 (b + n))).set_ 1 (.int .i64 (u + n))).set_ 2 (.int .i64 (u + n)), by ((repeat (first | exact Chg.refl _ _ | assumption | refine Chg.drewN ?_ _ | refine Chg.drew ?_ | refine Chg.alloc ?_ _ | refine Chg.setCell ?_ (by simp) _)))⟩
theorem bud_add_stay1 (g : Nat) (l u h a b c d n : Int) (w : World)
    (hb : Blk w g 77 #[.int .i64 l, .int .i64 u, .int .i64 h, .int .i64 a, .int .i64 b, .int .i64 c, .int .i64 d]) (hu : 0 ≤ u) (hl : u ≤ l) (hl1 : l ≤ 1099511627776) (hn : n ≤ l - u) (hx : 0 ≤ b) (hxu : b ≤ u) (hx0 : 0 ≤ b + n) (hun : 0 ≤ u + n) (hup : u + n ≤ h) :
    Calls Try.prog 39 #[.pointer (some ⟨g, 0, none⟩), .int .i64 1, .int .i64 n] w fun e w' => e = .returned (.int .i64 0) ∧ Blk w' g 77 #[.int .i64 l, .int .i64 (u + n), .int .i64 h, .int .i64 a, .int .i64 (b + n), .int .i64 c, .int .i64 d] ∧ Chg (fun k => k = g) w w' := by
  obtain ⟨c0, c1, c2, c3, c4, c5, c6⟩ := bud_cells hb
  have f1 := hb.frozen 1
  have f2 := hb.frozen 2
  have f4 := hb.frozen 4
  have HB := Lib.hid hb
  clear hb
  go_enter Try.func39, Try.ntmps39
  go_wp2
  go_quiet ((go_at_call 40; refine quiet_same (atomic_load _ _ u _ ?_); exact c1))
  go_wp2_with fail
  refine (atomic_add _ _ b n (by omega) (by omega) _ (by exact c4) (by exact f4)).mono ?_
  rintro e w' ⟨rfl, rfl⟩
  go_wp2_with fail
  refine (atomic_add _ _ u n (by omega) (by omega) _ (by go_simp) (by go_simp)).mono ?_
  rintro e w' ⟨rfl, rfl⟩
  go_wp2_with fail
  refine (atomic_load _ _ h _ (by go_simp)).mono ?_
  rintro e w' ⟨rfl, rfl⟩
  go_wp2_with fail
  apply wp_loop_once
  go_wp2_with fail
  go_ret
  have hb := HB.out
  exact ⟨rfl, by simpa using ((hb.drewN nq).set_ 4 (.int .i64 (b + n))).set_ 1 (.int .i64 (u + n)), by ((repeat (first | exact Chg.refl _ _ | assumption | refine Chg.drewN ?_ _ | refine Chg.drew ?_ | refine Chg.alloc ?_ _ | refine Chg.setCell ?_ (by simp) _)))⟩
theorem bud_add_up2 (g : Nat) (l u h a b c d n : Int) (w : World)
    (hb : Blk w g 77 #[.int .i64 l, .int .i64 u, .int .i64 h, .int .i64 a, .int .i64 b, .int .i64 c, .int .i64 d]) (hu : 0 ≤ u) (hl : u ≤ l) (hl1 : l ≤ 1099511627776) (hn : n ≤ l - u) (hx : 0 ≤ c) (hxu : c ≤ u) (hx0 : 0 ≤ c + n) (hun : 0 ≤ u + n) (hup : h < u + n) :
    Calls Try.prog 39 #[.pointer (some ⟨g, 0, none⟩), .int .i64 2, .int .i64 n] w fun e w' => e = .returned (.int .i64 0) ∧ Blk w' g 77 #[.int .i64 l, .int .i64 (u + n), .int .i64 (u + n), .int .i64 a, .int .i64 b, .int .i64 (c + n), .int .i64 d] ∧ Chg (fun k => k = g) w w' := by
  obtain ⟨c0, c1, c2, c3, c4, c5, c6⟩ := bud_cells hb
  have f1 := hb.frozen 1
  have f2 := hb.frozen 2
  have f5 := hb.frozen 5
  have HB := Lib.hid hb
  clear hb
  go_enter Try.func39, Try.ntmps39
  go_wp2
  go_quiet ((go_at_call 40; refine quiet_same (atomic_load _ _ u _ ?_); exact c1))
  go_wp2_with fail
  refine (atomic_add _ _ c n (by omega) (by omega) _ (by exact c5) (by exact f5)).mono ?_
  rintro e w' ⟨rfl, rfl⟩
  go_wp2_with fail
  refine (atomic_add _ _ u n (by omega) (by omega) _ (by go_simp) (by go_simp)).mono ?_
  rintro e w' ⟨rfl, rfl⟩
  go_wp2_with fail
  refine (atomic_load _ _ h _ (by go_simp)).mono ?_
  rintro e w' ⟨rfl, rfl⟩
  go_wp2_with fail
  apply wp_loop_once
  go_wp2_with fail
  refine (atomic_cas _ _ h (u + n) _ (by go_simp) (by go_simp)).mono ?_
  rintro e w' ⟨rfl, rfl⟩
  go_wp2_with fail
  go_ret
  have hb := HB.out
  exact ⟨rfl, by simpa using (((hb.drewN nq).set_ 5 (.int .i64 (c + n))).set_ 1 (.int .i64 (u + n))).set_ 2 (.int .i64 (u + n)), by ((repeat (first | exact Chg.refl _ _ | assumption | refine Chg.drewN ?_ _ | refine Chg.drew ?_ | refine Chg.alloc ?_ _ | refine Chg.setCell ?_ (by simp) _)))⟩
theorem bud_add_stay2 (g : Nat) (l u h a b c d n : Int) (w : World)
    (hb : Blk w g 77 #[.int .i64 l, .int .i64 u, .int .i64 h, .int .i64 a, .int .i64 b, .int .i64 c, .int .i64 d]) (hu : 0 ≤ u) (hl : u ≤ l) (hl1 : l ≤ 1099511627776) (hn : n ≤ l - u) (hx : 0 ≤ c) (hxu : c ≤ u) (hx0 : 0 ≤ c + n) (hun : 0 ≤ u + n) (hup : u + n ≤ h) :
    Calls Try.prog 39 #[.pointer (some ⟨g, 0, none⟩), .int .i64 2, .int .i64 n] w fun e w' => e = .returned (.int .i64 0) ∧ Blk w' g 77 #[.int .i64 l, .int .i64 (u + n), .int .i64 h, .int .i64 a, .int .i64 b, .int .i64 (c + n), .int .i64 d] ∧ Chg (fun k => k = g) w w' := by
  obtain ⟨c0, c1, c2, c3, c4, c5, c6⟩ := bud_cells hb
  have f1 := hb.frozen 1
  have f2 := hb.frozen 2
  have f5 := hb.frozen 5
  have HB := Lib.hid hb
  clear hb
  go_enter Try.func39, Try.ntmps39
  go_wp2
  go_quiet ((go_at_call 40; refine quiet_same (atomic_load _ _ u _ ?_); exact c1))
  go_wp2_with fail
  refine (atomic_add _ _ c n (by omega) (by omega) _ (by exact c5) (by exact f5)).mono ?_
  rintro e w' ⟨rfl, rfl⟩
  go_wp2_with fail
  refine (atomic_add _ _ u n (by omega) (by omega) _ (by go_simp) (by go_simp)).mono ?_
  rintro e w' ⟨rfl, rfl⟩
  go_wp2_with fail
  refine (atomic_load _ _ h _ (by go_simp)).mono ?_
  rintro e w' ⟨rfl, rfl⟩
  go_wp2_with fail
  apply wp_loop_once
  go_wp2_with fail
  go_ret
  have hb := HB.out
  exact ⟨rfl, by simpa using ((hb.drewN nq).set_ 5 (.int .i64 (c + n))).set_ 1 (.int .i64 (u + n)), by ((repeat (first | exact Chg.refl _ _ | assumption | refine Chg.drewN ?_ _ | refine Chg.drew ?_ | refine Chg.alloc ?_ _ | refine Chg.setCell ?_ (by simp) _)))⟩
theorem bud_add_up3 (g : Nat) (l u h a b c d n : Int) (w : World)
    (hb : Blk w g 77 #[.int .i64 l, .int .i64 u, .int .i64 h, .int .i64 a, .int .i64 b, .int .i64 c, .int .i64 d]) (hu : 0 ≤ u) (hl : u ≤ l) (hl1 : l ≤ 1099511627776) (hn : n ≤ l - u) (hx : 0 ≤ d) (hxu : d ≤ u) (hx0 : 0 ≤ d + n) (hun : 0 ≤ u + n) (hup : h < u + n) :
    Calls Try.prog 39 #[.pointer (some ⟨g, 0, none⟩), .int .i64 3, .int .i64 n] w fun e w' => e = .returned (.int .i64 0) ∧ Blk w' g 77 #[.int .i64 l, .int .i64 (u + n), .int .i64 (u + n), .int .i64 a, .int .i64 b, .int .i64 c, .int .i64 (d + n)] ∧ Chg (fun k => k = g) w w' := by
  obtain ⟨c0, c1, c2, c3, c4, c5, c6⟩ := bud_cells hb
  have f1 := hb.frozen 1
  have f2 := hb.frozen 2
  have f6 := hb.frozen 6
  have HB := Lib.hid hb
  clear hb
  go_enter Try.func39, Try.ntmps39
  go_wp2
  go_quiet ((go_at_call 40; refine quiet_same (atomic_load _ _ u _ ?_); exact c1))
  go_wp2_with fail
  refine (atomic_add _ _ d n (by omega) (by omega) _ (by exact c6) (by exact f6)).mono ?_
  rintro e w' ⟨rfl, rfl⟩
  go_wp2_with fail
  refine (atomic_add _ _ u n (by omega) (by omega) _ (by go_simp) (by go_simp)).mono ?_
  rintro e w' ⟨rfl, rfl⟩
  go_wp2_with fail
  refine (atomic_load _ _ h _ (by go_simp)).mono ?_
  rintro e w' ⟨rfl, rfl⟩
  go_wp2_with fail
  apply wp_loop_once
  go_wp2_with fail
  refine (atomic_cas _ _ h (u + n) _ (by go_simp) (by go_simp)).mono ?_
  rintro e w' ⟨rfl, rfl⟩
  go_wp2_with fail
  go_ret
  have hb := HB.out
  exact ⟨rfl, by simpa using (((hb.drewN nq).set_ 6 (.int .i64 (d + n))).set_ 1 (.int .i64 (u + n))).set_ 2 (.int .i64 (u + n)), by ((repeat (first | exact Chg.refl _ _ | assumption | refine Chg.drewN ?_ _ | refine Chg.drew ?_ | refine Chg.alloc ?_ _ | refine Chg.setCell ?_ (by simp) _)))⟩
theorem bud_add_stay3 (g : Nat) (l u h a b c d n : Int) (w : World)
    (hb : Blk w g 77 #[.int .i64 l, .int .i64 u, .int .i64 h, .int .i64 a, .int .i64 b, .int .i64 c, .int .i64 d]) (hu : 0 ≤ u) (hl : u ≤ l) (hl1 : l ≤ 1099511627776) (hn : n ≤ l - u) (hx : 0 ≤ d) (hxu : d ≤ u) (hx0 : 0 ≤ d + n) (hun : 0 ≤ u + n) (hup : u + n ≤ h) :
    Calls Try.prog 39 #[.pointer (some ⟨g, 0, none⟩), .int .i64 3, .int .i64 n] w fun e w' => e = .returned (.int .i64 0) ∧ Blk w' g 77 #[.int .i64 l, .int .i64 (u + n), .int .i64 h, .int .i64 a, .int .i64 b, .int .i64 c, .int .i64 (d + n)] ∧ Chg (fun k => k = g) w w' := by
  obtain ⟨c0, c1, c2, c3, c4, c5, c6⟩ := bud_cells hb
  have f1 := hb.frozen 1
  have f2 := hb.frozen 2
  have f6 := hb.frozen 6
  have HB := Lib.hid hb
  clear hb
  go_enter Try.func39, Try.ntmps39
  go_wp2
  go_quiet ((go_at_call 40; refine quiet_same (atomic_load _ _ u _ ?_); exact c1))
  go_wp2_with fail
  refine (atomic_add _ _ d n (by omega) (by omega) _ (by exact c6) (by exact f6)).mono ?_
  rintro e w' ⟨rfl, rfl⟩
  go_wp2_with fail
  refine (atomic_add _ _ u n (by omega) (by omega) _ (by go_simp) (by go_simp)).mono ?_
  rintro e w' ⟨rfl, rfl⟩
  go_wp2_with fail
  refine (atomic_load _ _ h _ (by go_simp)).mono ?_
  rintro e w' ⟨rfl, rfl⟩
  go_wp2_with fail
  apply wp_loop_once
  go_wp2_with fail
  go_ret
  have hb := HB.out
  exact ⟨rfl, by simpa using ((hb.drewN nq).set_ 6 (.int .i64 (d + n))).set_ 1 (.int .i64 (u + n)), by ((repeat (first | exact Chg.refl _ _ | assumption | refine Chg.drewN ?_ _ | refine Chg.drew ?_ | refine Chg.alloc ?_ _ | refine Chg.setCell ?_ (by simp) _)))⟩
end Go.Proofs.Ytafdgncjfiiekaa
