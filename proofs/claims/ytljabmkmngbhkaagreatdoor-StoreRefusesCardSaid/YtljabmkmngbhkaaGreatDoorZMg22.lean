/-
  Numbers of 64 bits. Plain; no condition.
  The budget as plain mathematics: what is held for four kinds, the limit, the greatest sum. No program in sight.
  The budget: contracts of the atomic operations and of every function of package budget.
-/
import Derived.Test.YtljabmkmngbhkaaGreatDoorZMg00
import Derived.Test.YtljabmkmngbhkaaGreatDoorProg
namespace Go.Proofs.YtljabmkmngbhkaaGreatDoor
open Go.RowKit
set_option linter.unusedVariables false
set_option linter.unusedSimpArgs false

def In64 (x : Int) : Prop := -9223372036854775808 ≤ x ∧ x ≤ 9223372036854775807
end Go.Proofs.YtljabmkmngbhkaaGreatDoor
namespace Go.Proofs.YtljabmkmngbhkaaGreatDoor

/-- l: the limit; u: all that is held; h: the greatest that u was; a, b, c, d: what each kind holds. -/
structure Bud where
  l : Int
  u : Int
  h : Int
  a : Int
  b : Int
  c : Int
  d : Int

structure Bud.Good (B : Bud) : Prop where
  l0 : 0 ≤ B.l
  l1 : B.l ≤ 1099511627776
  a0 : 0 ≤ B.a
  b0 : 0 ≤ B.b
  c0 : 0 ≤ B.c
  d0 : 0 ≤ B.d
  u0 : B.u = B.a + B.b + B.c + B.d
  uh : B.u ≤ B.h
  hl : B.h ≤ B.l

def Bud.start (l : Int) : Bud := ⟨max 0 (min l 1099511627776), 0, 0, 0, 0, 0, 0⟩
def Bud.of (B : Bud) (k : Int) : Int := if k = 0 then B.a else if k = 1 then B.b else if k = 2 then B.c else if k = 3 then B.d else 0
/-- kind k holds x. -/
def Bud.put (B : Bud) (k x : Int) : Bud :=
  let u := B.u - B.of k + x
  let h := if B.h < u then u else B.h
  if k = 0 then { B with u := u, h := h, a := x } else if k = 1 then { B with u := u, h := h, b := x } else if k = 2 then { B with u := u, h := h, c := x } else if k = 3 then { B with u := u, h := h, d := x } else B

/-- What Reserve, Release and Change answer, and leave. -/
def Bud.reserve (B : Bud) (k n : Int) : Int × Bud := if k < 0 ∨ 4 ≤ k ∨ n < 0 then (2, B) else if B.l - B.u < n then (14, B) else (0, B.put k (B.of k + n))
def Bud.release (B : Bud) (k n : Int) : Int × Bud := if k < 0 ∨ 4 ≤ k ∨ n < 0 then (2, B) else if B.of k < n then (2, B) else (0, B.put k (B.of k - n))
def Bud.change (B : Bud) (k n : Int) : Int × Bud := if k < 0 ∨ 4 ≤ k ∨ n < 0 then (2, B) else if B.l - B.u < n - B.of k then (14, B) else (0, B.put k n)

theorem Bud.start_good (l : Int) : (Bud.start l).Good := by constructor <;> simp [Bud.start] <;> omega
theorem kind_cases {k : Int} (h0 : 0 ≤ k) (h4 : k < 4) : k = 0 ∨ k = 1 ∨ k = 2 ∨ k = 3 := by omega
theorem Bud.of_bd {B : Bud} (h : B.Good) (k : Int) : 0 ≤ B.of k ∧ B.of k ≤ B.u := by
  obtain ⟨l0, l1, a0, b0, c0, d0, u0, uh, hl⟩ := h
  unfold Bud.of
  repeat' split
  all_goals omega
theorem Bud.put_good {B : Bud} (h : B.Good) {k x : Int} (hx : 0 ≤ x) (hl : B.u - B.of k + x ≤ B.l) : (B.put k x).Good := by
  obtain ⟨l0, l1, a0, b0, c0, d0, u0, uh, hh⟩ := h
  unfold Bud.put Bud.of at *
  by_cases k0 : k = 0
  · simp only [k0, if_true] at hl ⊢; constructor <;> simp <;> (try split) <;> omega
  by_cases k1 : k = 1
  · simp [k1] at hl ⊢; constructor <;> simp <;> (try split) <;> omega
  by_cases k2 : k = 2
  · simp [k2] at hl ⊢; constructor <;> simp <;> (try split) <;> omega
  by_cases k3 : k = 3
  · simp [k3] at hl ⊢; constructor <;> simp <;> (try split) <;> omega
  simp [k0, k1, k2, k3]; constructor <;> assumption
/-- One call of a script: a Release, a Change or a Reserve, by the remainder of d by 3. -/
def Bud.act (B : Bud) (d k n : Int) : Int × Bud :=
  if d.tmod 3 = 1 ∨ d.tmod 3 = -1 then B.release k n else if d.tmod 3 = 2 ∨ d.tmod 3 = -2 then B.change k n else B.reserve k n
end Go.Proofs.YtljabmkmngbhkaaGreatDoor
namespace Go.Proofs.YtljabmkmngbhkaaGreatDoor
open Go.RowKit
set_option linter.unusedVariables false
set_option linter.unusedSimpArgs false

theorem atomic_load (b o : Nat) (x : Int) (w : World) (hc : w.cell? ⟨b, o, none⟩ = some (.int .i64 x)) :
    Calls Tryz.prog 62 #[.pointer (some ⟨b, o, none⟩)] w fun e w' => e = .returned (.int .i64 x) ∧ w = w' := by
  have hl := run_call_load (P := Tryz.prog) Tryz.func136 (by kernel_rfl) (by kernel_rfl) (by kernel_rfl) .i64 (by kernel_rfl) hc
  go_enter Tryz.func62, Tryz.ntmps62
  go_wp2
  go_ret
  exact ⟨rfl, rfl⟩

theorem atomic_add (b o : Nat) (x y : Int) (hx : 0 ≤ x + y) (hy : x + y ≤ 9223372036854775807) (w : World) (hc : w.cell? ⟨b, o, none⟩ = some (.int .i64 x)) (hz : w.frozen? ⟨b, o, none⟩ = false) :
    Calls Tryz.prog 175 #[.pointer (some ⟨b, o, none⟩), .int .i64 y] w fun e w' => e = .returned (.int .i64 (x + y)) ∧ w.setCell ⟨b, o, none⟩ (.int .i64 (x + y)) = w' := by
  have hl := run_call_add (P := Tryz.prog) Tryz.func263 (by kernel_rfl) (by kernel_rfl) (by kernel_rfl) .i64 (by kernel_rfl) (x := x) (y := y) (s := x + y) hc hz (by simp [go_sem]; rw [IntWalk.i64_in _ (by omega)])
  go_enter Tryz.func175, Tryz.ntmps175
  go_wp2
  go_ret
  exact ⟨rfl, rfl⟩

theorem atomic_cas (b o : Nat) (x y : Int) (w : World) (hc : w.cell? ⟨b, o, none⟩ = some (.int .i64 x)) (hz : w.frozen? ⟨b, o, none⟩ = false) :
    Calls Tryz.prog 176 #[.pointer (some ⟨b, o, none⟩), .int .i64 x, .int .i64 y] w fun e w' => e = .returned (.bool true) ∧ w.setCell ⟨b, o, none⟩ (.int .i64 y) = w' := by
  have hl := run_call_cas_hit (P := Tryz.prog) Tryz.func264 (by kernel_rfl) (by kernel_rfl) (by kernel_rfl) .i64 (by kernel_rfl) (y := y) hc hz
  go_enter Tryz.func176, Tryz.ntmps176
  go_wp2
  go_ret
  exact ⟨rfl, rfl⟩

/-- The budget at block g. -/
structure BudAt (w : World) (g : Nat) (B : Bud) : Prop where
  blk : Blk w g 137 #[.int .i64 B.l, .int .i64 B.u, .int .i64 B.h, .int .i64 B.a, .int .i64 B.b, .int .i64 B.c, .int .i64 B.d]
  good : B.Good

theorem BudAt.chg {S : Nat → Prop} {w w' : World} {g : Nat} {B : Bud} (h : BudAt w g B) (hc : Chg S w w') (hg : ¬ S g) : BudAt w' g B := ⟨h.blk.chg hc hg, h.good⟩
theorem BudAt.drewN {w : World} {g : Nat} {B : Bud} (h : BudAt w g B) (n : Nat) : BudAt (w.drewN n) g B := ⟨h.blk, h.good⟩

/-- All cells of a budget, and that none is frozen. -/
theorem bud_cells {w : World} {g : Nat} {l u h a b c d : Int} (hb : Blk w g 137 #[.int .i64 l, .int .i64 u, .int .i64 h, .int .i64 a, .int .i64 b, .int .i64 c, .int .i64 d]) :
    w.cell? ⟨g, 0, none⟩ = some (.int .i64 l) ∧ w.cell? ⟨g, 1, none⟩ = some (.int .i64 u) ∧ w.cell? ⟨g, 2, none⟩ = some (.int .i64 h) ∧ w.cell? ⟨g, 3, none⟩ = some (.int .i64 a) ∧ w.cell? ⟨g, 4, none⟩ = some (.int .i64 b) ∧ w.cell? ⟨g, 5, none⟩ = some (.int .i64 c) ∧ w.cell? ⟨g, 6, none⟩ = some (.int .i64 d) :=
  ⟨hb.cell 0, hb.cell 1, hb.cell 2, hb.cell 3, hb.cell 4, hb.cell 5, hb.cell 6⟩

theorem bud_new (l : Int) (w : World) :
    Calls Tryz.prog 26 #[.int .i64 l] w fun e w' => e = .returned (.pointer (some ⟨w.heap.size, 0, none⟩)) ∧ BudAt w' w.heap.size (Bud.start l) ∧ w'.heap.size = w.heap.size + 1 ∧ Chg (fun _ => False) w w' := by
  have key : ∀ m : Int, m = max 0 (min l 1099511627776) → BudAt (w.alloc (.cells #[.int .i64 m, .int .i64 0, .int .i64 0, .int .i64 0, .int .i64 0, .int .i64 0, .int .i64 0] 137)) w.heap.size (Bud.start l) := by
    rintro m rfl
    exact ⟨Blk.new _ _ _, Bud.start_good l⟩
  go_enter Tryz.func26, Tryz.ntmps26
  go_wp2
  all_goals go_ret
  all_goals exact ⟨rfl, key _ (by omega), by simp, (Chg.refl _ _).alloc _⟩

/-- may: a budget that there is. -/
theorem bud_may (g : Nat) (k n : Int) (w : World) :
    Calls Tryz.prog 80 #[.pointer (some ⟨g, 0, none⟩), .int .i64 k, .int .i64 n] w fun e w' => e = .returned (.int .i64 (if k < 0 ∨ 4 ≤ k ∨ n < 0 then 2 else 0)) ∧ w = w' := by
  go_enter Tryz.func80, Tryz.ntmps80
  by_cases h1 : k < 0
  · go_wp2
    go_ret
    exact ⟨by simp [h1], rfl⟩
  by_cases h2 : 4 ≤ k
  · go_wp2
    go_ret
    exact ⟨by simp [h2], rfl⟩
  by_cases h3 : n < 0
  · go_wp2
    go_ret
    exact ⟨by simp [h3], rfl⟩
  go_wp2
  go_ret
  exact ⟨by simp [h1, h2, h3], rfl⟩

theorem bud_add_no (g : Nat) (l u h a b c d k n : Int) (w : World)
    (hb : Blk w g 137 #[.int .i64 l, .int .i64 u, .int .i64 h, .int .i64 a, .int .i64 b, .int .i64 c, .int .i64 d]) (hu : 0 ≤ u) (hl : u ≤ l) (hl1 : l ≤ 1099511627776) (hn : l - u < n) :
    Calls Tryz.prog 93 #[.pointer (some ⟨g, 0, none⟩), .int .i64 k, .int .i64 n] w fun e w' => e = .returned (.int .i64 14) ∧ Chg (fun _ => False) w w' := by
  obtain ⟨c0, c1, c2, c3, c4, c5, c6⟩ := bud_cells hb
  clear c2 c3 c4 c5 c6 hb
  go_enter Tryz.func93, Tryz.ntmps93
  go_wp2
  go_quiet ((go_at_call 62; refine quiet_same (atomic_load _ _ u _ ?_); exact c1))
  go_wp2
  go_ret
  exact ⟨rfl, (Chg.refl _ _).drewN _⟩

/-- add, kind by kind, where the greatest sum rises ('up') and where it stays ('stay'). -/
theorem bud_add_up0 (g : Nat) (l u h a b c d n : Int) (w : World)
    (hb : Blk w g 137 #[.int .i64 l, .int .i64 u, .int .i64 h, .int .i64 a, .int .i64 b, .int .i64 c, .int .i64 d]) (hu : 0 ≤ u) (hl : u ≤ l) (hl1 : l ≤ 1099511627776) (hn : n ≤ l - u) (hx : 0 ≤ a) (hxu : a ≤ u) (hx0 : 0 ≤ a + n) (hun : 0 ≤ u + n) (hup : h < u + n) :
    Calls Tryz.prog 93 #[.pointer (some ⟨g, 0, none⟩), .int .i64 0, .int .i64 n] w fun e w' => e = .returned (.int .i64 0) ∧ Blk w' g 137 #[.int .i64 l, .int .i64 (u + n), .int .i64 (u + n), .int .i64 (a + n), .int .i64 b, .int .i64 c, .int .i64 d] ∧ Chg (fun k => k = g) w w' := by
  obtain ⟨c0, c1, c2, c3, c4, c5, c6⟩ := bud_cells hb
  have f1 := hb.frozen 1
  have f2 := hb.frozen 2
  have f3 := hb.frozen 3
  have HB := Lib.hid hb
  clear hb
  go_enter Tryz.func93, Tryz.ntmps93
  go_wp2
  go_quiet ((go_at_call 62; refine quiet_same (atomic_load _ _ u _ ?_); exact c1))
  go_wp2_with fail
  refine (atomic_add _ _ a n (by omega) (by omega) _ (by exact c3) (by exact f3)).mono ?_
  rintro e w' ⟨rfl, rfl⟩
  go_wp2_with fail
  refine (atomic_add _ _ u n (by omega) (by omega) _ (by go_simp) (by go_simp)).mono ?_
  rintro e w' ⟨rfl, rfl⟩
  go_wp2_with fail
  refine (atomic_load _ _ h _ (by go_simp)).mono ?_
  rintro e w' ⟨rfl, rfl⟩
  go_wp2_with fail
  apply wp_loop_once
  go_wp2_with fail
  refine (atomic_cas _ _ h (u + n) _ (by go_simp) (by go_simp)).mono ?_
  rintro e w' ⟨rfl, rfl⟩
  go_wp2_with fail
  go_ret
  have hb := HB.out
  exact ⟨rfl, by simpa using (((hb.drewN nq).set_ 3 (.int .i64 (a + n))).set_ 1 (.int .i64 (u + n))).set_ 2 (.int .i64 (u + n)), cgS⟩
theorem bud_add_stay0 (g : Nat) (l u h a b c d n : Int) (w : World)
    (hb : Blk w g 137 #[.int .i64 l, .int .i64 u, .int .i64 h, .int .i64 a, .int .i64 b, .int .i64 c, .int .i64 d]) (hu : 0 ≤ u) (hl : u ≤ l) (hl1 : l ≤ 1099511627776) (hn : n ≤ l - u) (hx : 0 ≤ a) (hxu : a ≤ u) (hx0 : 0 ≤ a + n) (hun : 0 ≤ u + n) (hup : u + n ≤ h) :
    Calls Tryz.prog 93 #[.pointer (some ⟨g, 0, none⟩), .int .i64 0, .int .i64 n] w fun e w' => e = .returned (.int .i64 0) ∧ Blk w' g 137 #[.int .i64 l, .int .i64 (u + n), .int .i64 h, .int .i64 (a + n), .int .i64 b, .int .i64 c, .int .i64 d] ∧ Chg (fun k => k = g) w w' := by
  obtain ⟨c0, c1, c2, c3, c4, c5, c6⟩ := bud_cells hb
  have f1 := hb.frozen 1
  have f2 := hb.frozen 2
  have f3 := hb.frozen 3
  have HB := Lib.hid hb
  clear hb
  go_enter Tryz.func93, Tryz.ntmps93
  go_wp2
  go_quiet ((go_at_call 62; refine quiet_same (atomic_load _ _ u _ ?_); exact c1))
  go_wp2_with fail
  refine (atomic_add _ _ a n (by omega) (by omega) _ (by exact c3) (by exact f3)).mono ?_
  rintro e w' ⟨rfl, rfl⟩
  go_wp2_with fail
  refine (atomic_add _ _ u n (by omega) (by omega) _ (by go_simp) (by go_simp)).mono ?_
  rintro e w' ⟨rfl, rfl⟩
  go_wp2_with fail
  refine (atomic_load _ _ h _ (by go_simp)).mono ?_
  rintro e w' ⟨rfl, rfl⟩
  go_wp2_with fail
  apply wp_loop_once
  go_wp2_with fail
  go_ret
  have hb := HB.out
  exact ⟨rfl, by simpa using ((hb.drewN nq).set_ 3 (.int .i64 (a + n))).set_ 1 (.int .i64 (u + n)), cgS⟩
theorem bud_add_up1 (g : Nat) (l u h a b c d n : Int) (w : World)
    (hb : Blk w g 137 #[.int .i64 l, .int .i64 u, .int .i64 h, .int .i64 a, .int .i64 b, .int .i64 c, .int .i64 d]) (hu : 0 ≤ u) (hl : u ≤ l) (hl1 : l ≤ 1099511627776) (hn : n ≤ l - u) (hx : 0 ≤ b) (hxu : b ≤ u) (hx0 : 0 ≤ b + n) (hun : 0 ≤ u + n) (hup : h < u + n) :
    Calls Tryz.prog 93 #[.pointer (some ⟨g, 0, none⟩), .int .i64 1, .int .i64 n] w fun e w' => e = .returned (.int .i64 0) ∧ Blk w' g 137 #[.int .i64 l, .int .i64 (u + n), .int .i64 (u + n), .int .i64 a, .int .i64 (b + n), .int .i64 c, .int .i64 d] ∧ Chg (fun k => k = g) w w' := by
  obtain ⟨c0, c1, c2, c3, c4, c5, c6⟩ := bud_cells hb
  have f1 := hb.frozen 1
  have f2 := hb.frozen 2
  have f4 := hb.frozen 4
  have HB := Lib.hid hb
  clear hb
  go_enter Tryz.func93, Tryz.ntmps93
  go_wp2
  go_quiet ((go_at_call 62; refine quiet_same (atomic_load _ _ u _ ?_); exact c1))
  go_wp2_with fail
  refine (atomic_add _ _ b n (by omega) (by omega) _ (by exact c4) (by exact f4)).mono ?_
  rintro e w' ⟨rfl, rfl⟩
  go_wp2_with fail
  refine (atomic_add _ _ u n (by omega) (by omega) _ (by go_simp) (by go_simp)).mono ?_
  rintro e w' ⟨rfl, rfl⟩
  go_wp2_with fail
  refine (atomic_load _ _ h _ (by go_simp)).mono ?_
  rintro e w' ⟨rfl, rfl⟩
  go_wp2_with fail
  apply wp_loop_once
  go_wp2_with fail
  refine (atomic_cas _ _ h (u + n) _ (by go_simp) (by go_simp)).mono ?_
  rintro e w' ⟨rfl, rfl⟩
  go_wp2_with fail
  go_ret
  have hb := HB.out
  exact ⟨rfl, by simpa using (((hb.drewN nq).set_ 4 (.int .i64 (b + n))).set_ 1 (.int .i64 (u + n))).set_ 2 (.int .i64 (u + n)), cgS⟩
theorem bud_add_stay1 (g : Nat) (l u h a b c d n : Int) (w : World)
    (hb : Blk w g 137 #[.int .i64 l, .int .i64 u, .int .i64 h, .int .i64 a, .int .i64 b, .int .i64 c, .int .i64 d]) (hu : 0 ≤ u) (hl : u ≤ l) (hl1 : l ≤ 1099511627776) (hn : n ≤ l - u) (hx : 0 ≤ b) (hxu : b ≤ u) (hx0 : 0 ≤ b + n) (hun : 0 ≤ u + n) (hup : u + n ≤ h) :
    Calls Tryz.prog 93 #[.pointer (some ⟨g, 0, none⟩), .int .i64 1, .int .i64 n] w fun e w' => e = .returned (.int .i64 0) ∧ Blk w' g 137 #[.int .i64 l, .int .i64 (u + n), .int .i64 h, .int .i64 a, .int .i64 (b + n), .int .i64 c, .int .i64 d] ∧ Chg (fun k => k = g) w w' := by
  obtain ⟨c0, c1, c2, c3, c4, c5, c6⟩ := bud_cells hb
  have f1 := hb.frozen 1
  have f2 := hb.frozen 2
  have f4 := hb.frozen 4
  have HB := Lib.hid hb
  clear hb
  go_enter Tryz.func93, Tryz.ntmps93
  go_wp2
  go_quiet ((go_at_call 62; refine quiet_same (atomic_load _ _ u _ ?_); exact c1))
  go_wp2_with fail
  refine (atomic_add _ _ b n (by omega) (by omega) _ (by exact c4) (by exact f4)).mono ?_
  rintro e w' ⟨rfl, rfl⟩
  go_wp2_with fail
  refine (atomic_add _ _ u n (by omega) (by omega) _ (by go_simp) (by go_simp)).mono ?_
  rintro e w' ⟨rfl, rfl⟩
  go_wp2_with fail
  refine (atomic_load _ _ h _ (by go_simp)).mono ?_
  rintro e w' ⟨rfl, rfl⟩
  go_wp2_with fail
  apply wp_loop_once
  go_wp2_with fail
  go_ret
  have hb := HB.out
  exact ⟨rfl, by simpa using ((hb.drewN nq).set_ 4 (.int .i64 (b + n))).set_ 1 (.int .i64 (u + n)), cgS⟩
theorem bud_add_up2 (g : Nat) (l u h a b c d n : Int) (w : World)
    (hb : Blk w g 137 #[.int .i64 l, .int .i64 u, .int .i64 h, .int .i64 a, .int .i64 b, .int .i64 c, .int .i64 d]) (hu : 0 ≤ u) (hl : u ≤ l) (hl1 : l ≤ 1099511627776) (hn : n ≤ l - u) (hx : 0 ≤ c) (hxu : c ≤ u) (hx0 : 0 ≤ c + n) (hun : 0 ≤ u + n) (hup : h < u + n) :
    Calls Tryz.prog 93 #[.pointer (some ⟨g, 0, none⟩), .int .i64 2, .int .i64 n] w fun e w' => e = .returned (.int .i64 0) ∧ Blk w' g 137 #[.int .i64 l, .int .i64 (u + n), .int .i64 (u + n), .int .i64 a, .int .i64 b, .int .i64 (c + n), .int .i64 d] ∧ Chg (fun k => k = g) w w' := by
  obtain ⟨c0, c1, c2, c3, c4, c5, c6⟩ := bud_cells hb
  have f1 := hb.frozen 1
  have f2 := hb.frozen 2
  have f5 := hb.frozen 5
  have HB := Lib.hid hb
  clear hb
  go_enter Tryz.func93, Tryz.ntmps93
  go_wp2
  go_quiet ((go_at_call 62; refine quiet_same (atomic_load _ _ u _ ?_); exact c1))
  go_wp2_with fail
  refine (atomic_add _ _ c n (by omega) (by omega) _ (by exact c5) (by exact f5)).mono ?_
  rintro e w' ⟨rfl, rfl⟩
  go_wp2_with fail
  refine (atomic_add _ _ u n (by omega) (by omega) _ (by go_simp) (by go_simp)).mono ?_
  rintro e w' ⟨rfl, rfl⟩
  go_wp2_with fail
  refine (atomic_load _ _ h _ (by go_simp)).mono ?_
  rintro e w' ⟨rfl, rfl⟩
  go_wp2_with fail
  apply wp_loop_once
  go_wp2_with fail
  refine (atomic_cas _ _ h (u + n) _ (by go_simp) (by go_simp)).mono ?_
  rintro e w' ⟨rfl, rfl⟩
  go_wp2_with fail
  go_ret
  have hb := HB.out
  exact ⟨rfl, by simpa using (((hb.drewN nq).set_ 5 (.int .i64 (c + n))).set_ 1 (.int .i64 (u + n))).set_ 2 (.int .i64 (u + n)), cgS⟩
theorem bud_add_stay2 (g : Nat) (l u h a b c d n : Int) (w : World)
    (hb : Blk w g 137 #[.int .i64 l, .int .i64 u, .int .i64 h, .int .i64 a, .int .i64 b, .int .i64 c, .int .i64 d]) (hu : 0 ≤ u) (hl : u ≤ l) (hl1 : l ≤ 1099511627776) (hn : n ≤ l - u) (hx : 0 ≤ c) (hxu : c ≤ u) (hx0 : 0 ≤ c + n) (hun : 0 ≤ u + n) (hup : u + n ≤ h) :
    Calls Tryz.prog 93 #[.pointer (some ⟨g, 0, none⟩), .int .i64 2, .int .i64 n] w fun e w' => e = .returned (.int .i64 0) ∧ Blk w' g 137 #[.int .i64 l, .int .i64 (u + n), .int .i64 h, .int .i64 a, .int .i64 b, .int .i64 (c + n), .int .i64 d] ∧ Chg (fun k => k = g) w w' := by
  obtain ⟨c0, c1, c2, c3, c4, c5, c6⟩ := bud_cells hb
  have f1 := hb.frozen 1
  have f2 := hb.frozen 2
  have f5 := hb.frozen 5
  have HB := Lib.hid hb
  clear hb
  go_enter Tryz.func93, Tryz.ntmps93
  go_wp2
  go_quiet ((go_at_call 62; refine quiet_same (atomic_load _ _ u _ ?_); exact c1))
  go_wp2_with fail
  refine (atomic_add _ _ c n (by omega) (by omega) _ (by exact c5) (by exact f5)).mono ?_
  rintro e w' ⟨rfl, rfl⟩
  go_wp2_with fail
  refine (atomic_add _ _ u n (by omega) (by omega) _ (by go_simp) (by go_simp)).mono ?_
  rintro e w' ⟨rfl, rfl⟩
  go_wp2_with fail
  refine (atomic_load _ _ h _ (by go_simp)).mono ?_
  rintro e w' ⟨rfl, rfl⟩
  go_wp2_with fail
  apply wp_loop_once
  go_wp2_with fail
  go_ret
  have hb := HB.out
  exact ⟨rfl, by simpa using ((hb.drewN nq).set_ 5 (.int .i64 (c + n))).set_ 1 (.int .i64 (u + n)), cgS⟩
theorem bud_add_up3 (g : Nat) (l u h a b c d n : Int) (w : World)
    (hb : Blk w g 137 #[.int .i64 l, .int .i64 u, .int .i64 h, .int .i64 a, .int .i64 b, .int .i64 c, .int .i64 d]) (hu : 0 ≤ u) (hl : u ≤ l) (hl1 : l ≤ 1099511627776) (hn : n ≤ l - u) (hx : 0 ≤ d) (hxu : d ≤ u) (hx0 : 0 ≤ d + n) (hun : 0 ≤ u + n) (hup : h < u + n) :
    Calls Tryz.prog 93 #[.pointer (some ⟨g, 0, none⟩), .int .i64 3, .int .i64 n] w fun e w' => e = .returned (.int .i64 0) ∧ Blk w' g 137 #[.int .i64 l, .int .i64 (u + n), .int .i64 (u + n), .int .i64 a, .int .i64 b, .int .i64 c, .int .i64 (d + n)] ∧ Chg (fun k => k = g) w w' := by
  obtain ⟨c0, c1, c2, c3, c4, c5, c6⟩ := bud_cells hb
  have f1 := hb.frozen 1
  have f2 := hb.frozen 2
  have f6 := hb.frozen 6
  have HB := Lib.hid hb
  clear hb
  go_enter Tryz.func93, Tryz.ntmps93
  go_wp2
  go_quiet ((go_at_call 62; refine quiet_same (atomic_load _ _ u _ ?_); exact c1))
  go_wp2_with fail
  refine (atomic_add _ _ d n (by omega) (by omega) _ (by exact c6) (by exact f6)).mono ?_
  rintro e w' ⟨rfl, rfl⟩
  go_wp2_with fail
  refine (atomic_add _ _ u n (by omega) (by omega) _ (by go_simp) (by go_simp)).mono ?_
  rintro e w' ⟨rfl, rfl⟩
  go_wp2_with fail
  refine (atomic_load _ _ h _ (by go_simp)).mono ?_
  rintro e w' ⟨rfl, rfl⟩
  go_wp2_with fail
  apply wp_loop_once
  go_wp2_with fail
  refine (atomic_cas _ _ h (u + n) _ (by go_simp) (by go_simp)).mono ?_
  rintro e w' ⟨rfl, rfl⟩
  go_wp2_with fail
  go_ret
  have hb := HB.out
  exact ⟨rfl, by simpa using (((hb.drewN nq).set_ 6 (.int .i64 (d + n))).set_ 1 (.int .i64 (u + n))).set_ 2 (.int .i64 (u + n)), cgS⟩
theorem bud_add_stay3 (g : Nat) (l u h a b c d n : Int) (w : World)
    (hb : Blk w g 137 #[.int .i64 l, .int .i64 u, .int .i64 h, .int .i64 a, .int .i64 b, .int .i64 c, .int .i64 d]) (hu : 0 ≤ u) (hl : u ≤ l) (hl1 : l ≤ 1099511627776) (hn : n ≤ l - u) (hx : 0 ≤ d) (hxu : d ≤ u) (hx0 : 0 ≤ d + n) (hun : 0 ≤ u + n) (hup : u + n ≤ h) :
    Calls Tryz.prog 93 #[.pointer (some ⟨g, 0, none⟩), .int .i64 3, .int .i64 n] w fun e w' => e = .returned (.int .i64 0) ∧ Blk w' g 137 #[.int .i64 l, .int .i64 (u + n), .int .i64 h, .int .i64 a, .int .i64 b, .int .i64 c, .int .i64 (d + n)] ∧ Chg (fun k => k = g) w w' := by
  obtain ⟨c0, c1, c2, c3, c4, c5, c6⟩ := bud_cells hb
  have f1 := hb.frozen 1
  have f2 := hb.frozen 2
  have f6 := hb.frozen 6
  have HB := Lib.hid hb
  clear hb
  go_enter Tryz.func93, Tryz.ntmps93
  go_wp2
  go_quiet ((go_at_call 62; refine quiet_same (atomic_load _ _ u _ ?_); exact c1))
  go_wp2_with fail
  refine (atomic_add _ _ d n (by omega) (by omega) _ (by exact c6) (by exact f6)).mono ?_
  rintro e w' ⟨rfl, rfl⟩
  go_wp2_with fail
  refine (atomic_add _ _ u n (by omega) (by omega) _ (by go_simp) (by go_simp)).mono ?_
  rintro e w' ⟨rfl, rfl⟩
  go_wp2_with fail
  refine (atomic_load _ _ h _ (by go_simp)).mono ?_
  rintro e w' ⟨rfl, rfl⟩
  go_wp2_with fail
  apply wp_loop_once
  go_wp2_with fail
  go_ret
  have hb := HB.out
  exact ⟨rfl, by simpa using ((hb.drewN nq).set_ 6 (.int .i64 (d + n))).set_ 1 (.int .i64 (u + n)), cgS⟩
end Go.Proofs.YtljabmkmngbhkaaGreatDoor
