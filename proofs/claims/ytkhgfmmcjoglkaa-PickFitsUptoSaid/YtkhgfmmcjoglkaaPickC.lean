/-
  The first table behind the cursor: the closure, and slices.IndexFunc with it.
-/
import Derived.Test.YtkhgfmmcjoglkaaPickB
namespace Go.Proofs.Ytkhgfmmcjoglkaa
open Go.RowKit
set_option linter.unusedVariables false
set_option linter.unusedSimpArgs false

set_option maxRecDepth 100000 in
set_option maxHeartbeats 1000000 in
theorem pick_behind (m : MetaV) (c p : Nat) (k : Nat) (hk : k < 4) (s : ByteArray) (w : World) (hs : w.cell? ⟨c, k, none⟩ = some (.string s)) (hp : w.cell? ⟨p, 0, none⟩ = some (.int .i64 (k : Int))) :
    Calls Try.prog 13 #[.agg #[.int .i64 m.file, .int .i64 m.size, .string m.lo, .string m.hi], .pointer (some ⟨c, 0, none⟩), .pointer (some ⟨p, 0, none⟩)] w fun e w' => (∃ b : Bool, e = .returned (.bool b)) ∧ Chg (fun _ => False) w w' := by
  obtain ⟨w1, hw1⟩ : ∃ w1, w1 = w.alloc (.cells #[.int .i64 m.file, .int .i64 m.size, .string m.lo, .string m.hi] 44) := ⟨_, rfl⟩
  have hc1 : Chg (fun _ => False) w w1 := by rw [hw1]; ((repeat (first | exact Chg.refl _ _ | assumption | refine Chg.drewN ?_ _ | refine Chg.drew ?_ | refine Chg.alloc ?_ _ | refine Chg.setCell ?_ (by first | (simp; done) | (simp; omega) | (intro h; simp at h; omega)) _)))
  have hb : Blk w1 w.heap.size 44 #[.int .i64 m.file, .int .i64 m.size, .string m.lo, .string m.hi] := by rw [hw1]; exact Blk.new w _ _
  have hs := (hc1.cell (World.block_lt_of_cell? w ⟨c, k, none⟩ hs) (by simp)).trans hs
  have hp := (hc1.cell (World.block_lt_of_cell? w ⟨p, 0, none⟩ hp) (by simp)).trans hp
  have i2 := hb.cell 2
  simp at i2
  have hk0 : (0 : Int) ≤ (k : Int) := by omega
  have hk4 : (k : Int) < 4 := by omega
  have HW1 := Lib.hid hw1
  have HC1 := Lib.hid hc1
  clear hw1 hc1 hb
  go_enter Try.func13, Try.ntmps13
  go_upto_region 1 with fail
  rw [← HW1.out]
  go_quiet (fail)
  go_wp2_with fail
  all_goals go_ret
  all_goals exact ⟨⟨_, rfl⟩, by have := HC1.out; ((repeat (first | exact Chg.refl _ _ | assumption | refine Chg.drewN ?_ _ | refine Chg.drew ?_ | refine Chg.alloc ?_ _ | refine Chg.setCell ?_ (by first | (simp; done) | (simp; omega) | (intro h; simp at h; omega)) _)))⟩
set_option maxRecDepth 100000 in
set_option maxHeartbeats 2000000 in
theorem pick_index (l : List MetaV) (v : Value) (c p : Nat) (k : Nat) (hk : k < 4) (s : ByteArray) (w : World) (h : RM w v l) (hl : l.length ≤ 900000000) (hs : w.cell? ⟨c, k, none⟩ = some (.string s)) (hp : w.cell? ⟨p, 0, none⟩ = some (.int .i64 (k : Int))) :
    Calls Try.prog 12 #[v, .func (.func 13) #[] #[.pointer (some ⟨c, 0, none⟩), .pointer (some ⟨p, 0, none⟩)]] w fun e w' => (∃ i : Int, -1 ≤ i ∧ i < l.length ∧ e = .returned (.int .i64 i)) ∧ Chg (fun _ => False) w w' := by
  obtain ⟨a, cap, rfl, h1, h2, h3⟩ := h
  have HR := Lib.hid h3
  clear h3
  go_enter Try.func12, Try.ntmps12
  go_wp2_with fail
  go_loopw [8] (fun i wr => ∃ A R, l = A ++ R ∧ i = .int .i64 A.length ∧ Chg (fun _ => False) w wr) (fun i _ => l.length - (intOf i).toNat)
  case atStart => exact ⟨[], l, rfl, rfl, Chg.refl _ _⟩
  case round =>
    obtain ⟨A, R, hL, rfl, hc⟩ := hrel
    have hAl : A.length ≤ l.length := by rw [hL]; simp
    cases R with
    | nil =>
      have hge : ¬ ((A.length : Int) < (l.length : Int)) := by rw [hL]; simp
      have HC := Lib.hid hc
      clear hL hc
      go_wp2_with fail
      go_ret
      exact ⟨⟨-1, by omega, by omega, rfl⟩, HC.out⟩
    | cons y B =>
      obtain ⟨b, off, rfl, hb', z0, z1, z2, z3⟩ := HR.out A y B hL
      have z0 := (hc.cell (p := ⟨b, _, none⟩) hb' (by simp)).trans z0
      have z1 := (hc.cell (p := ⟨b, _, none⟩) hb' (by simp)).trans z1
      have z2 := (hc.cell (p := ⟨b, _, none⟩) hb' (by simp)).trans z2
      have z3 := (hc.cell (p := ⟨b, _, none⟩) hb' (by simp)).trans z3
      have hlt : (A.length : Int) < (l.length : Int) := by rw [hL]; simp; omega
      have hge : (0 : Int) ≤ (A.length : Int) := by omega
      have hL2 : l = (A ++ [y]) ++ B := by rw [hL]; simp
      have hcl := pick_behind y c p k hk s wr ((hc.cell (World.block_lt_of_cell? w ⟨c, k, none⟩ hs) (by simp)).trans hs) ((hc.cell (World.block_lt_of_cell? w ⟨p, 0, none⟩ hp) (by simp)).trans hp)
      have HCL := Lib.hid hcl
      have HL2 := Lib.hid hL2
      have HC := Lib.hid hc
      clear hL hL2 hc hcl
      go_wp2_with fail
      refine HCL.out.mono ?_
      rintro e w5 ⟨⟨bo, rfl⟩, hc5⟩
      have HC5 := Lib.hid (HC.out.then hc5)
      clear hc5
      cases bo with
      | true =>
        go_wp2_with fail
        go_ret
        exact ⟨⟨(A.length : Int), by omega, by omega, rfl⟩, HC5.out⟩
      | false =>
        go_wp2_with fail
        go_roundw
        case rel => exact ⟨A ++ [y], B, HL2.out, by simp, HC5.out⟩
        case measure => simp [intOf]; omega
end Go.Proofs.Ytkhgfmmcjoglkaa
