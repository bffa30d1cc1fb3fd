/-
  The walk of BudgetHolds.
-/
import Derived.Test.YtafdgncjfiiekaaBudS
import Derived.Test.YtafdgncjfiiekaaRec
namespace Go.Proofs.Ytafdgncjfiiekaa
open Go.RowKit
set_option linter.unusedVariables false
set_option linter.unusedSimpArgs false

theorem range_store {w : World} {d k n : Int} {t : TypeId} : (w.alloc (.cells #[.int .i64 d, .int .i64 k, .int .i64 n] t)).cell? ⟨w.heap.size, 0, none⟩ = some (.int .i64 d) ∧ (w.alloc (.cells #[.int .i64 d, .int .i64 k, .int .i64 n] t)).cell? ⟨w.heap.size, 1, none⟩ = some (.int .i64 k) ∧ (w.alloc (.cells #[.int .i64 d, .int .i64 k, .int .i64 n] t)).cell? ⟨w.heap.size, 2, none⟩ = some (.int .i64 n) :=
  ⟨(Blk.new w t _).cell 0, (Blk.new w t _).cell 1, (Blk.new w t _).cell 2⟩

set_option maxRecDepth 100000 in
set_option maxHeartbeats 4000000 in
theorem budget_holds (l : Int) (A : Option Addr) (n c : Nat) (D K N : Nat → Int) (hN : ∀ i, N i ≤ 9223372036854775807) (w : World) (hn : n ≤ 9223372036854775807)
    (hs : Rec w w.heap.size 3 A n (fun i j => match j with | 0 => .int .i64 (D i) | 1 => .int .i64 (K i) | _ => .int .i64 (N i))) :
    Calls Try.prog 6 #[.int .i64 l, .slice A n c] w fun e w' => e = .returned (.bool true) ∧ Chg (fun _ => False) w w' := by
  have HS := Lib.hid hs
  have HN := Lib.hid hN
  clear hs hN
  go_enter Try.func6, Try.ntmps6
  go_wp2_with fail
  refine (bud_new l w).mono ?_
  rintro e w1 ⟨rfl, hb, hs1, hc1⟩
  clear hs1
  go_wp2_with fail
  refine (bud_wakes w1).mono ?_
  rintro e w2 ⟨rfl, hc2⟩
  have hb2 := hb.chg hc2 (by simp)
  have hc02 := hc1.then hc2
  clear hb hc1 hc2
  go_wp2_with fail
  all_goals
    go_loopw [7, 23] (fun last i wr => ∃ k : Nat, k ≤ n ∧ i = .int .i64 k ∧ ∃ B, BudAt wr w.heap.size B ∧ B.l = (Bud.start l).l ∧ (∃ m : Int, last = .int .i64 m ∧ m ≤ B.h) ∧ Chg (fun _ => False) w wr) (fun _ i _ => n - (intOf i).toNat)
    case atStart => exact ⟨0, by omega, rfl, _, hb2, rfl, ⟨0, rfl, Int.le_refl _⟩, hc02⟩
    case round =>
      obtain ⟨k, hk, rfl, B, hb, hBl, ⟨m, rfl, hm⟩, hc⟩ := hrel
      clear hb2 hc02
      by_cases hlt : k < n
      · obtain ⟨b, off, rfl, hbB, hcell⟩ := HS.out (by omega)
        have x0 := (hc.cell (p := ⟨b, _, none⟩) hbB (by simp)).trans (hcell k hlt 0 (by omega))
        have x1 := (hc.cell (p := ⟨b, _, none⟩) hbB (by simp)).trans (hcell k hlt 1 (by omega))
        have x2 := (hc.cell (p := ⟨b, _, none⟩) hbB (by simp)).trans (hcell k hlt 2 (by omega))
        simp only [Nat.add_zero] at x0 x1 x2
        have hk0 : (0 : Int) ≤ (k : Int) := by omega
        have hk1 : (k : Int) < (n : Int) := by omega
        have HBL := Lib.hid hBl
        clear hcell HS hBl
        have hNk := HN.out k
        have tail : True := trivial
        rcases tmod3_cases (D k) with hd | hd | hd | hd | hd
        all_goals
          go_wp2_with fail
          have hal : BudAt (wr.alloc (.cells #[.int .i64 (D k), .int .i64 (K k), .int .i64 (N k)] 34)) w.heap.size B := hb.chg (S := fun _ => False) (by ((repeat (first | exact Chg.refl _ _ | assumption | refine Chg.drewN ?_ _ | refine Chg.drew ?_ | refine Chg.alloc ?_ _ | refine Chg.setCell ?_ (by simp) _)))) (by simp)
          have hcl : Chg (fun _ => False) w (wr.alloc (.cells #[.int .i64 (D k), .int .i64 (K k), .int .i64 (N k)] 34)) := hc.alloc _
          obtain ⟨B5, hB5⟩ : ∃ X, (if (D k).tmod 3 = 1 then (B.release (K k) (N k)).2 else if (D k).tmod 3 = 0 then (B.reserve (K k) (N k)).2 else (B.change (K k) (N k)).2) = X := ⟨_, rfl⟩
          rw [hd] at hB5
          simp at hB5
          have hl5 : B5.l = B.l ∧ B.h ≤ B5.h := by
            rw [← hB5]
            first
              | exact B.release_l (K k) (N k)
              | exact B.reserve_l (K k) (N k)
              | exact B.change_l (K k) (N k)
          first
            | ((with_reducible refine (bud_release _ B (K k) (N k) _ hal).mono ?_); rw [hB5]; rintro e w5 ⟨rfl, hb5, hc5⟩)
            | ((with_reducible refine (bud_reserve _ B (K k) (N k) _ hal).mono ?_); rw [hB5]; rintro e w5 ⟨rfl, hb5, hc5⟩)
            | ((with_reducible refine (bud_change _ B (K k) (N k) _ hal hNk).mono ?_); rw [hB5]; rintro e w5 ⟨rfl, hb5, hc5⟩)
          have hc6 : Chg (fun _ => False) w w5 := hcl.own hc5 (Nat.le_refl _)
          have hmh : m ≤ B5.h := by omega
          have hBl5 : B5.l = (Bud.start l).l := by rw [hl5.1]; exact HBL.out
          have HBL5 := Lib.hid hBl5
          have hst : (Bud.start l).l = max 0 (min l 1099511627776) := rfl
          rw [hst] at hBl5
          obtain ⟨l0, l1, a0, b0, c0, d0, u0, uh, hhl⟩ := hb5.good
          have hu0 : 0 ≤ B5.u := by omega
          first
            | (have hv : B5.l = 1099511627776 := by omega)
            | (have hv : B5.l = 0 := by omega)
            | (have hv : B5.l = l := by omega)
          have h4 : B5.upto 4 = B5.u := rfl
          have HG := Lib.hid hb5.good
          clear hb hal hcl hc hc5 hl5 hB5 hst hBl5 x0 x1 x2 HBL u0 a0 b0 c0 d0 hm
          go_wp2_with fail
          refine (bud_used _ B5 _ hb5).mono ?_
          rintro e w' ⟨rfl, rfl⟩
          go_wp2_with fail
          refine (bud_high _ B5 _ hb5).mono ?_
          rintro e w' ⟨rfl, rfl⟩
          go_wp2_with fail
          go_loop [12, 13] (fun all kk => ∃ j : Nat, j ≤ 4 ∧ kk = .int .i64 j ∧ all = .int .i64 (B5.upto j)) (fun _ kk => 4 - (intOf kk).toNat)
          case atStart => exact ⟨0, by omega, rfl, rfl⟩
          case round =>
            obtain ⟨j, hj, rfl, rfl⟩ := hrel
            by_cases hjl : j < 4
            · have hj0 : (0 : Int) ≤ (j : Int) := by omega
              have hj1 : (j : Int) < 4 := by omega
              have hof := Bud.of_bd HG.out j
              have hup := Bud.upto_bd HG.out j
              have hsu := Lib.hid (Bud.upto_succ HG.out hjl)
              go_wp2_with fail
              refine (bud_of _ B5 j _ hb5).mono ?_
              rintro e w' ⟨rfl, rfl⟩
              go_wp2_with fail
              refine (bud_of _ B5 j _ hb5).mono ?_
              rintro e w' ⟨rfl, rfl⟩
              go_wp2_with fail
              go_round
              case rel => exact ⟨j + 1, by omega, by go_num, by rw [hsu.out]⟩
              case measure => simp [intOf]; omega
            · obtain rfl : j = 4 := by omega
              go_wp2_with fail
              refine (bud_left _ B5 _ hb5).mono ?_
              rintro e w6 ⟨rfl, n6, hw6⟩
              have hb6 : BudAt w6 w.heap.size B5 := by rw [← hw6]; exact hb5.drewN _
              have hc7 : Chg (fun _ => False) w w6 := by rw [← hw6]; exact hc6.drewN _
              clear hw6 hb5 hc6
              go_wp2_with fail
              go_roundw
              case rel => exact ⟨k + 1, by omega, by go_num, B5, hb6, HBL5.out, ⟨B5.h, rfl, Int.le_refl _⟩, hc7⟩
              case measure => simp [intOf]; omega
      · go_wp2_with fail
        go_ret
        exact ⟨rfl, hc⟩
end Go.Proofs.Ytafdgncjfiiekaa
