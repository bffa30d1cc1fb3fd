/-
  The walk of BudgetKinds.
-/
import Derived.Test.YtafdgncjfiiekaaBudL
import Derived.Test.YtafdgncjfiiekaaRec
namespace Go.Proofs.Ytafdgncjfiiekaa
open Go.RowKit
set_option linter.unusedVariables false
set_option linter.unusedSimpArgs false

/-- What kind j asks for, of four numbers. -/
def askOf (N : Nat → Int) (j : Nat) : Int := (if N j < 0 then 0 else N j) % 274877906944
theorem askOf_bd (N : Nat → Int) (j : Nat) : 0 ≤ askOf N j ∧ askOf N j < 274877906944 := by unfold askOf; omega

/-- The budget in which the first k kinds hold what they ask; the budget in which those from k on do. -/
def belowB (N : Nat → Int) (k : Nat) : Bud :=
  let s := (if 0 < k then askOf N 0 else 0) + (if 1 < k then askOf N 1 else 0) + (if 2 < k then askOf N 2 else 0) + (if 3 < k then askOf N 3 else 0)
  ⟨1099511627776, s, s, if 0 < k then askOf N 0 else 0, if 1 < k then askOf N 1 else 0, if 2 < k then askOf N 2 else 0, if 3 < k then askOf N 3 else 0⟩
def fromB (N : Nat → Int) (k : Nat) : Bud :=
  let s := (if k ≤ 0 then askOf N 0 else 0) + (if k ≤ 1 then askOf N 1 else 0) + (if k ≤ 2 then askOf N 2 else 0) + (if k ≤ 3 then askOf N 3 else 0)
  ⟨1099511627776, s, s, if k ≤ 0 then askOf N 0 else 0, if k ≤ 1 then askOf N 1 else 0, if k ≤ 2 then askOf N 2 else 0, if k ≤ 3 then askOf N 3 else 0⟩
theorem below_start (N : Nat → Int) : Bud.start 1099511627776 = belowB N 0 := by simp [Bud.start, belowB]; decide
theorem from_start (N : Nat → Int) : Bud.start 1099511627776 = fromB N 4 := by simp [Bud.start, fromB]; decide
theorem below_from (N : Nat → Int) : belowB N 4 = fromB N 0 := rfl
theorem below_step (N : Nat → Int) {k : Nat} (hk : k < 4) : (belowB N k).reserve k (askOf N k) = (0, belowB N (k + 1)) := by
  have b0 := askOf_bd N 0
  have b1 := askOf_bd N 1
  have b2 := askOf_bd N 2
  have b3 := askOf_bd N 3
  have : k = 0 ∨ k = 1 ∨ k = 2 ∨ k = 3 := by omega
  unfold Bud.reserve
  rcases this with rfl | rfl | rfl | rfl
  all_goals
    simp [belowB, Bud.of, Bud.put]
    generalize askOf N 0 = x0 at *
    generalize askOf N 1 = x1 at *
    generalize askOf N 2 = x2 at *
    generalize askOf N 3 = x3 at *
    rw [if_neg (by omega), if_neg (by omega)]
    simp
    try omega
theorem from_step (N : Nat → Int) {k : Nat} (hk : k < 4) : (fromB N (k + 1)).change k (askOf N k) = (0, fromB N k) := by
  have b0 := askOf_bd N 0
  have b1 := askOf_bd N 1
  have b2 := askOf_bd N 2
  have b3 := askOf_bd N 3
  have : k = 0 ∨ k = 1 ∨ k = 2 ∨ k = 3 := by omega
  unfold Bud.change
  rcases this with rfl | rfl | rfl | rfl
  all_goals
    simp [fromB, Bud.of, Bud.put]
    generalize askOf N 0 = x0 at *
    generalize askOf N 1 = x1 at *
    generalize askOf N 2 = x2 at *
    generalize askOf N 3 = x3 at *
    rw [if_neg (by omega), if_neg (by omega)]
    simp
    try omega
theorem from_of (N : Nat → Int) {k : Nat} (hk : k < 4) : (belowB N 4).of k = askOf N k ∧ (fromB N k).of k = askOf N k := by
  have : k = 0 ∨ k = 1 ∨ k = 2 ∨ k = 3 := by omega
  rcases this with rfl | rfl | rfl | rfl <;> simp [belowB, fromB, Bud.of]

set_option maxRecDepth 100000 in
set_option maxHeartbeats 1000000 in
theorem budget_kinds (N : Nat → Int) (hN : ∀ i, N i ≤ 9223372036854775807) (w : World) :
    Calls Try.prog 3 #[.agg #[.int .i64 (N 0), .int .i64 (N 1), .int .i64 (N 2), .int .i64 (N 3)]] w fun e w' => e = .returned (.bool true) ∧ Chg (fun _ => False) w w' := by
  have HN := Lib.hid hN
  clear hN
  go_enter Try.func3, Try.ntmps3
  go_wp2_with fail
  refine (bud_new 1099511627776 _).mono ?_
  rintro e w1 ⟨rfl, hb, hs1, hc1⟩
  rw [below_start N] at hb
  have HS1 := Lib.hid hs1
  clear hs1
  go_wp2_with fail
  refine (bud_new 1099511627776 _).mono ?_
  rintro e w2 ⟨rfl, hcc, hs2, hc2⟩
  rw [from_start N] at hcc
  have hs1 : w1.heap.size = w.heap.size + 2 := by rw [HS1.out]; simp
  rw [hs1] at hcc ⊢
  rw [show (w.alloc (.cells #[.int .i64 (N 0), .int .i64 (N 1), .int .i64 (N 2), .int .i64 (N 3)] 22)).heap.size = w.heap.size + 1 from by simp] at hb
  have hbox : Blk (w.alloc (.cells #[.int .i64 (N 0), .int .i64 (N 1), .int .i64 (N 2), .int .i64 (N 3)] 22)) w.heap.size 22 #[.int .i64 (N 0), .int .i64 (N 1), .int .i64 (N 2), .int .i64 (N 3)] := Blk.new _ _ _
  have hbox2 := (hbox.chg hc1 (by simp)).chg hc2 (by simp)
  have hb2 := hb.chg hc2 (by simp)
  have hc0 : Chg (fun _ => False) w w2 := (((Chg.refl _ w).alloc _).then hc1).then hc2
  clear hb hc1 hc2 hs2 hbox hs1 HS1
  have hcell : ∀ k : Nat, k < 4 → w2.cell? ⟨w.heap.size, k, none⟩ = some (.int .i64 (N k)) := fun k hk => by
    have : k = 0 ∨ k = 1 ∨ k = 2 ∨ k = 3 := by omega
    rcases this with rfl | rfl | rfl | rfl
    · exact hbox2.cell 0
    · exact hbox2.cell 1
    · exact hbox2.cell 2
    · exact hbox2.cell 3
  have HC := Lib.hid hcell
  clear hcell hbox2
  go_wp2_with fail
  go_loopw [5] (fun i wr => ∃ k : Nat, k ≤ 4 ∧ i = .int .i64 k ∧ BudAt wr (w.heap.size + 1) (belowB N k) ∧ BudAt wr (w.heap.size + 2) (fromB N 4) ∧ Chg (fun _ => False) w wr ∧ Hid (∀ k : Nat, k < 4 → wr.cell? ⟨w.heap.size, k, none⟩ = some (.int .i64 (N k)))) (fun i _ => 4 - (intOf i).toNat)
  case atStart => exact ⟨0, by omega, rfl, hb2, hcc, hc0, HC⟩
  case round =>
    obtain ⟨k, hk, rfl, hb, hf, hc, hcell⟩ := hrel
    clear hb2 hcc hc0 HC
    by_cases hlt : k < 4
    · have hx := hcell.out k hlt
      have hk0 : (0 : Int) ≤ (k : Int) := by omega
      have hk1 : (k : Int) < 4 := by omega
      have hNk := HN.out k
      have hbd := askOf_bd N k
      have hal := (bud_reserve _ (belowB N k) k (askOf N k) wr hb)
      rw [below_step N hlt] at hal
      by_cases hneg : 0 < N k
      all_goals
        first
          | rw [show askOf N k = N k % 274877906944 from by unfold askOf; rw [if_neg (by omega)]] at hal
          | rw [show askOf N k = 0 from by unfold askOf; split <;> omega] at hal
        have HAL := Lib.hid hal
        clear hal
        go_wp2_with fail
        refine HAL.out.mono ?_
        rintro e w3 ⟨rfl, hb3, hc3⟩
        have hf3 := hf.chg hc3 (by simp)
        have hcell3 : Hid (∀ k : Nat, k < 4 → w3.cell? ⟨w.heap.size, k, none⟩ = some (.int .i64 (N k))) := fun k hk => (hc3.cell (by have := hf.blk.lt; simp; omega) (by simp)).trans (hcell.out k hk)
        have hcc3 := hc.own hc3 (by omega)
        clear hb hf hc hcell hc3 hx hbd HAL hneg
        go_wp2_with fail
        go_roundw
        case rel => exact ⟨k + 1, by omega, by go_num, hb3, hf3, hcc3, hcell3⟩
        case measure => simp [intOf]; omega
    · have hk4 : k = 4 := by omega
      rw [hk4] at hb
      clear hk4
      go_wp2_with fail
      clear hlt hk
      go_loopw [7] (fun i wr => ∃ (k : Nat) (q : Int), k ≤ 4 ∧ i = .int .i64 q ∧ q = (k : Int) - 1 ∧ BudAt wr (w.heap.size + 1) (belowB N 4) ∧ BudAt wr (w.heap.size + 2) (fromB N k) ∧ Chg (fun _ => False) w wr ∧ Hid (∀ k : Nat, k < 4 → wr.cell? ⟨w.heap.size, k, none⟩ = some (.int .i64 (N k)))) (fun i _ => (intOf i + 1).toNat)
      case atStart => exact ⟨4, 3, by omega, rfl, rfl, hb, hf, hc, hcell⟩
      case round =>
        obtain ⟨k1, q, hk, rfl, hq, hb, hf, hc, hcell⟩ := hrel
        cases k1 with
        | zero =>
          obtain rfl : q = -1 := by omega
          clear hcell hk hq
          rw [← below_from] at hf
          go_wp2_with fail
          refine (bud_wakes _).mono ?_
          rintro e w5 ⟨rfl, hc5⟩
          have hb5 := hb.chg hc5 (by simp)
          have hf5 := hf.chg hc5 (by simp)
          have hcc := hc.then hc5
          clear hb hf hc hc5
          go_wp2_with fail
          refine (bud_used _ _ _ hb5).mono ?_
          rintro e w' ⟨rfl, rfl⟩
          go_wp2_with fail
          refine (bud_used _ _ _ hf5).mono ?_
          rintro e w' ⟨rfl, rfl⟩
          go_wp2_with fail
          refine (bud_high _ _ _ hb5).mono ?_
          rintro e w' ⟨rfl, rfl⟩
          go_wp2_with fail
          refine (bud_high _ _ _ hf5).mono ?_
          rintro e w' ⟨rfl, rfl⟩
          go_wp2_with fail
          refine (bud_left _ _ _ hb5).mono ?_
          rintro e w6 ⟨rfl, n6, hw6⟩
          have hf6 : BudAt w6 (w.heap.size + 2) (belowB N 4) := by rw [← hw6]; exact hf5.drewN _
          have hc6 : Chg (fun _ => False) w w6 := by rw [← hw6]; exact hcc.drewN _
          clear hw6
          go_wp2_with fail
          refine (bud_left _ _ _ hf6).mono ?_
          rintro e w7 ⟨rfl, n7, hw7⟩
          have hc7 : Chg (fun _ => False) w w7 := by rw [← hw7]; exact hc6.drewN _
          clear hw7
          go_wp2_with fail
          go_ret
          exact ⟨rfl, hc7⟩
        | succ k =>
          obtain rfl : q = (k : Int) := by omega
          have hlt : k < 4 := by omega
          have hx := hcell.out k hlt
          have hk0 : (0 : Int) ≤ (k : Int) := by omega
          have hk1 : (k : Int) < 4 := by omega
          have hNk := HN.out k
          have hbd := askOf_bd N k
          have hal := (bud_change _ (fromB N (k + 1)) k (askOf N k) wr hf (by omega))
          rw [from_step N hlt] at hal
          have hob := (from_of N hlt).1
          have hof := (from_of N hlt).2
          clear hq hk
          by_cases hneg : 0 < N k
          all_goals
            first
              | rw [show askOf N k = N k % 274877906944 from by unfold askOf; rw [if_neg (by omega)]] at hal hob hof
              | rw [show askOf N k = 0 from by unfold askOf; split <;> omega] at hal hob hof
            have HAL := Lib.hid hal
            clear hal
            go_wp2_with fail
            refine HAL.out.mono ?_
            rintro e w3 ⟨rfl, hf3, hc3⟩
            have hb3 := hb.chg hc3 (by simp)
            have hcell3 : Hid (∀ k : Nat, k < 4 → w3.cell? ⟨w.heap.size, k, none⟩ = some (.int .i64 (N k))) := fun k hk => (hc3.cell (by have := hb.blk.lt; simp; omega) (by simp)).trans (hcell.out k hk)
            have hcc3 := hc.own hc3 (by omega)
            clear hb hf hc hcell hc3 hx hbd HAL hneg
            go_wp2_with fail
            refine (bud_of _ _ k _ hb3).mono ?_
            rintro e w' ⟨rfl, rfl⟩
            go_wp2_with fail
            refine (bud_of _ _ k _ hf3).mono ?_
            rintro e w' ⟨rfl, rfl⟩
            go_wp2_with fail
            go_roundw
            case rel => exact ⟨k, (k : Int) - 1, by omega, rfl, rfl, hb3, hf3, hcc3, hcell3⟩
            case measure => first | (simp [intOf]; done) | (simp [intOf]; omega)
end Go.Proofs.Ytafdgncjfiiekaa
