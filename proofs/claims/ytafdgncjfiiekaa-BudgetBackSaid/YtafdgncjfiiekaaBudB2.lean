/-
  The walk of BudgetBack.
-/
import Derived.Test.YtafdgncjfiiekaaBudL
import Derived.Test.YtafdgncjfiiekaaRec
import Derived.Deep.DeepMust
import Derived.Deep.DeepFit
namespace Go.Proofs.Ytafdgncjfiiekaa
open Go.RowKit
set_option linter.unusedVariables false
set_option linter.unusedSimpArgs false

theorem rbud_new_at (l : Int) (g : Nat) (w : World) (hg : w.heap.size = g) :
    Calls Try.prog 22 #[.int .i64 l] w fun e w' => e = .returned (.pointer (some ⟨g, 0, none⟩)) ∧ RBudAt w' g (Bud.start l) ∧ w'.heap.size = g + 1 ∧ Chg (fun _ => False) w w' := by
  subst hg
  exact rbud_new l w

theorem Bud.reserve_no {B : Bud} {k n : Int} (h : (B.reserve k n).1 ≠ 0) : (B.reserve k n).2 = B := by
  unfold Bud.reserve at *
  split
  · rfl
  split
  · rfl
  rename_i h1 h2
  rw [if_neg h1, if_neg h2] at h
  exact absurd rfl h
theorem Bud.reserve_ok {B : Bud} {k n : Int} (h : (B.reserve k n).1 = 0) : 0 ≤ k ∧ k < 4 ∧ 0 ≤ n ∧ B.u + n ≤ B.l ∧ (B.reserve k n).2 = B.put k (B.of k + n) := by
  unfold Bud.reserve at *
  by_cases h1 : k < 0 ∨ 4 ≤ k ∨ n < 0
  · rw [if_pos h1] at h; simp at h
  rw [if_neg h1] at h ⊢
  by_cases h2 : B.l - B.u < n
  · rw [if_pos h2] at h; simp at h
  rw [if_neg h2]
  exact ⟨by omega, by omega, by omega, by omega, rfl⟩
theorem Bud.back {B : Bud} {k n : Int} (g : B.Good) (h0 : 0 ≤ k) (h4 : k < 4) (hn : 0 ≤ n) :
    ((B.put k (B.of k + n)).release k n).1 = 0 ∧ (((B.put k (B.of k + n)).release k n).2).of k = B.of k ∧ (((B.put k (B.of k + n)).release k n).2).u = B.u ∧
      (((B.put k (B.of k + n)).release k n).2).h = if B.h < B.u + n then B.u + n else B.h := by
  have hof := B.put_of (x := B.of k + n) h0 h4
  have hpu := B.put_u (x := B.of k + n) h0 h4
  have hbd := B.of_bd g k
  have huh := g.uh
  have e : (B.put k (B.of k + n)).release k n = (0, (B.put k (B.of k + n)).put k (B.of k)) := by
    unfold Bud.release
    rw [if_neg (by omega), hof, if_neg (by omega), show B.of k + n - n = B.of k by omega]
  rw [e]
  have h2 := (B.put k (B.of k + n)).put_u (x := B.of k) h0 h4
  refine ⟨rfl, (B.put k (B.of k + n)).put_of h0 h4, ?_, ?_⟩
  · simp only; rw [h2.1, hpu.1, hof]; omega
  · simp only
    rw [h2.2, hpu.1, hpu.2, hof]
    rw [show B.u - B.of k + (B.of k + n) = B.u + n by omega, show B.u + n - (B.of k + n) + B.of k = B.u by omega]
    split <;> (rw [if_neg (by omega)])

set_option maxRecDepth 100000 in
set_option maxHeartbeats 2000000 in
theorem budget_back (l : Int) (A : Option Addr) (n c : Nat) (D K N : Nat → Int) (hN : ∀ i, N i ≤ 9223372036854775807) (x0 x1 x2 : Int) (hx2 : x2 ≤ 9223372036854775807) (w : World) (hn : n ≤ 9223372036854775807)
    (hs : Rec w w.heap.size 3 A n (fun i j => match j with | 0 => .int .i64 (D i) | 1 => .int .i64 (K i) | _ => .int .i64 (N i))) :
    Calls Try.prog 4 #[.int .i64 l, .slice A n c, .agg #[.int .i64 x0, .int .i64 x1, .int .i64 x2]] w fun e w' => e = .returned (.bool true) ∧ Chg (fun _ => False) w w' := by
  have HS := Lib.hid hs
  have HN := Lib.hid hN
  clear hs hN
  go_enter Try.func4, Try.ntmps4
  go_wp2_with fail
  refine (bud_new l _).mono ?_
  rintro e w1 ⟨rfl, hb, hs1, hc1⟩
  rw [show (w.alloc (.cells #[.int .i64 x0, .int .i64 x1, .int .i64 x2] 34)).heap.size = w.heap.size + 1 from by simp] at hb
  have hbox : Blk (w.alloc (.cells #[.int .i64 x0, .int .i64 x1, .int .i64 x2] 34)) w.heap.size 34 #[.int .i64 x0, .int .i64 x1, .int .i64 x2] := Blk.new _ _ _
  have hbox1 := hbox.chg hc1 (by simp)
  have hc0 : Chg (fun _ => False) w w1 := ((Chg.refl _ w).alloc _).then hc1
  clear hs1 hc1 hbox
  go_wp2_with fail
  go_loopw [19] (fun i wr => ∃ k : Nat, k ≤ n ∧ i = .int .i64 k ∧ ∃ B, BudAt wr (w.heap.size + 1) B ∧ Blk wr w.heap.size 34 #[.int .i64 x0, .int .i64 x1, .int .i64 x2] ∧ Chg (fun _ => False) w wr) (fun i _ => n - (intOf i).toNat)
  case atStart => exact ⟨0, by omega, rfl, _, hb, hbox1, hc0⟩
  case round =>
    obtain ⟨k, hk, rfl, B, hbb, hbx, hcc⟩ := hrel
    clear hb hbox1 hc0
    by_cases hlt : k < n
    · obtain ⟨b, off, rfl, hbB, hcell⟩ := HS.out (by omega)
      have y0 := (hcc.cell (p := ⟨b, _, none⟩) hbB (by simp)).trans (hcell k hlt 0 (by omega))
      have y1 := (hcc.cell (p := ⟨b, _, none⟩) hbB (by simp)).trans (hcell k hlt 1 (by omega))
      have y2 := (hcc.cell (p := ⟨b, _, none⟩) hbB (by simp)).trans (hcell k hlt 2 (by omega))
      simp only [Nat.add_zero] at y0 y1 y2
      have hk0 : (0 : Int) ≤ (k : Int) := by omega
      have hk1 : (k : Int) < (n : Int) := by omega
      have hNk := HN.out k
      have hgl := hbb.blk.lt
      have hxl := hbx.lt
      have HB := Lib.hid hbb
      have HX := Lib.hid hbx
      have HC := Lib.hid hcc
      clear hcell HS hbb hbx hcc
      go_wp2_with fail
      clear y0 y1 y2
      go_region_held3 (fun w' => w'.cell? ⟨wr.heap.size, 0, none⟩ = some (.int .i64 (D k)) ∧ w'.cell? ⟨wr.heap.size, 1, none⟩ = some (.int .i64 (K k)) ∧ w'.cell? ⟨wr.heap.size, 2, none⟩ = some (.int .i64 (N k)))
        (first | (go_keep; done) | (go_split_ands; refine ⟨?_, ?_, ?_⟩ <;> (first | (rw [hc6.cell (by simp; have := hc5.size; simp at this; omega) (by simp; omega)]; assumption) | (rw [hc5.cell (by simp) (by simp)]; assumption))))
        (first
          | (go_at_call 22; go_must (refine (rbud_new_at 0 (wr.heap.size + 1) _ (by simp)).mono ?_; rintro e w5 ⟨rfl, hr5, hs5, hc5⟩))
          | (go_at_call 21; refine (bud_act (w.heap.size + 1) (wr.heap.size + 1) ?_ B (Bud.start 0) (D k) (K k) (N k) hNk _ ?_ hr5).mono ?_; omega; exact (HB.out.chg (S := fun _ => False) (by ((repeat (first | exact Chg.refl _ _ | assumption | refine Chg.drewN ?_ _ | refine Chg.drew ?_ | refine Chg.alloc ?_ _ | refine Chg.setCell ?_ (by simp) _)))) (by simp)).chg hc5 (by simp); rintro e w6 ⟨rfl, hb6, hr6, hc6⟩))
      have hc6' : Chg (fun _ => False) w w6 := by
        refine Chg.own2 (w1 := w5) ?_ hc6 (by omega) (by have := HC.out.size; omega)
        refine Chg.then ?_ hc5
        have := HC.out
        ((repeat (first | exact Chg.refl _ _ | assumption | refine Chg.drewN ?_ _ | refine Chg.drew ?_ | refine Chg.alloc ?_ _ | refine Chg.setCell ?_ (by simp) _)))
      have hx6 : Blk w6 w.heap.size 34 #[.int .i64 x0, .int .i64 x1, .int .i64 x2] := ((HX.out.chg (S := fun _ => False) (by ((repeat (first | exact Chg.refl _ _ | assumption | refine Chg.drewN ?_ _ | refine Chg.drew ?_ | refine Chg.alloc ?_ _ | refine Chg.setCell ?_ (by simp) _)))) (by simp)).chg hc5 (by simp)).chg hc6 (by simp; omega)
      clear hr5 hs5 hc5 hr6 hc6 HB HC HX
      go_wp2_with fail
      go_roundw
      case rel => exact ⟨k + 1, by omega, by go_num, _, hb6, hx6, hc6'⟩
      case measure => simp [intOf]; omega
    · have z0 := hbx.cell 0
      have z1 := hbx.cell 1
      have z2 := hbx.cell 2
      simp at z0 z1 z2
      clear HS
      go_wp2_with fail
      refine (bud_of _ B x1 _ hbb).mono ?_
      rintro e w' ⟨rfl, rfl⟩
      go_wp2_with fail
      refine (bud_used _ B _ hbb).mono ?_
      rintro e w' ⟨rfl, rfl⟩
      go_wp2_with fail
      refine (bud_high _ B _ hbb).mono ?_
      rintro e w' ⟨rfl, rfl⟩
      go_wp2_with fail
      have hres := bud_reserve _ B x1 x2 _ hbb
      by_cases hr0 : (B.reserve x1 x2).1 = 0
      · obtain ⟨k0, k4, n0, hul, e2⟩ := Bud.reserve_ok hr0
        rw [hr0, e2] at hres
        have hbk := Bud.back hbb.good k0 k4 n0
        have hof := B.put_of (x := B.of x1 + x2) k0 k4
        have hbd := B.of_bd hbb.good x1
        have hul2 := hbb.good.l1
        have hrl := bud_release (w.heap.size + 1) (B.put x1 (B.of x1 + x2)) x1 x2
        obtain ⟨b1, b2, b3, b4⟩ := hbk
        rw [b1] at hrl
        generalize hB2 : ((B.put x1 (B.of x1 + x2)).release x1 x2).2 = B2 at hrl b2 b3 b4
        generalize hB1 : B.put x1 (B.of x1 + x2) = B1 at hres hrl hof
        have HRL := Lib.hid hrl
        have HRES := Lib.hid hres
        clear b1 hr0 e2 hB2 hB1 hrl hres
        refine HRES.out.mono ?_
        rintro e w2 ⟨rfl, hb2, hc2⟩
        have hbx2 := hbx.chg hc2 (by simp)
        have hcc2 := hcc.own hc2 (by omega)
        clear hbb hbx hc2 hcc HRES z0 z1 z2
        go_wp2_with fail
        refine (bud_wakes _).mono ?_
        rintro e w3 ⟨rfl, hc3⟩
        have hb3 := Lib.hid (hb2.chg hc3 (by simp))
        have hcc3 := hcc2.then hc3
        have hbx3 := hbx2.chg hc3 (by simp)
        have z2 := hbx3.cell 2
        simp at z2
        have hxl := hbx3.lt
        clear hb2 hcc2 hbx2 hc3 hbx3
        have hu0 : 0 ≤ B.u := by omega
        by_cases hm : B.h < B.u + x2
        all_goals
          first
            | rw [if_pos hm] at b4
            | rw [if_neg hm] at b4
          go_wp2_with fail
          have hw1 : IntKind.i64.wrap (B.of x1 + x2) = B.of x1 + x2 := IntWalk.i64_in _ (by omega)
          have hw2 : IntKind.i64.wrap (B.u + x2) = B.u + x2 := IntWalk.i64_in _ (by omega)
          go_region_held3 (fun w' => w'.cell? ⟨w.heap.size, 2, none⟩ = some (.int .i64 x2))
            (first | (go_keep; done) | (rw [hc5.cell hxl (by simp)]; assumption))
            (first
              | (go_at_call 16; (first | (with_reducible refine (bud_of _ B2 x1 _ hb5).mono ?_) | (refine (bud_of _ B1 x1 _ (hb3.out.chg (S := fun _ => False) (by ((repeat (first | exact Chg.refl _ _ | assumption | refine Chg.drewN ?_ _ | refine Chg.drew ?_ | refine Chg.alloc ?_ _ | refine Chg.setCell ?_ (by simp) _)))) (by simp))).mono ?_)); rintro e w' ⟨rfl, rfl⟩)
              | (go_at_call 23; refine (HRL.out _ (hb3.out.chg (S := fun _ => False) (by ((repeat (first | exact Chg.refl _ _ | assumption | refine Chg.drewN ?_ _ | refine Chg.drew ?_ | refine Chg.alloc ?_ _ | refine Chg.setCell ?_ (by simp) _)))) (by simp))).mono ?_; rintro e w5 ⟨rfl, hb5, hc5⟩)
              | (go_at_call 18; refine (bud_used _ B2 _ hb5).mono ?_; rintro e w' ⟨rfl, rfl⟩)
              | (go_at_call 19; refine (bud_high _ B2 _ hb5).mono ?_; rintro e w' ⟨rfl, rfl⟩))
          all_goals
            clear hw1 hw2
            go_wp2_with fail
            go_ret
            refine ⟨rfl, Chg.own (w1 := w3.drew) ?_ hc5 (by omega)⟩
            ((repeat (first | exact Chg.refl _ _ | assumption | refine Chg.drewN ?_ _ | refine Chg.drew ?_ | refine Chg.alloc ?_ _ | refine Chg.setCell ?_ (by simp) _)))
      · rw [Bud.reserve_no hr0] at hres
        have hr1 : ((B.reserve x1 x2).1 == 0) = false := by simp [hr0]
        have hr2 : ((B.reserve x1 x2).1 != 0) = true := by simp [hr0]
        generalize (B.reserve x1 x2).1 = e0 at hres hr1 hr2
        clear hr0
        refine hres.mono ?_
        rintro e w2 ⟨rfl, hb2, hc2⟩
        have hcc2 := hcc.own hc2 (by omega)
        clear hc2 hcc hbb hbx hres
        go_wp2_with fail
        refine (bud_wakes _).mono ?_
        rintro e w3 ⟨rfl, hc3⟩
        have hb3 := hb2.chg hc3 (by simp)
        have hcc3 := hcc2.then hc3
        go_wp2_with fail
        refine (bud_wakes _).mono ?_
        rintro e w4 ⟨rfl, hc4⟩
        have hb4 := hb3.chg hc4 (by simp)
        have hcc4 := hcc3.then hc4
        clear hb2 hb3 hcc2 hcc3 hc3 hc4
        go_wp2_with fail
        refine (bud_of _ B x1 _ hb4).mono ?_
        rintro e w' ⟨rfl, rfl⟩
        go_wp2_with fail
        refine (bud_used _ B _ hb4).mono ?_
        rintro e w' ⟨rfl, rfl⟩
        go_wp2_with fail
        refine (bud_high _ B _ hb4).mono ?_
        rintro e w' ⟨rfl, rfl⟩
        go_wp2_with fail
        go_ret
        exact ⟨rfl, hcc4⟩
end Go.Proofs.Ytafdgncjfiiekaa
