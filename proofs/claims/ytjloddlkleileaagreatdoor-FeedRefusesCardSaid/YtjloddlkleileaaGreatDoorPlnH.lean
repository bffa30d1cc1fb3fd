/-
  The document's plan: what is wrong with a pattern.
-/
import Derived.Test.YtjloddlkleileaaGreatDoorPlnF
import Derived.Test.YtjloddlkleileaaGreatDoorPlnG
import Derived.Test.YtjloddlkleileaaGreatDoorPlnD
import Derived.StillTailTactics
namespace Go.Proofs.YtjloddlkleileaaGreatDoor
open Go.RowKit
set_option linter.unusedVariables false
set_option linter.unusedSimpArgs false

set_option maxRecDepth 100000 in
set_option maxHeartbeats 8000000 in
theorem rq_check (p : PatV) (sv cv : Value) (w : World) (hL : Lst rstepC w sv p.steps) (hC : Lst rcondC w cv p.conds) (hl : p.steps.length ≤ 4096) (hl2 : p.conds.length ≤ 4096) : Calls Tryz.prog 24 #[.agg #[sv, cv, .int .i64 p.within]] w (TwoAt w (checkP2 p)) := by
  obtain ⟨L, C, n⟩ := p
  dsimp only at *
  obtain ⟨a, cap, rfl, hlc, _⟩ := rstep_at hL
  obtain ⟨a2, cap2, rfl, hlc2, _⟩ := rcond_at hC
  obtain ⟨V, hV⟩ : ∃ V, checkP2 ⟨L, C, n⟩ = V := ⟨_, rfl⟩
  have he := hV.symm
  rw [hV]
  clear hV
  unfold checkP2 at he
  dsimp only at he
  obtain ⟨bp, hbp⟩ : ∃ b, w.heap.size = b := ⟨_, rfl⟩
  obtain ⟨w1, hw1⟩ : ∃ w1, w1 = w.alloc (.cells #[.slice a L.length cap, .slice a2 C.length cap2, .int .i64 n] 75) := ⟨_, rfl⟩
  have hc1 : Chg (fun _ => False) w w1 := by rw [hw1]; ((repeat (first | exact Chg.refl _ _ | assumption | refine Chg.drewN ?_ _ | refine Chg.drew ?_ | refine Chg.alloc ?_ _ | refine Chg.setCell ?_ (by first | (simp; done) | (simp; omega) | (intro h; simp at h; omega)) _)))
  have hp1 : Blk w1 bp 75 #[.slice a L.length cap, .slice a2 C.length cap2, .int .i64 n] := by rw [hw1, ← hbp]; exact Blk.new _ _ _
  have hL1 := hL.same hc1
  have hC1' := hC.same hc1
  have y0 := hp1.cell 0
  have y1 := hp1.cell 1
  have y2 := hp1.cell 2
  simp at y0 y1 y2
  obtain ⟨a', cap', e', _, hr⟩ := rstep_at hL1
  injection e' with ea _ ec
  subst ea ec
  obtain ⟨a', cap', e', _, hr2⟩ := rcond_at hC1'
  injection e' with ea _ ec
  subst ea ec
  have HW1 := Lib.hid hw1
  have HC1 := Lib.hid hc1
  have HP1 := Lib.hid hp1
  have HL1 := Lib.hid hL1
  have HCC := Lib.hid hC1'
  have HBP := Lib.hid hbp
  have HR := Lib.hid hr
  have HRC := Lib.hid hr2
  clear hw1 hc1 hp1 hL1 hC1' hbp hr hr2
  clear hL hC
  go_enter Tryz.func24, Tryz.ntmps24
  go_upto_region 1 with fail
  rw [← HW1.out, HBP.out]
  by_cases h1 : L.length = 0 ∨ L.length > 8 ∨ C.length > 16
  · rw [if_pos h1] at he
    have HE := Lib.hid he
    clear he
    by_cases q1 : L.length = 0
    · have q : ((L.length : Int) == 0) = true := by rw [beq_iff_eq]; omega
      clear h1
      have Q1 := Lib.hid q1
      clear q1
      go_wp2_with fail
      go_ret2
      rw [HE.out]
      exact ⟨rfl, HC1.out⟩
    · have q : ((L.length : Int) == 0) = false := by rw [beq_eq_false_iff_ne]; omega
      by_cases q2 : L.length > 8
      · have q' : decide ((L.length : Int) > 8) = true := decide_eq_true (by omega)
        go_wp2_with fail
        go_ret2
        rw [HE.out]
        exact ⟨rfl, HC1.out⟩
      · have q' : decide ((L.length : Int) > 8) = false := decide_eq_false (by omega)
        have q3 : decide ((C.length : Int) > 16) = true := decide_eq_true (by omega)
        have q3' : C.length > 16 := by omega
        go_wp2_with fail
        go_ret2
        rw [HE.out]
        exact ⟨rfl, HC1.out⟩
  rw [if_neg h1] at he
  have q1 : ((L.length : Int) == 0) = false := by rw [beq_eq_false_iff_ne]; omega
  have q2 : decide ((L.length : Int) > 8) = false := decide_eq_false (by omega)
  have q3 : decide ((C.length : Int) > 16) = false := decide_eq_false (by omega)
  have q2' : ¬ L.length > 8 := by omega
  have q3' : ¬ C.length > 16 := by omega
  clear h1
  by_cases h1 : n < 0 ∨ n > 9007199254740992
  · rw [if_pos h1] at he
    have HE := Lib.hid he
    clear he
    by_cases q4 : n < 0
    · have q5 : decide (n < 0) = true := by simp; omega
      go_wp2_with fail
      go_ret2
      rw [HE.out]
      exact ⟨rfl, HC1.out⟩
    · have q5 : decide (n < 0) = false := by simp; omega
      have q6 : decide (n > 9007199254740992) = true := by simp; omega
      go_wp2_with fail
      go_ret2
      rw [HE.out]
      exact ⟨rfl, HC1.out⟩
  rw [if_neg h1] at he
  have q5 : decide (n < 0) = false := by simp; omega
  have q6 : decide (n > 9007199254740992) = false := by simp; omega
  clear h1
  have HE := Lib.hid he
  clear he
  go_wp2_with fail
  go_loopw [6, 5] (fun u v wr => ∃ (k : Nat) (b : Int), u = .int .i64 (k : Int) ∧ v = .int .i64 b ∧ k ≤ L.length ∧ 0 ≤ b ∧ b ≤ 4 * (k : Int) ∧ stepsBad2 L 0 L 0 = stepsBad2 L k (L.drop k) b ∧ Chg (fun _ => False) w1 wr) (fun u _ _ => L.length - (intOf u).toNat)
  case atStart => exact ⟨0, 0, rfl, rfl, Nat.zero_le _, by omega, by omega, by rw [List.drop_zero], Chg.refl _ _⟩
  case round =>
    clear q1 q2 q3 q5 q6
    obtain ⟨k, b, rfl, rfl, hk, hb0, hb1, hsb, hc⟩ := hrel
    by_cases hlt : k < L.length
    · obtain ⟨x, hA, hB, hD⟩ := drop_at hlt
      obtain ⟨b0, eb, _, x0, x1, x2, x3, x4⟩ := HR.out _ _ _ hA
      have hst := fun W (hW : Chg (fun _ => False) w1 W) => rq_step L (L.take k) (L.drop (k + 1)) x (.slice a L.length cap) (.slice a2 C.length cap2) n W (HL1.out.same hW) hA hl
      have hz0 := stepBad_eq (A := L.take k) (B := L.drop (k + 1)) hA
      rw [hB] at x0 x1 x2 x3 x4 hst hz0
      have hcw := HC1.out.then hc
      have q : decide ((k : Int) < (L.length : Int)) = true := by simp; omega
      have hi := IntWalk.i64_in ((k : Int) + 1) (by omega)
      have y0 := px_chg hc (by simp) y0
      have y1 := px_chg hc (by simp) y1
      have y2 := px_chg hc (by simp) y2
      subst eb
      have HA := Lib.hid hA
      have HB := Lib.hid hB
      have HD := Lib.hid hD
      have HST := Lib.hid hst
      have HC := Lib.hid hc
      have HCW := Lib.hid hcw
      have HSB := Lib.hid hsb
      have HZ0 := Lib.hid hz0
      clear hA hB hD hst hc hcw hsb hz0
      go_wp2_with fail
      refine (HST.out wr HC.out).mono ?_
      rintro e w3 ⟨rfl, h6⟩
      have z2 := px_chg (HC.out.then h6) (by simp) x2
      have z4 := px_chg (HC.out.then h6) (by simp) x4
      have y0 := px_chg h6 (by simp) y0
      have hc3 := HC.out.then h6
      have hcw3 := HC1.out.then hc3
      clear y1 y2 h6 HST HC HCW x0 x1 x2 x3 x4
      by_cases hz : stepBad2 L k x = 0
      · have hmx := stepBad_zero (HZ0.out.symm.trans hz)
        have hsb : stepsBad2 L 0 L 0 = stepsBad2 L (k + 1) (L.drop (k + 1)) (if x.no then b else b + x.max) := by
          rw [HSB.out, HD.out, stepsBad2, if_neg (fun h => h hz)]
        have q9 : (stepBad2 L k x != 0) = false := by simp [hz]
        obtain ⟨sb, hsbe⟩ : ∃ v, stepBad2 L k x = v := ⟨_, rfl⟩
        rw [hsbe] at q9 ⊢
        clear hz hsbe
        cases hno : x.no with
        | true =>
          rw [hno] at z2 hsb
          have hsb : stepsBad2 L 0 L 0 = stepsBad2 L (k + 1) (L.drop (k + 1)) b := hsb
          clear hno
          have HSB2 := Lib.hid hsb
          have HC3 := Lib.hid hc3
          clear hsb hc3
          clear hcw3
          go_wp2_with fail
          exact ⟨⟨k + 1, b, by simp [hi], rfl, by omega, hb0, by omega, HSB2.out, HC3.out⟩, by simp [intOf, hi]; omega⟩
        | false =>
          rw [hno] at z2 hsb
          have hsb : stepsBad2 L 0 L 0 = stepsBad2 L (k + 1) (L.drop (k + 1)) (b + x.max) := hsb
          have hi2 := IntWalk.i64_in (b + x.max) (by omega)
          clear hno
          have HSB2 := Lib.hid hsb
          have HC3 := Lib.hid hc3
          clear hsb hc3
          clear hcw3
          go_wp2_with fail
          exact ⟨⟨k + 1, b + x.max, by simp [hi], by first | rfl | simp [hi2], by omega, by omega, by omega, HSB2.out, HC3.out⟩, by simp [intOf, hi]; omega⟩
      · have hsb : stepsBad2 L 0 L 0 = .inl (k, stepBad2 L k x) := by
          rw [HSB.out, HD.out, stepsBad2, if_pos hz]
        have q9 : (stepBad2 L k x != 0) = true := by simp [hz]
        have he := HE.out
        rw [hsb] at he
        dsimp only at he
        obtain ⟨sb, hsbe⟩ : ∃ v, stepBad2 L k x = v := ⟨_, rfl⟩
        rw [hsbe] at q9 he ⊢
        clear hz hsbe hsb
        have HE2 := Lib.hid he
        have HCW3 := Lib.hid hcw3
        clear he hcw3
        clear hc3
        go_wp2_with fail
        go_ret2
        rw [HE2.out]
        exact ⟨rfl, HCW3.out⟩
    · have hke : k = L.length := by omega
      subst hke
      have q : decide ((L.length : Int) < (L.length : Int)) = false := by simp
      have he := HE.out
      rw [hsb, List.drop_length, stepsBad2] at he
      dsimp only at he
      have y0 := px_chg hc (by simp) y0
      have y1 := px_chg hc (by simp) y1
      have y2 := px_chg hc (by simp) y2
      have hcw := HC1.out.then hc
      have hp2 := HP1.out.chg hc (by simp)
      have hL2 := HL1.out.same hc
      clear HE hsb
      by_cases h16 : b > 16
      · rw [if_pos h16] at he
        have q7 : decide (b > 16) = true := by simp; omega
        have HE := Lib.hid he
        have HCW := Lib.hid hcw
        clear he hcw
        clear hL2 hp2 hc
        go_wp2_with fail
        go_ret2
        rw [HE.out]
        exact ⟨rfl, HCW.out⟩
      rw [if_neg h16] at he
      have q7 : decide (b > 16) = false := by simp; omega
      have HE := Lib.hid he
      have HCW := Lib.hid hcw
      have HP2 := Lib.hid hp2
      have HL2 := Lib.hid hL2
      have HC14 := Lib.hid hc
      clear he hcw hp2 hL2 hc
      clear hlt
      obtain ⟨w4, hw4⟩ : ∃ w4, w4 = wr := ⟨_, rfl⟩
      subst hw4
      go_wp2_with fail
      go_loopw [8] (fun u wr => ∃ k : Nat, u = .int .i64 (k : Int) ∧ k ≤ C.length ∧ V = condsBad2 L (L.length + k) (C.drop k) ∧ Chg (fun _ => False) w4 wr) (fun u _ => C.length - (intOf u).toNat)
      case atStart => exact ⟨0, rfl, Nat.zero_le _, by rw [List.drop_zero]; exact HE.out, Chg.refl _ _⟩
      case round =>
        obtain ⟨j, rfl, hj, hcb, hc⟩ := hrel
        have y0 := px_chg hc (by simp) y0
        have y1 := px_chg hc (by simp) y1
        have y2 := px_chg hc (by simp) y2
        clear q7 HE
        by_cases hlt : j < C.length
        · obtain ⟨c, hA, hB, hD⟩ := drop_at hlt
          obtain ⟨b0, eb, _, x0, x1, x2, x3⟩ := HRC.out _ _ _ hA
          have hct := fun W (hW : Chg (fun _ => False) w4 W) => rq_cond L c (.slice a L.length cap) (.slice a2 C.length cap2) n W (HL2.out.same hW) hl
          rw [hB] at x0 x1 x2 x3
          have hc1w := (HC14.out).then hc
          have q8 : decide ((j : Int) < (C.length : Int)) = true := by simp; omega
          have hi := IntWalk.i64_in ((j : Int) + 1) (by omega)
          have hi2 := IntWalk.i64_in ((L.length : Int) + (j : Int)) (by omega)
          have x0 := px_chg hc1w (by simp) x0
          have x1 := px_chg hc1w (by simp) x1
          have x2 := px_chg hc1w (by simp) x2
          have x3 := px_chg hc1w (by simp) x3
          subst eb
          have HA := Lib.hid hA
          have HB := Lib.hid hB
          have HD := Lib.hid hD
          have HCT := Lib.hid hct
          have HC := Lib.hid hc
          have HCB := Lib.hid hcb
          have HC1W := Lib.hid hc1w
          clear hA hB hD hct hc hcb hc1w
          go_wp2_with fail
          go_still_tail 6, (by kernel_rfl)
          change wpList _ _ _ _ _ wr.drew
          go_wp2_with fail
          refine (HCT.out wr.drew HC.out.drew).mono ?_
          rintro e w6 ⟨rfl, h6⟩
          have y0 := px_chgd h6 (by simp) y0
          have hc3 := HC.out.drew.then h6
          have hcw3 := HCW.out.then hc3
          clear x0 x1 x2 x3 y1 y2 h6 HCT HC
          by_cases hz : condBad2 L c = 0
          · have hsb : V = condsBad2 L (L.length + (j + 1)) (C.drop (j + 1)) := by
              rw [HCB.out, HD.out, condsBad2, if_neg (fun h => h hz)]
              rfl
            have q9 : (condBad2 L c != 0) = false := by simp [hz]
            obtain ⟨sb, hsbe⟩ : ∃ v, condBad2 L c = v := ⟨_, rfl⟩
            rw [hsbe] at q9 ⊢
            clear hz hsbe hcw3
            have HSB2 := Lib.hid hsb
            have HC3 := Lib.hid hc3
            clear hsb hc3
            go_wp2_with fail
            exact ⟨⟨j + 1, by simp [hi], by omega, HSB2.out, HC3.out⟩, by simp [intOf, hi]; omega⟩
          · have he : V = (L.length + j, condBad2 L c) := by rw [HCB.out, HD.out, condsBad2, if_pos hz]
            have q9 : (condBad2 L c != 0) = true := by simp [hz]
            obtain ⟨sb, hsbe⟩ : ∃ v, condBad2 L c = v := ⟨_, rfl⟩
            rw [hsbe] at q9 he ⊢
            clear hz hsbe hc3
            have HE2 := Lib.hid he
            have HCW3 := Lib.hid hcw3
            clear he hcw3
            go_wp2_with fail
            go_ret2
            rw [HE2.out]
            exact ⟨by simp, HCW3.out⟩
        · have hke : j = C.length := by omega
          subst hke
          have q8 : decide ((C.length : Int) < (C.length : Int)) = false := by simp
          have he := hcb
          rw [List.drop_length, condsBad2] at he
          have hcw2 := HCW.out.then hc
          clear hcb hc hlt
          have HE := Lib.hid he
          have HCW2 := Lib.hid hcw2
          clear he hcw2
          go_wp2_with fail
          go_ret2
          rw [HE.out]
          exact ⟨rfl, HCW2.out⟩
end Go.Proofs.YtjloddlkleileaaGreatDoor
