/-
  The document's plan: what is wrong with a step.
-/
import Derived.Test.YtjloddlkleileaaGreatDoorPlnE
namespace Go.Proofs.YtjloddlkleileaaGreatDoor
open Go.RowKit
set_option linter.unusedVariables false
set_option linter.unusedSimpArgs false

set_option maxRecDepth 100000 in
set_option maxHeartbeats 4000000 in
theorem rq_step (L A B : List PStepV) (x : PStepV) (sv cv : Value) (n : Int) (w : World) (hL : Lst rstepC w sv L) (hA : L = A ++ x :: B) (hl : L.length ≤ 4096) : Calls Tryz.prog 47 #[.agg #[sv, cv, .int .i64 n], .int .i64 (A.length : Int)] w (NumAt' w (stepBad2 L A.length x)) := by
  obtain ⟨a, cap, rfl, hlc, hr⟩ := rstep_at hL
  obtain ⟨b0, rfl, hb0, x0, x1, x2, x3, x4⟩ := hr A x B hA
  have hlt : A.length < L.length := by rw [hA]; simp
  obtain ⟨w1, hw1⟩ : ∃ w1, w1 = (w.alloc (.cells #[.slice (some ⟨b0, 0, none⟩) L.length cap, cv, .int .i64 n] 75)).alloc (.cells #[bV x.kind, bV x.name, .bool x.no, .int .i64 x.min, .int .i64 x.max] 130) := ⟨_, rfl⟩
  have hc1 : Chg (fun _ => False) w w1 := by rw [hw1]; ((repeat (first | exact Chg.refl _ _ | assumption | refine Chg.drewN ?_ _ | refine Chg.drew ?_ | refine Chg.alloc ?_ _ | refine Chg.setCell ?_ (by first | (simp; done) | (simp; omega) | (intro h; simp at h; omega)) _)))
  have hp1 : Blk w1 w.heap.size 75 #[.slice (some ⟨b0, 0, none⟩) L.length cap, cv, .int .i64 n] := by rw [hw1]; exact (Blk.new _ _ _).alloc _
  have hz1 : Blk w1 (w.heap.size + 1) 130 #[bV x.kind, bV x.name, .bool x.no, .int .i64 x.min, .int .i64 x.max] := by rw [hw1]; exact Blk.new1 _ _ _ _
  have hfi := rq_find L (.slice (some ⟨b0, 0, none⟩) L.length cap) cv n x.name w1 (hL.same hc1) hl
  obtain ⟨F, hF⟩ : ∃ F, findP L x.name = F := ⟨_, rfl⟩
  rw [hF] at hfi
  obtain ⟨kd, nm, no, mn, mx⟩ := x
  dsimp only at *
  have hs0 : stepBad2 L A.length ⟨kd, nm, no, mn, mx⟩ = stepBad2 L A.length ⟨kd, nm, no, mn, mx⟩ := rfl
  conv at hs0 => rhs; unfold stepBad2
  dsimp only at hs0
  rw [hF] at hs0
  have y0 := hp1.cell 0
  have y1 := hp1.cell 1
  have y2 := hp1.cell 2
  simp at y0 y1 y2
  have z0 := hz1.cell 0
  have z1 := hz1.cell 1
  have z2 := hz1.cell 2
  have z3 := hz1.cell 3
  have z4 := hz1.cell 4
  simp at z0 z1 z2 z3 z4
  have hi := IntWalk.i64_in ((A.length : Int) + 1) (by omega)
  have HW1 := Lib.hid hw1
  have HC1 := Lib.hid hc1
  have HFI := Lib.hid hfi
  have HF := Lib.hid hF
  have HA := Lib.hid hA
  clear hw1 hc1 hfi hF hA
  clear hL hr hp1 hz1
  by_cases h1 : kd < 65 ∨ kd > 90 ∨ nm < 97 ∨ nm > 122
  · rw [if_pos h1] at hs0
    have hq : decide ((kd.toNat : Int) < 65) = true ∨ (decide ((kd.toNat : Int) < 65) = false ∧ decide ((kd.toNat : Int) > 90) = true) ∨ (decide ((kd.toNat : Int) < 65) = false ∧ decide ((kd.toNat : Int) > 90) = false ∧ decide ((nm.toNat : Int) < 97) = true) ∨ (decide ((kd.toNat : Int) < 65) = false ∧ decide ((kd.toNat : Int) > 90) = false ∧ decide ((nm.toNat : Int) < 97) = false ∧ decide ((nm.toNat : Int) > 122) = true) := by
      have : (65 : UInt8).toNat = 65 := rfl
      have : (90 : UInt8).toNat = 90 := rfl
      have : (97 : UInt8).toNat = 97 := rfl
      have : (122 : UInt8).toNat = 122 := rfl
      simp only [UInt8.lt_iff_toNat_lt, gt_iff_lt] at h1
      simp only [decide_eq_true_eq, decide_eq_false_iff_not]
      omega
    have HE := Lib.hid hs0
    clear hs0
    clear h1
    rcases hq with q1 | ⟨q1, q2⟩ | ⟨q1, q2, q3⟩ | ⟨q1, q2, q3, q4⟩
    all_goals
      go_enter Tryz.func47, Tryz.ntmps47
      go_upto_region 2 with fail
      rw [← HW1.out]
      go_wp2_with fail
      go_ret
      rw [HE.out]
      exact ⟨rfl, HC1.out⟩
  rw [if_neg h1] at hs0
  have hq : decide ((kd.toNat : Int) < 65) = false ∧ decide ((kd.toNat : Int) > 90) = false ∧ decide ((nm.toNat : Int) < 97) = false ∧ decide ((nm.toNat : Int) > 122) = false := by
    have : (65 : UInt8).toNat = 65 := rfl
    have : (90 : UInt8).toNat = 90 := rfl
    have : (97 : UInt8).toNat = 97 := rfl
    have : (122 : UInt8).toNat = 122 := rfl
    simp only [UInt8.lt_iff_toNat_lt, gt_iff_lt] at h1
    simp only [decide_eq_false_iff_not]
    omega
  obtain ⟨q1, q2, q3, q4⟩ := hq
  clear h1
  by_cases h1 : F ≠ (A.length : Int)
  · rw [if_pos h1] at hs0
    have q5 : (F != (A.length : Int)) = true := bne_iff_ne.2 h1
    have HE := Lib.hid hs0
    clear hs0
    clear h1
    go_enter Tryz.func47, Tryz.ntmps47
    go_upto_region 2 with fail
    rw [← HW1.out]
    go_wp2_with fail
    refine HFI.out.mono ?_
    rintro e w2 ⟨rfl, h6⟩
    have z0 := px_chg h6 (by simp) z0
    have z1 := px_chg h6 (by simp) z1
    have z2 := px_chg h6 (by simp) z2
    have z3 := px_chg h6 (by simp) z3
    have z4 := px_chg h6 (by simp) z4
    have y0 := px_chg h6 (by simp) y0
    have hc := HC1.out.then h6
    have HC := Lib.hid hc
    clear hc
    clear h6
    go_wp2_with fail
    go_ret
    rw [HE.out]
    exact ⟨rfl, HC.out⟩
  rw [if_neg h1] at hs0
  have q5 : (F != (A.length : Int)) = false := by unfold bne; rw [Decidable.not_not.1 h1]; simp
  clear h1
  cases no with
  | true =>
    by_cases h0 : A.length = 0
    · have q6 : ((A.length : Int) == 0) = true := by rw [h0]; rfl
      rw [if_pos ⟨rfl, .inl h0⟩] at hs0
      have HE := Lib.hid hs0
      clear hs0
      clear h0
      go_enter Tryz.func47, Tryz.ntmps47
      go_upto_region 2 with fail
      rw [← HW1.out]
      go_wp2_with fail
      refine HFI.out.mono ?_
      rintro e w2 ⟨rfl, h6⟩
      have z0 := px_chg h6 (by simp) z0
      have z1 := px_chg h6 (by simp) z1
      have z2 := px_chg h6 (by simp) z2
      have z3 := px_chg h6 (by simp) z3
      have z4 := px_chg h6 (by simp) z4
      have y0 := px_chg h6 (by simp) y0
      have hc := HC1.out.then h6
      have HC := Lib.hid hc
      clear hc
      clear h6
      go_wp2_with fail
      go_ret
      rw [HE.out]
      exact ⟨rfl, HC.out⟩
    have q6 : ((A.length : Int) == 0) = false := by rw [beq_eq_false_iff_ne]; omega
    by_cases h2 : A.length + 1 = L.length
    · have q7 : ((A.length : Int) + 1 == (L.length : Int)) = true := by rw [beq_iff_eq]; omega
      rw [if_pos ⟨rfl, .inr h2⟩] at hs0
      have HE := Lib.hid hs0
      clear hs0
      clear h0 h2
      go_enter Tryz.func47, Tryz.ntmps47
      go_upto_region 2 with fail
      rw [← HW1.out]
      go_wp2_with fail
      refine HFI.out.mono ?_
      rintro e w2 ⟨rfl, h6⟩
      have z0 := px_chg h6 (by simp) z0
      have z1 := px_chg h6 (by simp) z1
      have z2 := px_chg h6 (by simp) z2
      have z3 := px_chg h6 (by simp) z3
      have z4 := px_chg h6 (by simp) z4
      have y0 := px_chg h6 (by simp) y0
      have hc := HC1.out.then h6
      have HC := Lib.hid hc
      clear hc
      clear h6
      go_wp2_with fail
      go_ret
      rw [HE.out]
      exact ⟨rfl, HC.out⟩
    have q7 : ((A.length : Int) + 1 == (L.length : Int)) = false := by rw [beq_eq_false_iff_ne]; omega
    rw [if_neg (fun h => h.2.elim h0 h2)] at hs0
    by_cases h3 : mn = 1
    · have q8 : (mn != 1) = false := by simp [h3]
      by_cases h4 : mx = 1
      · have q9 : (mx != 1) = false := by simp [h4]
        have p6 : decide (mn < 1) = false := by simp; omega
        have p7 : decide (mx < mn) = false := by simp; omega
        have p8 : decide (mx > 4) = false := by simp; omega
        rw [if_neg (by omega), if_neg (by omega)] at hs0
        have HE := Lib.hid hs0
        clear hs0
        clear h0 h2 h3 h4
        go_enter Tryz.func47, Tryz.ntmps47
        go_upto_region 2 with fail
        rw [← HW1.out]
        go_wp2_with fail
        refine HFI.out.mono ?_
        rintro e w2 ⟨rfl, h6⟩
        have z0 := px_chg h6 (by simp) z0
        have z1 := px_chg h6 (by simp) z1
        have z2 := px_chg h6 (by simp) z2
        have z3 := px_chg h6 (by simp) z3
        have z4 := px_chg h6 (by simp) z4
        have y0 := px_chg h6 (by simp) y0
        have hc := HC1.out.then h6
        have HC := Lib.hid hc
        clear hc
        clear h6
        go_wp2_with fail
        go_ret
        rw [HE.out]
        exact ⟨rfl, HC.out⟩
      · have q9 : (mx != 1) = true := by simp [h4]
        rw [if_pos ⟨rfl, .inr h4⟩] at hs0
        have HE := Lib.hid hs0
        clear hs0
        clear h0 h2 h3 h4
        go_enter Tryz.func47, Tryz.ntmps47
        go_upto_region 2 with fail
        rw [← HW1.out]
        go_wp2_with fail
        refine HFI.out.mono ?_
        rintro e w2 ⟨rfl, h6⟩
        have z0 := px_chg h6 (by simp) z0
        have z1 := px_chg h6 (by simp) z1
        have z2 := px_chg h6 (by simp) z2
        have z3 := px_chg h6 (by simp) z3
        have z4 := px_chg h6 (by simp) z4
        have y0 := px_chg h6 (by simp) y0
        have hc := HC1.out.then h6
        have HC := Lib.hid hc
        clear hc
        clear h6
        go_wp2_with fail
        go_ret
        rw [HE.out]
        exact ⟨rfl, HC.out⟩
    · have q8 : (mn != 1) = true := by simp [h3]
      rw [if_pos ⟨rfl, .inl h3⟩] at hs0
      have HE := Lib.hid hs0
      clear hs0
      clear h0 h2 h3
      go_enter Tryz.func47, Tryz.ntmps47
      go_upto_region 2 with fail
      rw [← HW1.out]
      go_wp2_with fail
      refine HFI.out.mono ?_
      rintro e w2 ⟨rfl, h6⟩
      have z0 := px_chg h6 (by simp) z0
      have z1 := px_chg h6 (by simp) z1
      have z2 := px_chg h6 (by simp) z2
      have z3 := px_chg h6 (by simp) z3
      have z4 := px_chg h6 (by simp) z4
      have y0 := px_chg h6 (by simp) y0
      have hc := HC1.out.then h6
      have HC := Lib.hid hc
      clear hc
      clear h6
      go_wp2_with fail
      go_ret
      rw [HE.out]
      exact ⟨rfl, HC.out⟩
  | false =>
    rw [if_neg (fun h => by cases h.1), if_neg (fun h => by cases h.1)] at hs0
    by_cases h3 : mn < 1
    · have p6 : decide (mn < 1) = true := by simp; omega
      rw [if_pos (.inl h3)] at hs0
      have HE := Lib.hid hs0
      clear hs0
      clear h3
      go_enter Tryz.func47, Tryz.ntmps47
      go_upto_region 2 with fail
      rw [← HW1.out]
      go_wp2_with fail
      refine HFI.out.mono ?_
      rintro e w2 ⟨rfl, h6⟩
      have z0 := px_chg h6 (by simp) z0
      have z1 := px_chg h6 (by simp) z1
      have z2 := px_chg h6 (by simp) z2
      have z3 := px_chg h6 (by simp) z3
      have z4 := px_chg h6 (by simp) z4
      have y0 := px_chg h6 (by simp) y0
      have hc := HC1.out.then h6
      have HC := Lib.hid hc
      clear hc
      clear h6
      go_wp2_with fail
      go_ret
      rw [HE.out]
      exact ⟨rfl, HC.out⟩
    have p6 : decide (mn < 1) = false := by simp; omega
    by_cases h4 : mx < mn
    · have p7 : decide (mx < mn) = true := by simp; omega
      rw [if_pos (.inr (.inl h4))] at hs0
      have HE := Lib.hid hs0
      clear hs0
      clear h3 h4
      go_enter Tryz.func47, Tryz.ntmps47
      go_upto_region 2 with fail
      rw [← HW1.out]
      go_wp2_with fail
      refine HFI.out.mono ?_
      rintro e w2 ⟨rfl, h6⟩
      have z0 := px_chg h6 (by simp) z0
      have z1 := px_chg h6 (by simp) z1
      have z2 := px_chg h6 (by simp) z2
      have z3 := px_chg h6 (by simp) z3
      have z4 := px_chg h6 (by simp) z4
      have y0 := px_chg h6 (by simp) y0
      have hc := HC1.out.then h6
      have HC := Lib.hid hc
      clear hc
      clear h6
      go_wp2_with fail
      go_ret
      rw [HE.out]
      exact ⟨rfl, HC.out⟩
    have p7 : decide (mx < mn) = false := by simp; omega
    by_cases h5 : mx > 4
    · have p8 : decide (mx > 4) = true := by simp; omega
      rw [if_pos (.inr (.inr h5))] at hs0
      have HE := Lib.hid hs0
      clear hs0
      clear h3 h4 h5
      go_enter Tryz.func47, Tryz.ntmps47
      go_upto_region 2 with fail
      rw [← HW1.out]
      go_wp2_with fail
      refine HFI.out.mono ?_
      rintro e w2 ⟨rfl, h6⟩
      have z0 := px_chg h6 (by simp) z0
      have z1 := px_chg h6 (by simp) z1
      have z2 := px_chg h6 (by simp) z2
      have z3 := px_chg h6 (by simp) z3
      have z4 := px_chg h6 (by simp) z4
      have y0 := px_chg h6 (by simp) y0
      have hc := HC1.out.then h6
      have HC := Lib.hid hc
      clear hc
      clear h6
      go_wp2_with fail
      go_ret
      rw [HE.out]
      exact ⟨rfl, HC.out⟩
    · have p8 : decide (mx > 4) = false := by simp; omega
      rw [if_neg (by omega)] at hs0
      have HE := Lib.hid hs0
      clear hs0
      clear h3 h4 h5
      go_enter Tryz.func47, Tryz.ntmps47
      go_upto_region 2 with fail
      rw [← HW1.out]
      go_wp2_with fail
      refine HFI.out.mono ?_
      rintro e w2 ⟨rfl, h6⟩
      have z0 := px_chg h6 (by simp) z0
      have z1 := px_chg h6 (by simp) z1
      have z2 := px_chg h6 (by simp) z2
      have z3 := px_chg h6 (by simp) z3
      have z4 := px_chg h6 (by simp) z4
      have y0 := px_chg h6 (by simp) y0
      have hc := HC1.out.then h6
      have HC := Lib.hid hc
      clear hc
      clear h6
      go_wp2_with fail
      go_ret
      rw [HE.out]
      exact ⟨rfl, HC.out⟩
end Go.Proofs.YtjloddlkleileaaGreatDoor
