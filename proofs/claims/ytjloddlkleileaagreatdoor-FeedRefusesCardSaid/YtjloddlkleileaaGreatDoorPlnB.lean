/-
  The program's plan: what is wrong with a step.
-/
import Derived.Test.YtjloddlkleileaaGreatDoorPlnA
namespace Go.Proofs.YtjloddlkleileaaGreatDoor
open Go.RowKit
set_option linter.unusedVariables false
set_option linter.unusedSimpArgs false

def betw (b x y : UInt8) : Bool := decide ((x.toNat : Int) ≤ (b.toNat : Int)) && decide ((b.toNat : Int) ≤ (y.toNat : Int))
theorem betw_iff {b x y : UInt8} : betw b x y = true ↔ x ≤ b ∧ b ≤ y := by
  unfold betw
  simp only [Bool.and_eq_true, decide_eq_true_eq, UInt8.le_iff_toNat_le]
  omega
/-- A call that makes memory of its own, and gives a number. -/
def NumAt' (w : World) (n : Int) (e : Ending) (w' : World) : Prop := e = .returned (.int .i64 n) ∧ Chg (fun _ => False) w w'
/- the walk's head: behind the step's copy -/
set_option maxRecDepth 100000 in
set_option maxHeartbeats 4000000 in
theorem pl_step (L A B : List PStepV) (x : PStepV) (sv cv : Value) (n : Int) (w : World) (hL : Lst pstepC w sv L) (hA : L = A ++ x :: B) (hl : L.length ≤ 4096) : Calls Tryz.prog 256 #[.agg #[sv, cv, .int .i64 n], .int .i64 (A.length : Int)] w (NumAt' w (stepBad L A.length x)) := by
  obtain ⟨a, cap, rfl, hlc, hr⟩ := pstep_at hL
  obtain ⟨b0, rfl, hb0, x0, x1, x2, x3, x4⟩ := hr A x B hA
  have hlt : A.length < L.length := by rw [hA]; simp
  obtain ⟨w1, hw1⟩ : ∃ w1, w1 = (w.alloc (.cells #[.slice (some ⟨b0, 0, none⟩) L.length cap, cv, .int .i64 n] 242)).alloc (.cells #[bV x.kind, bV x.name, .bool x.no, .int .i64 x.min, .int .i64 x.max] 342) := ⟨_, rfl⟩
  have hc1 : Chg (fun _ => False) w w1 := by rw [hw1]; ((repeat (first | exact Chg.refl _ _ | assumption | refine Chg.drewN ?_ _ | refine Chg.drew ?_ | refine Chg.alloc ?_ _ | refine Chg.setCell ?_ (by first | (simp; done) | (simp; omega) | (intro h; simp at h; omega)) _)))
  have hp1 : Blk w1 w.heap.size 242 #[.slice (some ⟨b0, 0, none⟩) L.length cap, cv, .int .i64 n] := by rw [hw1]; exact (Blk.new _ _ _).alloc _
  have hz1 : Blk w1 (w.heap.size + 1) 342 #[bV x.kind, bV x.name, .bool x.no, .int .i64 x.min, .int .i64 x.max] := by rw [hw1]; exact Blk.new1 _ _ _ _
  have hfi := pl_find L (.slice (some ⟨b0, 0, none⟩) L.length cap) cv n x.name w1 (hL.same hc1) hl
  obtain ⟨F, hF⟩ : ∃ F, findP L x.name = F := ⟨_, rfl⟩
  rw [hF] at hfi
  obtain ⟨bk, hbk⟩ : ∃ b, betw x.kind 65 90 = b := ⟨_, rfl⟩
  obtain ⟨bn, hbn⟩ : ∃ b, betw x.name 97 122 = b := ⟨_, rfl⟩
  have hlk : ∀ W, Calls Tryz.prog 336 #[bV x.kind, .int .u8 65, .int .u8 90] W fun e w' => e = .returned (.bool bk) ∧ W = w' := fun W => by rw [← hbk]; exact pl_letter x.kind 65 90 W
  have hln : ∀ W, Calls Tryz.prog 336 #[bV x.name, .int .u8 97, .int .u8 122] W fun e w' => e = .returned (.bool bn) ∧ W = w' := fun W => by rw [← hbn]; exact pl_letter x.name 97 122 W
  have hkk : bk = true ↔ 65 ≤ x.kind ∧ x.kind ≤ 90 := by rw [← hbk]; exact betw_iff
  have hnn : bn = true ↔ 97 ≤ x.name ∧ x.name ≤ 122 := by rw [← hbn]; exact betw_iff
  have y0 := hp1.cell 0
  have y1 := hp1.cell 1
  have y2 := hp1.cell 2
  simp at y0 y1 y2
  have z0 := hz1.cell 0
  have z1 := hz1.cell 1
  have z2 := hz1.cell 2
  have z3 := hz1.cell 3
  have z4 := hz1.cell 4
  simp at z0 z1 z2 z3 z4
  have hi := IntWalk.i64_in ((L.length : Int) - 1) (by omega)
  have HW1 := Lib.hid hw1
  have HC1 := Lib.hid hc1
  have HFI := Lib.hid hfi
  have HF := Lib.hid hF
  have HLK := Lib.hid hlk
  have HLN := Lib.hid hln
  have HKK := Lib.hid hkk
  have HNN := Lib.hid hnn
  have HA := Lib.hid hA
  clear hw1 hc1 hfi hF hlk hln hkk hnn hA
  clear hL hr hp1 hz1 hbk hbn
  cases hk : bk with
  | false =>
    subst hk
    have he : stepBad L A.length x = 20 := by unfold stepBad; rw [if_pos (.inl (fun h => by have := HKK.out.2 h; cases this))]
    have HE := Lib.hid he
    clear he
    go_enter Tryz.func256, Tryz.ntmps256
    go_upto_region 2 with fail
    rw [← HW1.out]
    go_wp2_with fail
    refine (HLK.out _).mono ?_
    rintro e wl ⟨rfl, rfl⟩
    go_wp2_with fail
    go_ret
    rw [HE.out]
    exact ⟨rfl, HC1.out⟩
  | true =>
  subst hk
  cases hk : bn with
  | false =>
    subst hk
    have he : stepBad L A.length x = 20 := by unfold stepBad; rw [if_pos (.inr (fun h => by have := HNN.out.2 h; cases this))]
    have HE := Lib.hid he
    clear he
    go_enter Tryz.func256, Tryz.ntmps256
    go_upto_region 2 with fail
    rw [← HW1.out]
    go_wp2_with fail
    refine (HLK.out _).mono ?_
    rintro e wl ⟨rfl, rfl⟩
    go_wp2_with fail
    refine (HLN.out _).mono ?_
    rintro e wl ⟨rfl, rfl⟩
    go_wp2_with fail
    go_ret
    rw [HE.out]
    exact ⟨rfl, HC1.out⟩
  | true =>
  subst hk
  have hs1 : stepBad L A.length x = if F < (A.length : Int) then 21 else if x.no = true ∧ (A.length = 0 ∨ A.length + 1 = L.length) then 23 else if (x.no = true ∧ (x.min ≠ 1 ∨ x.max ≠ 1)) ∨ x.min < 1 ∨ x.min > x.max ∨ x.max > 4 then 22 else 0 := by
    unfold stepBad
    rw [if_neg (fun h => h.elim (fun h => h (HKK.out.1 rfl)) (fun h => h (HNN.out.1 rfl))), HF.out]
  by_cases hq : F < (A.length : Int)
  · have q1 : decide (F < (A.length : Int)) = true := decide_eq_true hq
    have he := hs1
    rw [if_pos hq] at he
    have HE := Lib.hid he
    clear he
    clear hs1
    go_enter Tryz.func256, Tryz.ntmps256
    go_upto_region 2 with fail
    rw [← HW1.out]
    go_wp2_with fail
    refine (HLK.out _).mono ?_
    rintro e wl ⟨rfl, rfl⟩
    go_wp2_with fail
    refine (HLN.out _).mono ?_
    rintro e wl ⟨rfl, rfl⟩
    go_wp2_with fail
    refine HFI.out.mono ?_
    rintro e w2 ⟨rfl, h6⟩
    have z0 := px_chg h6 (by simp) z0
    have z1 := px_chg h6 (by simp) z1
    have z2 := px_chg h6 (by simp) z2
    have z3 := px_chg h6 (by simp) z3
    have z4 := px_chg h6 (by simp) z4
    have y0 := px_chg h6 (by simp) y0
    have hc := HC1.out.then h6
    have HC := Lib.hid hc
    clear hc
    clear h6
    go_wp2_with fail
    go_ret
    rw [HE.out]
    exact ⟨rfl, HC.out⟩
  rw [if_neg hq] at hs1
  have q1 : decide (F < (A.length : Int)) = false := decide_eq_false hq
  obtain ⟨kd, nm, no, mn, mx⟩ := x
  dsimp only at *
  cases no with
  | true =>
    by_cases h0 : A.length = 0
    · have q2 : ((A.length : Int) == 0) = true := by rw [h0]; rfl
      have he := hs1
      rw [if_pos ⟨rfl, .inl h0⟩] at he
      have HE := Lib.hid he
      clear he
      clear hs1 h0
      go_enter Tryz.func256, Tryz.ntmps256
      go_upto_region 2 with fail
      rw [← HW1.out]
      go_wp2_with fail
      refine (HLK.out _).mono ?_
      rintro e wl ⟨rfl, rfl⟩
      go_wp2_with fail
      refine (HLN.out _).mono ?_
      rintro e wl ⟨rfl, rfl⟩
      go_wp2_with fail
      refine HFI.out.mono ?_
      rintro e w2 ⟨rfl, h6⟩
      have z0 := px_chg h6 (by simp) z0
      have z1 := px_chg h6 (by simp) z1
      have z2 := px_chg h6 (by simp) z2
      have z3 := px_chg h6 (by simp) z3
      have z4 := px_chg h6 (by simp) z4
      have y0 := px_chg h6 (by simp) y0
      have hc := HC1.out.then h6
      have HC := Lib.hid hc
      clear hc
      clear h6
      go_wp2_with fail
      go_ret
      rw [HE.out]
      exact ⟨rfl, HC.out⟩
    have q2 : ((A.length : Int) == 0) = false := by rw [beq_eq_false_iff_ne]; omega
    by_cases h2 : A.length + 1 = L.length
    · have q3 : ((A.length : Int) == (L.length : Int) - 1) = true := by rw [beq_iff_eq]; omega
      have he := hs1
      rw [if_pos ⟨rfl, .inr h2⟩] at he
      have HE := Lib.hid he
      clear he
      clear hs1 h2
      go_enter Tryz.func256, Tryz.ntmps256
      go_upto_region 2 with fail
      rw [← HW1.out]
      go_wp2_with fail
      refine (HLK.out _).mono ?_
      rintro e wl ⟨rfl, rfl⟩
      go_wp2_with fail
      refine (HLN.out _).mono ?_
      rintro e wl ⟨rfl, rfl⟩
      go_wp2_with fail
      refine HFI.out.mono ?_
      rintro e w2 ⟨rfl, h6⟩
      have z0 := px_chg h6 (by simp) z0
      have z1 := px_chg h6 (by simp) z1
      have z2 := px_chg h6 (by simp) z2
      have z3 := px_chg h6 (by simp) z3
      have z4 := px_chg h6 (by simp) z4
      have y0 := px_chg h6 (by simp) y0
      have hc := HC1.out.then h6
      have HC := Lib.hid hc
      clear hc
      clear h6
      go_wp2_with fail
      go_ret
      rw [HE.out]
      exact ⟨rfl, HC.out⟩
    have q3 : ((A.length : Int) == (L.length : Int) - 1) = false := by rw [beq_eq_false_iff_ne]; omega
    rw [if_neg (fun h => h.2.elim h0 h2)] at hs1
    by_cases h3 : mn = 1
    · have q4 : (mn != 1) = false := by simp [h3]
      by_cases h4 : mx = 1
      · have q5 : (mx != 1) = false := by simp [h4]
        have q6 : decide (mn < 1) = false := by simp; omega
        have q7 : decide (mn > mx) = false := by simp; omega
        have q8 : decide (mx > 4) = false := by simp; omega
        have he := hs1
        rw [if_neg (by omega)] at he
        have HE := Lib.hid he
        clear he
        clear hs1 h0 h2 h3 h4
        go_enter Tryz.func256, Tryz.ntmps256
        go_upto_region 2 with fail
        rw [← HW1.out]
        go_wp2_with fail
        refine (HLK.out _).mono ?_
        rintro e wl ⟨rfl, rfl⟩
        go_wp2_with fail
        refine (HLN.out _).mono ?_
        rintro e wl ⟨rfl, rfl⟩
        go_wp2_with fail
        refine HFI.out.mono ?_
        rintro e w2 ⟨rfl, h6⟩
        have z0 := px_chg h6 (by simp) z0
        have z1 := px_chg h6 (by simp) z1
        have z2 := px_chg h6 (by simp) z2
        have z3 := px_chg h6 (by simp) z3
        have z4 := px_chg h6 (by simp) z4
        have y0 := px_chg h6 (by simp) y0
        have hc := HC1.out.then h6
        have HC := Lib.hid hc
        clear hc
        clear h6
        go_wp2_with fail
        go_ret
        rw [HE.out]
        exact ⟨rfl, HC.out⟩
      · have q5 : (mx != 1) = true := by simp [h4]
        have he := hs1
        rw [if_pos (.inl ⟨rfl, .inr h4⟩)] at he
        have HE := Lib.hid he
        clear he
        clear hs1 h0 h2 h3 h4
        go_enter Tryz.func256, Tryz.ntmps256
        go_upto_region 2 with fail
        rw [← HW1.out]
        go_wp2_with fail
        refine (HLK.out _).mono ?_
        rintro e wl ⟨rfl, rfl⟩
        go_wp2_with fail
        refine (HLN.out _).mono ?_
        rintro e wl ⟨rfl, rfl⟩
        go_wp2_with fail
        refine HFI.out.mono ?_
        rintro e w2 ⟨rfl, h6⟩
        have z0 := px_chg h6 (by simp) z0
        have z1 := px_chg h6 (by simp) z1
        have z2 := px_chg h6 (by simp) z2
        have z3 := px_chg h6 (by simp) z3
        have z4 := px_chg h6 (by simp) z4
        have y0 := px_chg h6 (by simp) y0
        have hc := HC1.out.then h6
        have HC := Lib.hid hc
        clear hc
        clear h6
        go_wp2_with fail
        go_ret
        rw [HE.out]
        exact ⟨rfl, HC.out⟩
    · have q4 : (mn != 1) = true := by simp [h3]
      have he := hs1
      rw [if_pos (.inl ⟨rfl, .inl h3⟩)] at he
      have HE := Lib.hid he
      clear he
      clear hs1 h0 h2 h3
      go_enter Tryz.func256, Tryz.ntmps256
      go_upto_region 2 with fail
      rw [← HW1.out]
      go_wp2_with fail
      refine (HLK.out _).mono ?_
      rintro e wl ⟨rfl, rfl⟩
      go_wp2_with fail
      refine (HLN.out _).mono ?_
      rintro e wl ⟨rfl, rfl⟩
      go_wp2_with fail
      refine HFI.out.mono ?_
      rintro e w2 ⟨rfl, h6⟩
      have z0 := px_chg h6 (by simp) z0
      have z1 := px_chg h6 (by simp) z1
      have z2 := px_chg h6 (by simp) z2
      have z3 := px_chg h6 (by simp) z3
      have z4 := px_chg h6 (by simp) z4
      have y0 := px_chg h6 (by simp) y0
      have hc := HC1.out.then h6
      have HC := Lib.hid hc
      clear hc
      clear h6
      go_wp2_with fail
      go_ret
      rw [HE.out]
      exact ⟨rfl, HC.out⟩
  | false =>
    rw [if_neg (fun h => by cases h.1)] at hs1
    have he := hs1
    clear hs1
    by_cases h3 : mn < 1
    · have q6 : decide (mn < 1) = true := by simp; omega
      rw [if_pos (.inr (.inl h3))] at he
      have HE := Lib.hid he
      clear he
      clear h3
      go_enter Tryz.func256, Tryz.ntmps256
      go_upto_region 2 with fail
      rw [← HW1.out]
      go_wp2_with fail
      refine (HLK.out _).mono ?_
      rintro e wl ⟨rfl, rfl⟩
      go_wp2_with fail
      refine (HLN.out _).mono ?_
      rintro e wl ⟨rfl, rfl⟩
      go_wp2_with fail
      refine HFI.out.mono ?_
      rintro e w2 ⟨rfl, h6⟩
      have z0 := px_chg h6 (by simp) z0
      have z1 := px_chg h6 (by simp) z1
      have z2 := px_chg h6 (by simp) z2
      have z3 := px_chg h6 (by simp) z3
      have z4 := px_chg h6 (by simp) z4
      have y0 := px_chg h6 (by simp) y0
      have hc := HC1.out.then h6
      have HC := Lib.hid hc
      clear hc
      clear h6
      go_wp2_with fail
      go_ret
      rw [HE.out]
      exact ⟨rfl, HC.out⟩
    have q6 : decide (mn < 1) = false := by simp; omega
    by_cases h4 : mn > mx
    · have q7 : decide (mn > mx) = true := by simp; omega
      rw [if_pos (.inr (.inr (.inl h4)))] at he
      have HE := Lib.hid he
      clear he
      clear h3 h4
      go_enter Tryz.func256, Tryz.ntmps256
      go_upto_region 2 with fail
      rw [← HW1.out]
      go_wp2_with fail
      refine (HLK.out _).mono ?_
      rintro e wl ⟨rfl, rfl⟩
      go_wp2_with fail
      refine (HLN.out _).mono ?_
      rintro e wl ⟨rfl, rfl⟩
      go_wp2_with fail
      refine HFI.out.mono ?_
      rintro e w2 ⟨rfl, h6⟩
      have z0 := px_chg h6 (by simp) z0
      have z1 := px_chg h6 (by simp) z1
      have z2 := px_chg h6 (by simp) z2
      have z3 := px_chg h6 (by simp) z3
      have z4 := px_chg h6 (by simp) z4
      have y0 := px_chg h6 (by simp) y0
      have hc := HC1.out.then h6
      have HC := Lib.hid hc
      clear hc
      clear h6
      go_wp2_with fail
      go_ret
      rw [HE.out]
      exact ⟨rfl, HC.out⟩
    have q7 : decide (mn > mx) = false := by simp; omega
    by_cases h5 : mx > 4
    · have q8 : decide (mx > 4) = true := by simp; omega
      rw [if_pos (.inr (.inr (.inr h5)))] at he
      have HE := Lib.hid he
      clear he
      clear h3 h4 h5
      go_enter Tryz.func256, Tryz.ntmps256
      go_upto_region 2 with fail
      rw [← HW1.out]
      go_wp2_with fail
      refine (HLK.out _).mono ?_
      rintro e wl ⟨rfl, rfl⟩
      go_wp2_with fail
      refine (HLN.out _).mono ?_
      rintro e wl ⟨rfl, rfl⟩
      go_wp2_with fail
      refine HFI.out.mono ?_
      rintro e w2 ⟨rfl, h6⟩
      have z0 := px_chg h6 (by simp) z0
      have z1 := px_chg h6 (by simp) z1
      have z2 := px_chg h6 (by simp) z2
      have z3 := px_chg h6 (by simp) z3
      have z4 := px_chg h6 (by simp) z4
      have y0 := px_chg h6 (by simp) y0
      have hc := HC1.out.then h6
      have HC := Lib.hid hc
      clear hc
      clear h6
      go_wp2_with fail
      go_ret
      rw [HE.out]
      exact ⟨rfl, HC.out⟩
    · have q8 : decide (mx > 4) = false := by simp; omega
      rw [if_neg (fun h => by rcases h with h | h | h | h; cases h.1; omega; omega; omega)] at he
      have HE := Lib.hid he
      clear he
      clear h3 h4 h5
      go_enter Tryz.func256, Tryz.ntmps256
      go_upto_region 2 with fail
      rw [← HW1.out]
      go_wp2_with fail
      refine (HLK.out _).mono ?_
      rintro e wl ⟨rfl, rfl⟩
      go_wp2_with fail
      refine (HLN.out _).mono ?_
      rintro e wl ⟨rfl, rfl⟩
      go_wp2_with fail
      refine HFI.out.mono ?_
      rintro e w2 ⟨rfl, h6⟩
      have z0 := px_chg h6 (by simp) z0
      have z1 := px_chg h6 (by simp) z1
      have z2 := px_chg h6 (by simp) z2
      have z3 := px_chg h6 (by simp) z3
      have z4 := px_chg h6 (by simp) z4
      have y0 := px_chg h6 (by simp) y0
      have hc := HC1.out.then h6
      have HC := Lib.hid hc
      clear hc
      clear h6
      go_wp2_with fail
      go_ret
      rw [HE.out]
      exact ⟨rfl, HC.out⟩
end Go.Proofs.YtjloddlkleileaaGreatDoor
