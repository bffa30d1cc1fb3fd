/-
  The document's plan: what is wrong with a condition.
-/
import Derived.Test.YtjloddlkleileaaGreatDoorPlnE
namespace Go.Proofs.YtjloddlkleileaaGreatDoor
open Go.RowKit
set_option linter.unusedVariables false
set_option linter.unusedSimpArgs false

set_option maxRecDepth 100000 in
set_option maxHeartbeats 4000000 in
theorem rq_cond (L : List PStepV) (c : PCondV) (sv cv : Value) (n : Int) (w : World) (hL : Lst rstepC w sv L) (hl : L.length ≤ 4096) : Calls Tryz.prog 48 #[.agg #[sv, cv, .int .i64 n], .agg #[bV c.left, .int .i64 c.op, bV c.right, .int .i64 c.add]] w (NumAt' w (condBad2 L c)) := by
  obtain ⟨a, cap, rfl, hlc, hr⟩ := rstep_at hL
  obtain ⟨w1, hw1⟩ : ∃ w1, w1 = (w.alloc (.cells #[.slice a L.length cap, cv, .int .i64 n] 75)).alloc (.cells #[bV c.left, .int .i64 c.op, bV c.right, .int .i64 c.add] 135) := ⟨_, rfl⟩
  have hc1 : Chg (fun _ => False) w w1 := by rw [hw1]; ((repeat (first | exact Chg.refl _ _ | assumption | refine Chg.drewN ?_ _ | refine Chg.drew ?_ | refine Chg.alloc ?_ _ | refine Chg.setCell ?_ (by first | (simp; done) | (simp; omega) | (intro h; simp at h; omega)) _)))
  obtain ⟨bp, hbp⟩ : ∃ b, w.heap.size = b := ⟨_, rfl⟩
  obtain ⟨bc, hbc⟩ : ∃ b, bp + 1 = b := ⟨_, rfl⟩
  have hp1 : Blk w1 bp 75 #[.slice a L.length cap, cv, .int .i64 n] := by rw [hw1, ← hbp]; exact (Blk.new _ _ _).alloc _
  have hz1 : Blk w1 bc 135 #[bV c.left, .int .i64 c.op, bV c.right, .int .i64 c.add] := by rw [hw1, ← hbc, ← hbp]; exact Blk.new1 _ _ _ _
  have hL1 := hL.same hc1
  have hfind := fun (d : UInt8) W (hW : Chg (fun _ => False) w1 W) => rq_find L (.slice a L.length cap) cv n d W (hL1.same hW) hl
  have hr1 := findP_range L c.left
  have hr2 := findP_range L c.right
  obtain ⟨F1, hF1⟩ : ∃ F, findP L c.left = F := ⟨_, rfl⟩
  obtain ⟨F2, hF2⟩ : ∃ F, findP L c.right = F := ⟨_, rfl⟩
  have he : condBad2 L c = condBad2 L c := rfl
  conv at he => rhs; unfold condBad2
  rw [hF1, hF2] at he
  rw [hF1] at hr1
  rw [hF2] at hr2
  have hfind1 : ∀ W, Chg (fun _ => False) w1 W → Calls Tryz.prog 49 #[.agg #[.slice a L.length cap, cv, .int .i64 n], bV c.left] W (NumAt' W F1) := fun W hW => by rw [← hF1]; exact hfind c.left W hW
  have hfind2 : ∀ W, Chg (fun _ => False) w1 W → Calls Tryz.prog 49 #[.agg #[.slice a L.length cap, cv, .int .i64 n], bV c.right] W (NumAt' W F2) := fun W hW => by rw [← hF2]; exact hfind c.right W hW
  obtain ⟨lf, op, rt, ad⟩ := c
  dsimp only at *
  have y0 := hp1.cell 0
  have y1 := hp1.cell 1
  have y2 := hp1.cell 2
  have z0 := hz1.cell 0
  have z1 := hz1.cell 1
  have z2 := hz1.cell 2
  have z3 := hz1.cell 3
  simp at y0 y1 y2 z0 z1 z2 z3
  have HW1 := Lib.hid hw1
  have HC1 := Lib.hid hc1
  have HFIND1 := Lib.hid hfind1
  have HFIND2 := Lib.hid hfind2
  have HF1 := Lib.hid hF1
  have HF2 := Lib.hid hF2
  have HE := Lib.hid he
  have HBP := Lib.hid hbp
  have HBC := Lib.hid hbc
  have HP1 := Lib.hid hp1
  have HZ1 := Lib.hid hz1
  have HL1 := Lib.hid hL1
  clear hw1 hc1 hfind1 hfind2 hF1 hF2 he hbp hbc hp1 hz1 hL1
  have HC := HC1
  clear hL hfind hr
  go_enter Tryz.func48, Tryz.ntmps48
  go_upto_region 1 with fail
  rw [← HW1.out, HBP.out, HBC.out]
  by_cases h1 : op < 0 ∨ op > 5
  · have he := HE.out
    rw [if_pos h1] at he
    have HE := Lib.hid he
    clear he
    have hq : decide (op < 0) = true ∨ decide (op < 0) = false ∧ decide (op > 5) = true := by
      simp only [decide_eq_true_eq, decide_eq_false_iff_not]
      omega
    clear h1
    rcases hq with q1 | ⟨q1, q2⟩
    all_goals
      go_wp2_with fail
      go_ret
      rw [HE.out]
      exact ⟨rfl, HC.out⟩
  have he := HE.out
  rw [if_neg h1] at he
  have q1 : decide (op < 0) = false := by simp; omega
  have q2 : decide (op > 5) = false := by simp; omega
  clear h1 HE
  by_cases h1 : ad > 9007199254740992 ∨ ad < -9007199254740992
  · rw [if_pos h1] at he
    have HE := Lib.hid he
    clear he
    have hq : decide (ad > 9007199254740992) = true ∨ decide (ad > 9007199254740992) = false ∧ decide (ad < -9007199254740992) = true := by
      simp only [decide_eq_true_eq, decide_eq_false_iff_not]
      omega
    clear h1
    rcases hq with q3 | ⟨q3, q4⟩
    all_goals
      go_wp2_with fail
      go_ret
      rw [HE.out]
      exact ⟨rfl, HC.out⟩
  rw [if_neg h1] at he
  have q3 : decide (ad > 9007199254740992) = false := by simp; omega
  have q4 : decide (ad < -9007199254740992) = false := by simp; omega
  clear h1
  have HE := Lib.hid he
  clear he
  go_wp2_with fail
  refine (HFIND1.out _ (Chg.refl _ _)).mono ?_
  rintro e w2 ⟨rfl, h6⟩
  have y0 := px_chg h6 (by simp) y0
  have y1 := px_chg h6 (by simp) y1
  have y2 := px_chg h6 (by simp) y2
  have z2 := px_chg h6 (by simp) z2
  have hc := HC1.out.then h6
  have hbv : bV rt = .int .u8 (rt.toNat : Int) := rfl
  rw [hbv] at z2
  clear HC hbv
  have HC := Lib.hid hc
  have H6 := Lib.hid h6
  clear hc h6
  have hrt : ((rt.toNat : Int) == 0) = decide (rt = 0) := by
    by_cases h : rt = 0
    · subst h; rfl
    · rw [decide_eq_false h, beq_eq_false_iff_ne]
      intro e
      exact h (UInt8.toNat_inj.1 (by have : (0 : UInt8).toNat = 0 := rfl; omega))
  have he := HE.out
  clear HE
  by_cases h0 : F1 < 0
  · rw [if_pos h0] at he
    have q5 : decide (F1 < 0) = true := by simp; omega
    have HE := Lib.hid he
    clear he
    clear h0 hrt
    go_wp2_with fail
    go_ret
    rw [HE.out]
    exact ⟨rfl, HC.out⟩
  rw [if_neg h0] at he
  have q5 : decide (F1 < 0) = false := by simp; omega
  by_cases hr0 : rt = 0
  · rw [if_pos hr0] at he
    have q6 : ((rt.toNat : Int) == 0) = true := by rw [hrt]; exact decide_eq_true hr0
    have HE := Lib.hid he
    clear he
    clear h0 hrt hr0
    go_wp2_with fail
    go_ret
    rw [HE.out]
    exact ⟨rfl, HC.out⟩
  rw [if_neg hr0] at he
  have q6 : ((rt.toNat : Int) == 0) = false := by rw [hrt]; exact decide_eq_false hr0
  clear hrt hr0
  have HE := Lib.hid he
  clear he
  go_wp2_with fail
  refine (HFIND2.out _ H6.out).mono ?_
  rintro e w3 ⟨rfl, h7⟩
  have y0 := px_chg h7 (by simp) y0
  have hc := HC.out.then h7
  have hL3 := HL1.out.same (H6.out.then h7)
  clear HC y1 y2 z0 z1 z2 z3
  obtain ⟨a', cap', e', _, hr⟩ := rstep_at hL3
  injection e' with ea _ ec
  subst ea ec
  have HC := Lib.hid hc
  clear hc
  have he := HE.out
  clear HE h7 hL3
  by_cases h2 : F2 < 0
  · rw [if_pos h2] at he
    have q8 : decide (F2 < 0) = true := by simp; omega
    have HE := Lib.hid he
    clear he
    clear h0 h2 hr
    go_wp2_with fail
    go_ret
    rw [HE.out]
    exact ⟨rfl, HC.out⟩
  rw [if_neg h2] at he
  have q8 : decide (F2 < 0) = false := by simp; omega
  obtain ⟨i1, rfl⟩ : ∃ i : Nat, F1 = (i : Int) := ⟨F1.toNat, by omega⟩
  obtain ⟨i2, rfl⟩ : ∃ i : Nat, F2 = (i : Int) := ⟨F2.toNat, by omega⟩
  have hl1 : i1 < L.length := by omega
  have hl2 : i2 < L.length := by omega
  obtain ⟨x1, hA1, hB1, _⟩ := split_at' hl1
  obtain ⟨x2, hA2, hB2, _⟩ := split_at' hl2
  have hn1 := noAt_at hA1
  have hn2 := noAt_at hA2
  obtain ⟨b1, rfl, _, _, _, a1, _, _⟩ := hr _ _ _ hA1
  obtain ⟨b2, eb, _, _, _, a2, _, _⟩ := hr _ _ _ hA2
  injection eb with eb
  injection eb with eb
  subst eb
  rw [hB1] at a1 hn1
  rw [hB2] at a2 hn2
  rw [hn1, hn2] at he
  clear hr1 hr2 hA1 hA2 hB1 hB2 hn1 hn2 hr h0 h2
  cases hb1 : x1.no
  · rw [hb1] at a1 he
    rw [if_neg (fun h => by cases h.1)] at he
    cases hb2 : x2.no
    · rw [hb2] at a2 he
      rw [if_neg (fun h => by cases h.1)] at he
      have HE := Lib.hid he
      clear he
      clear hb1 hb2
      go_wp2_with fail
      go_ret
      rw [HE.out]
      exact ⟨rfl, HC.out⟩
    · rw [hb2] at a2 he
      by_cases hg : (i1 : Int) ≥ (i2 : Int)
      · rw [if_pos ⟨rfl, .inr hg⟩] at he
        have p1 : decide ((i1 : Int) ≥ (i2 : Int)) = true := decide_eq_true hg
        have p2 : decide (i1 ≥ i2) = true := decide_eq_true (by omega)
        have HE := Lib.hid he
        clear he
        clear hb1 hb2
        go_wp2_with fail
        go_ret
        rw [HE.out]
        exact ⟨rfl, HC.out⟩
      · rw [if_neg (fun h => h.2.elim (fun h => by cases h) hg)] at he
        have p1 : decide ((i1 : Int) ≥ (i2 : Int)) = false := decide_eq_false hg
        have p2 : decide (i1 ≥ i2) = false := decide_eq_false (by omega)
        have p3 : ¬ i2 ≤ i1 := by omega
        have HE := Lib.hid he
        clear he
        clear hb1 hb2
        go_wp2_with fail
        go_ret
        rw [HE.out]
        exact ⟨rfl, HC.out⟩
  · rw [hb1] at a1 he
    cases hb2 : x2.no
    · rw [hb2] at a2 he
      by_cases hg : (i2 : Int) ≥ (i1 : Int)
      · rw [if_pos ⟨rfl, .inr hg⟩] at he
        have p1 : decide ((i2 : Int) ≥ (i1 : Int)) = true := decide_eq_true hg
        have p2 : decide (i2 ≥ i1) = true := decide_eq_true (by omega)
        have HE := Lib.hid he
        clear he
        clear hb1 hb2
        go_wp2_with fail
        go_ret
        rw [HE.out]
        exact ⟨rfl, HC.out⟩
      · rw [if_neg (fun h => h.2.elim (fun h => by cases h) hg), if_neg (fun h => by cases h.1)] at he
        have p1 : decide ((i2 : Int) ≥ (i1 : Int)) = false := decide_eq_false hg
        have p2 : decide (i2 ≥ i1) = false := decide_eq_false (by omega)
        have p3 : ¬ i1 ≤ i2 := by omega
        have HE := Lib.hid he
        clear he
        clear hb1 hb2
        go_wp2_with fail
        go_ret
        rw [HE.out]
        exact ⟨rfl, HC.out⟩
    · rw [hb2] at a2 he
      rw [if_pos ⟨rfl, .inl rfl⟩] at he
      have HE := Lib.hid he
      clear he
      clear hb1 hb2
      go_wp2_with fail
      go_ret
      rw [HE.out]
      exact ⟨rfl, HC.out⟩
end Go.Proofs.YtjloddlkleileaaGreatDoor
