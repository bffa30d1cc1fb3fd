/-
  The program's plan: what is wrong with a condition.
-/
import Derived.Test.YtjloddlkleileaaGreatDoorPlnB
import Derived.Deep.RegionHeld3
namespace Go.Proofs.YtjloddlkleileaaGreatDoor
open Go.RowKit
set_option linter.unusedVariables false
set_option linter.unusedSimpArgs false

theorem noAt_at {L A B : List PStepV} {x : PStepV} (h : L = A ++ x :: B) : noAt L (A.length : Int) = x.no := by
  unfold noAt
  rw [h, Int.toNat_natCast, List.getElem?_append_right (Nat.le_refl _), Nat.sub_self]
  rfl
set_option maxRecDepth 100000 in
set_option maxHeartbeats 4000000 in
theorem pl_cond (L : List PStepV) (c : PCondV) (sv cv : Value) (n : Int) (w : World) (hL : Lst pstepC w sv L) (hl : L.length ≤ 4096) : Calls Tryz.prog 257 #[.agg #[sv, cv, .int .i64 n], .agg #[bV c.left, .int .i64 c.op, bV c.right, .int .i64 c.add]] w (NumAt' w (condBad L c)) := by
  obtain ⟨a, cap, rfl, hlc, hr⟩ := pstep_at hL
  obtain ⟨w1, hw1⟩ : ∃ w1, w1 = (w.alloc (.cells #[.slice a L.length cap, cv, .int .i64 n] 242)).alloc (.cells #[bV c.left, .int .i64 c.op, bV c.right, .int .i64 c.add] 350) := ⟨_, rfl⟩
  have hc1 : Chg (fun _ => False) w w1 := by rw [hw1]; ((repeat (first | exact Chg.refl _ _ | assumption | refine Chg.drewN ?_ _ | refine Chg.drew ?_ | refine Chg.alloc ?_ _ | refine Chg.setCell ?_ (by first | (simp; done) | (simp; omega) | (intro h; simp at h; omega)) _)))
  obtain ⟨bp, hbp⟩ : ∃ b, w.heap.size = b := ⟨_, rfl⟩
  obtain ⟨bc, hbc⟩ : ∃ b, bp + 1 = b := ⟨_, rfl⟩
  have hp1 : Blk w1 bp 242 #[.slice a L.length cap, cv, .int .i64 n] := by rw [hw1, ← hbp]; exact (Blk.new _ _ _).alloc _
  have hz1 : Blk w1 bc 350 #[bV c.left, .int .i64 c.op, bV c.right, .int .i64 c.add] := by rw [hw1, ← hbc, ← hbp]; exact Blk.new1 _ _ _ _
  have hL1 := hL.same hc1
  have hfind := fun (d : UInt8) W (hW : Chg (fun _ => False) w1 W) => pl_find L (.slice a L.length cap) cv n d W (hL1.same hW) hl
  have hr1 := findP_range L c.left
  have hr2 := findP_range L c.right
  obtain ⟨F1, hF1⟩ : ∃ F, findP L c.left = F := ⟨_, rfl⟩
  obtain ⟨F2, hF2⟩ : ∃ F, findP L c.right = F := ⟨_, rfl⟩
  have he : condBad L c = condBad L c := rfl
  conv at he => rhs; unfold condBad
  rw [hF1, hF2] at he
  rw [hF1] at hr1
  rw [hF2] at hr2
  have hfind1 : ∀ W, Chg (fun _ => False) w1 W → Calls Tryz.prog 172 #[.agg #[.slice a L.length cap, cv, .int .i64 n], bV c.left] W fun e w' => e = .returned (.int .i64 F1) ∧ Chg (fun _ => False) W w' := fun W hW => by rw [← hF1]; exact hfind c.left W hW
  have hfind2 : ∀ W, Chg (fun _ => False) w1 W → Calls Tryz.prog 172 #[.agg #[.slice a L.length cap, cv, .int .i64 n], bV c.right] W fun e w' => e = .returned (.int .i64 F2) ∧ Chg (fun _ => False) W w' := fun W hW => by rw [← hF2]; exact hfind c.right W hW
  obtain ⟨lf, op, rt, ad⟩ := c
  dsimp only at *
  have y0 := hp1.cell 0
  have y1 := hp1.cell 1
  have y2 := hp1.cell 2
  have z0 := hz1.cell 0
  have z1 := hz1.cell 1
  have z2 := hz1.cell 2
  have z3 := hz1.cell 3
  simp at y0 y1 y2 z0 z1 z2 z3
  have HW1 := Lib.hid hw1
  have HC1 := Lib.hid hc1
  have HFIND1 := Lib.hid hfind1
  have HFIND2 := Lib.hid hfind2
  have HF1 := Lib.hid hF1
  have HF2 := Lib.hid hF2
  have HE := Lib.hid he
  have HBP := Lib.hid hbp
  have HBC := Lib.hid hbc
  have HP1 := Lib.hid hp1
  have HZ1 := Lib.hid hz1
  have HL1 := Lib.hid hL1
  clear hw1 hc1 hfind1 hfind2 hF1 hF2 he hbp hbc hp1 hz1 hL1
  clear hL hfind
  go_enter Tryz.func257, Tryz.ntmps257
  go_upto_region 1 with fail
  rw [← HW1.out, HBP.out, HBC.out]
  go_cut [5, 6] (fun u v wx => u = .int .i64 F1 ∧ v = .int .i64 F2 ∧ Chg (fun _ => False) w1 wx)
  case first =>
    go_region_held3 (fun w' => Chg (fun _ => False) w1 w' ∧ w'.cell? ⟨bp, 0, none⟩ = some (.slice a L.length cap) ∧ w'.cell? ⟨bp, 1, none⟩ = some cv ∧ w'.cell? ⟨bp, 2, none⟩ = some (.int .i64 n) ∧ w'.cell? ⟨bc, 0, none⟩ = some (bV lf) ∧ w'.cell? ⟨bc, 2, none⟩ = some (bV rt))
      ((go_split_ands; (try dsimp only); refine (fun h => ⟨h, px_chg h (by simp) y0, px_chg h (by simp) y1, px_chg h (by simp) y2, px_chg h (by simp) z0, px_chg h (by simp) z2⟩) ?_; (repeat (first | with_reducible assumption | with_reducible exact Chg.refl _ _ | with_reducible refine Chg.drew ?_ | with_reducible refine Chg.alloc ?_ _ | with_reducible refine Chg.then ?_ h6 | with_reducible refine Chg.then ?_ h7))))
      (first
        | (go_at_call 172; (with_reducible refine (HFIND1.out _ (by first | exact (Chg.refl _ _).drew | exact (Chg.refl _ _).drew.then h6 | exact (Chg.refl _ _).drew.then h7)).mono ?_); rintro e w6 ⟨rfl, h6⟩)
        | (go_at_call 172; (with_reducible refine (HFIND2.out _ (by first | exact (Chg.refl _ _).drew | exact (Chg.refl _ _).drew.then h6 | exact (Chg.refl _ _).drew.then h7)).mono ?_); rintro e w7 ⟨rfl, h7⟩))
    all_goals
      go_wp2_with fail
      go_meet
      exact ⟨rfl, rfl, by first | exact ((Chg.refl _ _).drew.then h6).then h7 | exact ((Chg.refl _ _).drew.then h7).then h6⟩
  case rest =>
  obtain ⟨rfl, rfl, hc2⟩ := hcut
  have hc := HC1.out.then hc2
  have y0 := px_chg hc2 (by simp) y0
  have z1 := px_chg hc2 (by simp) z1
  have z2 := px_chg hc2 (by simp) z2
  have z3 := px_chg hc2 (by simp) z3
  have hL2 := HL1.out.same hc2
  obtain ⟨a', cap', e', _, hr2'⟩ := pstep_at hL2
  injection e' with ea _ ec
  subst ea ec
  obtain ⟨w2, hw2⟩ : ∃ w2, w2 = wc := ⟨_, rfl⟩
  subst hw2
  clear hr
  have hbv : bV rt = .int .u8 (rt.toNat : Int) := rfl
  rw [hbv] at z2
  have HC := Lib.hid hc
  have HRR := Lib.hid hr2'
  clear hc hr2'
  clear hc2 hL2 HC1 HW1 hbv
  by_cases h1 : op < 0 ∨ op > 5
  · have he := HE.out
    rw [if_pos h1] at he
    have HE := Lib.hid he
    clear he
    have hq : decide (op < 0) = true ∨ decide (op < 0) = false ∧ decide (op > 5) = true := by
      simp only [decide_eq_true_eq, decide_eq_false_iff_not]
      omega
    clear h1
    rcases hq with q1 | ⟨q1, q2⟩
    all_goals
      go_wp2_with fail
      go_ret
      rw [HE.out]
      exact ⟨rfl, HC.out⟩
  have he := HE.out
  rw [if_neg h1] at he
  have q1 : decide (op < 0) = false := by simp; omega
  have q2 : decide (op > 5) = false := by simp; omega
  clear h1 HE
  by_cases h1 : ad < -9007199254740992 ∨ ad > 9007199254740992
  · rw [if_pos h1] at he
    have HE := Lib.hid he
    clear he
    have hq : decide (ad < -9007199254740992) = true ∨ decide (ad < -9007199254740992) = false ∧ decide (ad > 9007199254740992) = true := by
      simp only [decide_eq_true_eq, decide_eq_false_iff_not]
      omega
    clear h1
    rcases hq with q3 | ⟨q3, q4⟩
    all_goals
      go_wp2_with fail
      go_ret
      rw [HE.out]
      exact ⟨rfl, HC.out⟩
  rw [if_neg h1] at he
  have q3 : decide (ad < -9007199254740992) = false := by simp; omega
  have q4 : decide (ad > 9007199254740992) = false := by simp; omega
  clear h1
  have hrt : ((rt.toNat : Int) == 0) = decide (rt = 0) := by
    by_cases h : rt = 0
    · subst h; rfl
    · rw [decide_eq_false h, beq_eq_false_iff_ne]
      intro e
      exact h (UInt8.toNat_inj.1 (by have : (0 : UInt8).toNat = 0 := rfl; omega))
  by_cases h0 : F1 < 0
  · rw [if_pos (.inl h0)] at he
    have q5 : decide (F1 < 0) = true := by simp; omega
    have HE := Lib.hid he
    clear he
    clear h0 hrt
    go_wp2_with fail
    go_ret
    rw [HE.out]
    exact ⟨rfl, HC.out⟩
  have q5 : decide (F1 < 0) = false := by simp; omega
  by_cases hr0 : rt = 0
  · rw [if_neg (fun h => h.elim h0 (fun h => h.1 hr0)), if_pos hr0] at he
    have q6 : ((rt.toNat : Int) == 0) = true := by rw [hrt]; exact decide_eq_true hr0
    have q7 : ((rt.toNat : Int) != 0) = false := by unfold bne; rw [q6]; rfl
    have HE := Lib.hid he
    clear he
    clear h0 hrt hr0
    go_wp2_with fail
    go_ret
    rw [HE.out]
    exact ⟨rfl, HC.out⟩
  have q6 : ((rt.toNat : Int) == 0) = false := by rw [hrt]; exact decide_eq_false hr0
  have q7 : ((rt.toNat : Int) != 0) = true := by unfold bne; rw [q6]; rfl
  by_cases h2 : F2 < 0
  · rw [if_pos (.inr ⟨hr0, h2⟩)] at he
    have q8 : decide (F2 < 0) = true := by simp; omega
    have HE := Lib.hid he
    clear he
    clear h0 hrt hr0 h2
    go_wp2_with fail
    go_ret
    rw [HE.out]
    exact ⟨rfl, HC.out⟩
  have q8 : decide (F2 < 0) = false := by simp; omega
  rw [if_neg (fun h => h.elim h0 (fun h => h2 h.2)), if_neg hr0] at he
  clear hrt hr0
  obtain ⟨i1, rfl⟩ : ∃ i : Nat, F1 = (i : Int) := ⟨F1.toNat, by omega⟩
  obtain ⟨i2, rfl⟩ : ∃ i : Nat, F2 = (i : Int) := ⟨F2.toNat, by omega⟩
  have hl1 : i1 < L.length := by omega
  have hl2 : i2 < L.length := by omega
  obtain ⟨x1, hA1, hB1, _⟩ := split_at' hl1
  obtain ⟨x2, hA2, hB2, _⟩ := split_at' hl2
  have hn1 := noAt_at hA1
  have hn2 := noAt_at hA2
  obtain ⟨b1, rfl, _, _, _, a1, _, _⟩ := HRR.out _ _ _ hA1
  obtain ⟨b2, eb, _, _, _, a2, _, _⟩ := HRR.out _ _ _ hA2
  injection eb with eb
  injection eb with eb
  subst eb
  rw [hB1] at a1 hn1
  rw [hB2] at a2 hn2
  have hpos : 0 < i1 ∨ i1 = 0 := by omega
  clear h0 h2 hr1 hr2 hA1 hA2 hB1 hB2 hpos
  rcases Nat.lt_trichotomy i1 i2 with hlt | heq | hgt
  · rw [Int.min_eq_left (by omega), Int.max_eq_right (by omega), hn1, hn2] at he
    have qe : ((i1 : Int) == (i2 : Int)) = false := by rw [beq_eq_false_iff_ne]; omega
    have hle : (i1 : Int) ≤ (i2 : Int) := by omega
    have hmn : min (i1 : Int) (i2 : Int) = (i1 : Int) := Int.min_eq_left hle
    have hmx : max (i1 : Int) (i2 : Int) = (i2 : Int) := Int.max_eq_right hle
    cases hb1 : x1.no with
    | true =>
      rw [hb1] at a1
      rw [if_pos (.inl hb1)] at he
      have HE := Lib.hid he
      clear he
      clear hn1 hn2 hb1
      go_wp2_with fail
      go_ret
      rw [HE.out]
      exact ⟨rfl, HC.out⟩
    | false =>
      rw [hb1] at a1 he
      rw [if_neg (fun h => by rcases h with h | h; cases h; have := h.2; omega)] at he
      have HE := Lib.hid he
      clear he
      clear hn1 hn2 hb1
      cases hb2 : x2.no
      all_goals
        rw [hb2] at a2
        clear hb2
        go_wp2_with fail
        go_ret
        rw [HE.out]
        exact ⟨rfl, HC.out⟩
  · subst heq
    rw [Int.min_self, Int.max_self, hn1] at he
    have qe : ((i1 : Int) == (i1 : Int)) = true := beq_self_eq_true _
    have hmn : min (i1 : Int) (i1 : Int) = (i1 : Int) := Int.min_self _
    have hmx : max (i1 : Int) (i1 : Int) = (i1 : Int) := Int.max_self _
    clear hn1 hn2 a2
    cases hb1 : x1.no with
    | true =>
      rw [hb1] at a1
      rw [if_pos (.inl hb1)] at he
      have HE := Lib.hid he
      clear he
      clear hb1
      go_wp2_with fail
      go_ret
      rw [HE.out]
      exact ⟨rfl, HC.out⟩
    | false =>
      rw [hb1] at a1 he
      rw [if_neg (fun h => by rcases h with h | h; cases h; cases h.1)] at he
      have HE := Lib.hid he
      clear he
      clear hb1
      go_wp2_with fail
      go_ret
      rw [HE.out]
      exact ⟨rfl, HC.out⟩
  · rw [Int.min_eq_right (by omega), Int.max_eq_left (by omega), hn1, hn2] at he
    have qe : ((i2 : Int) == (i1 : Int)) = false := by rw [beq_eq_false_iff_ne]; omega
    have hle : (i2 : Int) ≤ (i1 : Int) := by omega
    have hmn : min (i1 : Int) (i2 : Int) = (i2 : Int) := Int.min_eq_right hle
    have hmx : max (i1 : Int) (i2 : Int) = (i1 : Int) := Int.max_eq_left hle
    cases hb1 : x2.no with
    | true =>
      rw [hb1] at a2
      rw [if_pos (.inl hb1)] at he
      have HE := Lib.hid he
      clear he
      clear hn1 hn2 hb1
      go_wp2_with fail
      go_ret
      rw [HE.out]
      exact ⟨rfl, HC.out⟩
    | false =>
      rw [hb1] at a2 he
      rw [if_neg (fun h => by rcases h with h | h; cases h; have := h.2; omega)] at he
      have HE := Lib.hid he
      clear he
      clear hn1 hn2 hb1
      cases hb2 : x1.no
      all_goals
        rw [hb2] at a1
        clear hb2
        go_wp2_with fail
        go_ret
        rw [HE.out]
        exact ⟨rfl, HC.out⟩
end Go.Proofs.YtjloddlkleileaaGreatDoor
