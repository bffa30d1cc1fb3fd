/-
  The program's plan: what is wrong with a pattern; Make and Compile of one that can't be.
-/
import Derived.Test.YtjloddlkleileaaGreatDoorPlnC
import Derived.Test.YtjloddlkleileaaGreatDoorPatJ
namespace Go.Proofs.YtjloddlkleileaaGreatDoor
open Go.RowKit
set_option linter.unusedVariables false
set_option linter.unusedSimpArgs false

theorem pcond_at {w : World} {v : Value} {C : List PCondV} (h : Lst pcondC w v C) : ∃ a cap, v = .slice a C.length cap ∧ C.length ≤ cap ∧ ∀ A x B, C = A ++ x :: B → ∃ b, a = some ⟨b, 0, none⟩ ∧ b < w.heap.size ∧
    w.cell? ⟨b, A.length * 4, none⟩ = some (bV x.left) ∧ w.cell? ⟨b, A.length * 4 + 1, none⟩ = some (.int .i64 x.op) ∧ w.cell? ⟨b, A.length * 4 + 2, none⟩ = some (bV x.right) ∧ w.cell? ⟨b, A.length * 4 + 3, none⟩ = some (.int .i64 x.add) := by
  obtain ⟨a, cap, e, h1, _, h3⟩ := h.form pcondOk
  refine ⟨a, cap, e, h1, fun A x B hl => ?_⟩
  obtain ⟨b, eb, hb, _, hc⟩ := h3 A x B hl
  exact ⟨b, eb, hb, hc 0 _ rfl, hc 1 _ rfl, hc 2 _ rfl, hc 3 _ rfl⟩
theorem stepBad_zero {L : List PStepV} {i : Nat} {x : PStepV} (h : stepBad L i x = 0) : 1 ≤ x.max ∧ x.max ≤ 4 := by
  unfold stepBad at h
  split at h
  · cases h
  split at h
  · cases h
  split at h
  · cases h
  split at h
  · cases h
  · rename_i h4
    omega
theorem drop_at {α : Type} {l : List α} {k : Nat} (h : k < l.length) : ∃ x, l = l.take k ++ x :: l.drop (k + 1) ∧ (l.take k).length = k ∧ l.drop k = x :: l.drop (k + 1) := by
  obtain ⟨x, h1, h2, _⟩ := split_at' h
  refine ⟨x, h1, h2, ?_⟩
  conv => lhs; rw [h1]
  rw [List.drop_append_of_le_length (by omega), List.drop_eq_nil_of_le (by omega)]
  rfl
def TwoAt (w : World) (v : Nat × Int) (e : Ending) (w' : World) : Prop := e = .returned (.tuple #[.int .i64 (v.1 : Int), .int .i64 v.2]) ∧ Chg (fun _ => False) w w'
set_option maxRecDepth 100000 in
set_option maxHeartbeats 8000000 in
theorem pl_check (p : PatV) (sv cv : Value) (w : World) (hL : Lst pstepC w sv p.steps) (hC : Lst pcondC w cv p.conds) (hl : p.steps.length ≤ 4096) (hl2 : p.conds.length ≤ 4096) : Calls Tryz.prog 171 #[.agg #[sv, cv, .int .i64 p.within]] w (TwoAt w (checkP p)) := by
  obtain ⟨L, C, n⟩ := p
  dsimp only at *
  obtain ⟨a, cap, rfl, hlc, hr⟩ := pstep_at hL
  obtain ⟨a2, cap2, rfl, hlc2, hr2⟩ := pcond_at hC
  obtain ⟨V, hV⟩ : ∃ V, checkP ⟨L, C, n⟩ = V := ⟨_, rfl⟩
  have he := hV.symm
  rw [hV]
  clear hV
  unfold checkP at he
  dsimp only at he
  obtain ⟨bp, hbp⟩ : ∃ b, w.heap.size = b := ⟨_, rfl⟩
  obtain ⟨w1, hw1⟩ : ∃ w1, w1 = w.alloc (.cells #[.slice a L.length cap, .slice a2 C.length cap2, .int .i64 n] 242) := ⟨_, rfl⟩
  have hc1 : Chg (fun _ => False) w w1 := by rw [hw1]; ((repeat (first | exact Chg.refl _ _ | assumption | refine Chg.drewN ?_ _ | refine Chg.drew ?_ | refine Chg.alloc ?_ _ | refine Chg.setCell ?_ (by first | (simp; done) | (simp; omega) | (intro h; simp at h; omega)) _)))
  have hp1 : Blk w1 bp 242 #[.slice a L.length cap, .slice a2 C.length cap2, .int .i64 n] := by rw [hw1, ← hbp]; exact Blk.new _ _ _
  have hL1 := hL.same hc1
  have hC1' := hC.same hc1
  have y0 := hp1.cell 0
  have y1 := hp1.cell 1
  have y2 := hp1.cell 2
  simp at y0 y1 y2
  clear hr hr2
  obtain ⟨a', cap', e', _, hr⟩ := pstep_at hL1
  injection e' with ea _ ec
  subst ea ec
  obtain ⟨a', cap', e', _, hr2⟩ := pcond_at hC1'
  injection e' with ea _ ec
  subst ea ec
  have HW1 := Lib.hid hw1
  have HC1 := Lib.hid hc1
  have HP1 := Lib.hid hp1
  have HL1 := Lib.hid hL1
  have HCC := Lib.hid hC1'
  have HBP := Lib.hid hbp
  have HR := Lib.hid hr
  have HRC := Lib.hid hr2
  clear hw1 hc1 hp1 hL1 hC1' hbp hr hr2
  clear hL hC
  go_enter Tryz.func171, Tryz.ntmps171
  go_upto_region 1 with fail
  rw [← HW1.out, HBP.out]
  by_cases h1 : L.length < 1 ∨ L.length > 8 ∨ C.length > 16
  · rw [if_pos h1] at he
    have HE := Lib.hid he
    clear he
    by_cases q1 : L.length < 1
    · have q : decide ((L.length : Int) < 1) = true := by simp; omega
      have q' : decide (L.length < 1) = true := decide_eq_true q1
      go_wp2_with fail
      go_ret2
      rw [HE.out]
      exact ⟨rfl, HC1.out⟩
    · have q : decide ((L.length : Int) < 1) = false := by simp; omega
      by_cases q2 : L.length > 8
      · have q' : decide ((L.length : Int) > 8) = true := by simp; omega
        go_wp2_with fail
        go_ret2
        rw [HE.out]
        exact ⟨rfl, HC1.out⟩
      · have q' : decide ((L.length : Int) > 8) = false := by simp; omega
        have q3 : decide ((C.length : Int) > 16) = true := decide_eq_true (by omega)
        go_wp2_with fail
        go_ret2
        rw [HE.out]
        exact ⟨rfl, HC1.out⟩
  rw [if_neg h1] at he
  have q1 : decide ((L.length : Int) < 1) = false := by simp; omega
  have q2 : decide ((L.length : Int) > 8) = false := by simp; omega
  have q3 : decide ((C.length : Int) > 16) = false := by simp; omega
  have q1' : ¬ L.length < 1 := by omega
  have q2' : ¬ L.length > 8 := by omega
  have q3' : ¬ C.length > 16 := by omega
  clear h1
  by_cases h1 : n < 0 ∨ n > 9007199254740992
  · rw [if_pos h1] at he
    have HE := Lib.hid he
    clear he
    by_cases q4 : n < 0
    · have q5 : decide (n < 0) = true := by simp; omega
      go_wp2_with fail
      go_ret2
      rw [HE.out]
      exact ⟨rfl, HC1.out⟩
    · have q5 : decide (n < 0) = false := by simp; omega
      have q6 : decide (n > 9007199254740992) = true := by simp; omega
      go_wp2_with fail
      go_ret2
      rw [HE.out]
      exact ⟨rfl, HC1.out⟩
  rw [if_neg h1] at he
  have q5 : decide (n < 0) = false := by simp; omega
  have q6 : decide (n > 9007199254740992) = false := by simp; omega
  clear h1
  have HE := Lib.hid he
  clear he
  go_wp2_with fail
  go_loopw [40, 4] (fun u v wr => ∃ (k : Nat) (b : Int), u = .int .i64 (k : Int) ∧ v = .int .i64 b ∧ k ≤ L.length ∧ 0 ≤ b ∧ b ≤ 4 * (k : Int) ∧ stepsBad L 0 L 0 = stepsBad L k (L.drop k) b ∧ Chg (fun _ => False) w1 wr) (fun u _ _ => L.length - (intOf u).toNat)
  case atStart => exact ⟨0, 0, rfl, rfl, Nat.zero_le _, by omega, by omega, by rw [List.drop_zero], Chg.refl _ _⟩
  case round =>
    clear q1 q2 q3 q5 q6
    obtain ⟨k, b, rfl, rfl, hk, hb0, hb1, hsb, hc⟩ := hrel
    by_cases hlt : k < L.length
    · obtain ⟨x, hA, hB, hD⟩ := drop_at hlt
      obtain ⟨b0, eb, _, x0, x1, x2, x3, x4⟩ := HR.out _ _ _ hA
      have hst := fun W (hW : Chg (fun _ => False) w1 W) => pl_step L (L.take k) (L.drop (k + 1)) x (.slice a L.length cap) (.slice a2 C.length cap2) n W (HL1.out.same hW) hA hl
      rw [hB] at x0 x1 x2 x3 x4 hst
      have hcw := HC1.out.then hc
      have q : decide ((k : Int) < (L.length : Int)) = true := by simp; omega
      have hi := IntWalk.i64_in ((k : Int) + 1) (by omega)
      have x0 := px_chg hc (by simp) x0
      have x1 := px_chg hc (by simp) x1
      have x2 := px_chg hc (by simp) x2
      have x3 := px_chg hc (by simp) x3
      have x4 := px_chg hc (by simp) x4
      subst eb
      have HA := Lib.hid hA
      have HB := Lib.hid hB
      have HD := Lib.hid hD
      have HST := Lib.hid hst
      have HC := Lib.hid hc
      have HCW := Lib.hid hcw
      have HSB := Lib.hid hsb
      clear hA hB hD hst hc hcw hsb
      clear y0 y1 y2
      go_upto_region 9 with fail
      obtain ⟨w2, hw2⟩ : ∃ w2, w2 = wr.alloc (.cells #[bV x.kind, bV x.name, .bool x.no, .int .i64 x.min, .int .i64 x.max] 342) := ⟨_, rfl⟩
      rw [← hw2]
      have hz2 : Blk w2 wr.heap.size 342 #[bV x.kind, bV x.name, .bool x.no, .int .i64 x.min, .int .i64 x.max] := by rw [hw2]; exact Blk.new _ _ _
      have hc2 := HC.out.allocw hw2
      have hp2 := HP1.out.chg hc2 (by simp)
      have y0 := hp2.cell 0
      have y1 := hp2.cell 1
      have y2 := hp2.cell 2
      simp at y0 y1 y2
      clear x0 x1 x2 x3 x4 hw2 hp2
      have HZ2 := Lib.hid hz2
      have HC2 := Lib.hid hc2
      clear hz2 hc2
      go_wp2_with fail
      refine (HST.out w2 HC2.out).mono ?_
      rintro e w3 ⟨rfl, h6⟩
      have z2 := (HZ2.out.chg h6 (by simp)).cell 2
      have z4 := (HZ2.out.chg h6 (by simp)).cell 4
      simp at z2 z4
      have hc3 := HC2.out.then h6
      have hcw3 := HC1.out.then hc3
      clear y0 y1 y2 h6 HST HC HCW
      by_cases hz : stepBad L k x = 0
      · have hmx := stepBad_zero hz
        have hsb : stepsBad L 0 L 0 = stepsBad L (k + 1) (L.drop (k + 1)) (if x.no then b else b + x.max) := by
          rw [HSB.out, HD.out, stepsBad, if_neg (fun h => h hz)]
        have q9 : (stepBad L k x != 0) = false := by simp [hz]
        obtain ⟨sb, hsbe⟩ : ∃ v, stepBad L k x = v := ⟨_, rfl⟩
        rw [hsbe] at q9 ⊢
        clear hz hsbe
        cases hno : x.no with
        | true =>
          rw [hno] at z2 hsb
          have hsb : stepsBad L 0 L 0 = stepsBad L (k + 1) (L.drop (k + 1)) b := hsb
          clear hno
          have HSB2 := Lib.hid hsb
          have HC3 := Lib.hid hc3
          clear hsb hc3
          clear hcw3
          go_wp2_with fail
          exact ⟨⟨k + 1, b, by simp [hi], rfl, by omega, hb0, by omega, HSB2.out, HC3.out⟩, by simp [intOf, hi]; omega⟩
        | false =>
          rw [hno] at z2 hsb
          have hsb : stepsBad L 0 L 0 = stepsBad L (k + 1) (L.drop (k + 1)) (b + x.max) := hsb
          have hi2 := IntWalk.i64_in (b + x.max) (by omega)
          clear hno
          have HSB2 := Lib.hid hsb
          have HC3 := Lib.hid hc3
          clear hsb hc3
          clear hcw3
          go_wp2_with fail
          exact ⟨⟨k + 1, b + x.max, by simp [hi], by first | rfl | simp [hi2], by omega, by omega, by omega, HSB2.out, HC3.out⟩, by simp [intOf, hi]; omega⟩
      · have hsb : stepsBad L 0 L 0 = .inl (k, stepBad L k x) := by
          rw [HSB.out, HD.out, stepsBad, if_pos hz]
        have q9 : (stepBad L k x != 0) = true := by simp [hz]
        have he := HE.out
        rw [hsb] at he
        dsimp only at he
        obtain ⟨sb, hsbe⟩ : ∃ v, stepBad L k x = v := ⟨_, rfl⟩
        rw [hsbe] at q9 he ⊢
        clear hz hsbe hsb
        have HE2 := Lib.hid he
        have HCW3 := Lib.hid hcw3
        clear he hcw3
        clear hc3
        go_wp2_with fail
        go_ret2
        rw [HE2.out]
        exact ⟨rfl, HCW3.out⟩
    · have hke : k = L.length := by omega
      subst hke
      have q : decide ((L.length : Int) < (L.length : Int)) = false := by simp
      have he := HE.out
      rw [hsb, List.drop_length, stepsBad] at he
      dsimp only at he
      have y0 := px_chg hc (by simp) y0
      have y1 := px_chg hc (by simp) y1
      have y2 := px_chg hc (by simp) y2
      have hcw := HC1.out.then hc
      have hp2 := HP1.out.chg hc (by simp)
      have hL2 := HL1.out.same hc
      clear HE hsb
      by_cases h16 : b > 16
      · rw [if_pos h16] at he
        have q7 : decide (b > 16) = true := by simp; omega
        have HE := Lib.hid he
        have HCW := Lib.hid hcw
        clear he hcw
        clear hL2 hp2 hc
        go_wp2_with fail
        go_ret2
        rw [HE.out]
        exact ⟨rfl, HCW.out⟩
      rw [if_neg h16] at he
      have q7 : decide (b > 16) = false := by simp; omega
      have HE := Lib.hid he
      have HCW := Lib.hid hcw
      have HP2 := Lib.hid hp2
      have HL2 := Lib.hid hL2
      have HC14 := Lib.hid hc
      clear he hcw hp2 hL2 hc
      clear hlt
      obtain ⟨w4, hw4⟩ : ∃ w4, w4 = wr := ⟨_, rfl⟩
      subst hw4
      go_wp2_with fail
      go_loopw [65] (fun u wr => ∃ k : Nat, u = .int .i64 (k : Int) ∧ k ≤ C.length ∧ V = condsBad L (L.length + k) (C.drop k) ∧ Chg (fun _ => False) w4 wr) (fun u _ => C.length - (intOf u).toNat)
      case atStart => exact ⟨0, rfl, Nat.zero_le _, by rw [List.drop_zero]; exact HE.out, Chg.refl _ _⟩
      case round =>
        clear y0 y1 y2 q7 HE
        obtain ⟨j, rfl, hj, hcb, hc⟩ := hrel
        by_cases hlt : j < C.length
        · obtain ⟨c, hA, hB, hD⟩ := drop_at hlt
          obtain ⟨b0, eb, _, x0, x1, x2, x3⟩ := HRC.out _ _ _ hA
          have hct := fun W (hW : Chg (fun _ => False) w4 W) => pl_cond L c (.slice a L.length cap) (.slice a2 C.length cap2) n W (HL2.out.same hW) hl
          rw [hB] at x0 x1 x2 x3
          have hc1w := (HC14.out).then hc
          have q8 : decide ((j : Int) < (C.length : Int)) = true := by simp; omega
          have hi := IntWalk.i64_in ((j : Int) + 1) (by omega)
          have hi2 := IntWalk.i64_in ((L.length : Int) + (j : Int)) (by omega)
          have x0 := px_chg hc1w (by simp) x0
          have x1 := px_chg hc1w (by simp) x1
          have x2 := px_chg hc1w (by simp) x2
          have x3 := px_chg hc1w (by simp) x3
          subst eb
          have HA := Lib.hid hA
          have HB := Lib.hid hB
          have HD := Lib.hid hD
          have HCT := Lib.hid hct
          have HC := Lib.hid hc
          have HCB := Lib.hid hcb
          have HC1W := Lib.hid hc1w
          clear hA hB hD hct hc hcb hc1w
          go_upto_region 20 with fail
          obtain ⟨w5, hw5⟩ : ∃ w5, w5 = wr.alloc (.cells #[bV c.left, .int .i64 c.op, bV c.right, .int .i64 c.add] 350) := ⟨_, rfl⟩
          rw [← hw5]
          have hz2 : Blk w5 wr.heap.size 350 #[bV c.left, .int .i64 c.op, bV c.right, .int .i64 c.add] := by rw [hw5]; exact Blk.new _ _ _
          have hc2 := HC.out.allocw hw5
          have hp5 := HP2.out.chg hc2 (by simp)
          have y0 := hp5.cell 0
          have y1 := hp5.cell 1
          have y2 := hp5.cell 2
          simp at y0 y1 y2
          have z0 := hz2.cell 0
          have z1 := hz2.cell 1
          have z2 := hz2.cell 2
          have z3 := hz2.cell 3
          simp at z0 z1 z2 z3
          clear x0 x1 x2 x3 hw5
          have HZ2 := Lib.hid hz2
          have HC2 := Lib.hid hc2
          have HP5 := Lib.hid hp5
          clear hz2 hc2 hp5
          go_wp2_with fail
          refine (HCT.out w5 HC2.out).mono ?_
          rintro e w6 ⟨rfl, h6⟩
          have y0 := (HP5.out.chg h6 (by simp)).cell 0
          simp at y0
          have hc3 := HC2.out.then h6
          have hcw3 := HCW.out.then hc3
          clear z0 z1 z2 z3 y1 y2 h6 HCT HC
          by_cases hz : condBad L c = 0
          · have hsb : V = condsBad L (L.length + (j + 1)) (C.drop (j + 1)) := by
              rw [HCB.out, HD.out, condsBad, if_neg (fun h => h hz)]
              rfl
            have q9 : (condBad L c != 0) = false := by simp [hz]
            obtain ⟨sb, hsbe⟩ : ∃ v, condBad L c = v := ⟨_, rfl⟩
            rw [hsbe] at q9 ⊢
            clear hz hsbe hcw3
            have HSB2 := Lib.hid hsb
            have HC3 := Lib.hid hc3
            clear hsb hc3
            go_wp2_with fail
            exact ⟨⟨j + 1, by simp [hi], by omega, HSB2.out, HC3.out⟩, by simp [intOf, hi]; omega⟩
          · have he : V = (L.length + j, condBad L c) := by rw [HCB.out, HD.out, condsBad, if_pos hz]
            have q9 : (condBad L c != 0) = true := by simp [hz]
            obtain ⟨sb, hsbe⟩ : ∃ v, condBad L c = v := ⟨_, rfl⟩
            rw [hsbe] at q9 he ⊢
            clear hz hsbe hc3
            have HE2 := Lib.hid he
            have HCW3 := Lib.hid hcw3
            clear he hcw3
            go_wp2_with fail
            go_ret2
            rw [HE2.out]
            exact ⟨by simp, HCW3.out⟩
        · have hke : j = C.length := by omega
          subst hke
          have q8 : decide ((C.length : Int) < (C.length : Int)) = false := by simp
          have he := hcb
          rw [List.drop_length, condsBad] at he
          have hcw2 := HCW.out.then hc
          clear hcb hc hlt
          have HE := Lib.hid he
          have HCW2 := Lib.hid hcw2
          clear he hcw2
          go_wp2_with fail
          go_ret2
          rw [HE.out]
          exact ⟨rfl, HCW2.out⟩
set_option maxRecDepth 100000 in
set_option maxHeartbeats 4000000 in
theorem pl_make_no (p : PatV) (sv cv : Value) (w : World) (hL : Lst pstepC w sv p.steps) (hC : Lst pcondC w cv p.conds) (hl : p.steps.length ≤ 4096) (hl2 : p.conds.length ≤ 4096) (hbad : (checkP p).2 ≠ 0) : Calls Tryz.prog 109 #[.agg #[sv, cv, .int .i64 p.within]] w fun e w' => e = .returned (.tuple #[.agg #[.slice none 0 0, .int .i64 0], .int .i64 ((checkP p).1 : Int), .int .i64 (checkP p).2]) ∧ Chg (fun _ => False) w w' := by
  obtain ⟨w1, hw1⟩ : ∃ w1, w1 = (w.alloc (.cells #[sv, cv, .int .i64 p.within] 242)).alloc (.cells #[.slice none 0 0, .int .i64 0] 95) := ⟨_, rfl⟩
  have hc1 : Chg (fun _ => False) w w1 := by rw [hw1]; ((repeat (first | exact Chg.refl _ _ | assumption | refine Chg.drewN ?_ _ | refine Chg.drew ?_ | refine Chg.alloc ?_ _ | refine Chg.setCell ?_ (by first | (simp; done) | (simp; omega) | (intro h; simp at h; omega)) _)))
  have hp1 : Blk w1 w.heap.size 242 #[sv, cv, .int .i64 p.within] := by rw [hw1]; exact (Blk.new _ _ _).alloc _
  have hz1 : Blk w1 (w.heap.size + 1) 95 #[.slice none 0 0, .int .i64 0] := by rw [hw1]; exact Blk.new1 _ _ _ _
  have hck := pl_check p sv cv w1 (hL.same hc1) (hC.same hc1) hl hl2
  have y0 := hp1.cell 0
  have y1 := hp1.cell 1
  have y2 := hp1.cell 2
  simp at y0 y1 y2
  have q : ((checkP p).2 != 0) = true := by simp [hbad]
  obtain ⟨⟨V1, V2⟩, hV⟩ : ∃ V, checkP p = V := ⟨_, rfl⟩
  rw [hV] at hck q ⊢
  dsimp only at hck q ⊢
  obtain ⟨g, hg⟩ : ∃ g, w.heap.size + 1 = g := ⟨_, rfl⟩
  rw [hg] at hz1
  have HW1 := Lib.hid hw1
  have HC1 := Lib.hid hc1
  have HCK := Lib.hid hck
  have HZ1 := Lib.hid hz1
  have HG := Lib.hid hg
  clear hw1 hc1 hck hz1 hg
  clear hL hC hbad hV hp1
  go_enter Tryz.func109, Tryz.ntmps109
  go_upto_region 1 with fail
  rw [← HW1.out, HG.out]
  go_wp2_with fail
  refine HCK.out.mono ?_
  rintro e w2 ⟨rfl, h6⟩
  have hc := HC1.out.then h6
  have hz2 := HZ1.out.chg h6 (by simp)
  have z0 := hz2.cell 0
  have z1 := hz2.cell 1
  have zf0 := hz2.frozen 0
  have zf1 := hz2.frozen 1
  simp at z0 z1
  have HC := Lib.hid hc
  have HZ2 := Lib.hid hz2
  clear hc hz2
  clear y0 y1 y2 h6
  go_wp2_with fail
  obtain ⟨wz, hwz⟩ : ∃ wz : World, wz = (w2.setCell ⟨g, 0, none⟩ (.slice none 0 0)).setCell ⟨g, 1, none⟩ (.int .i64 0) := ⟨_, rfl⟩
  have hb9 : Blk wz g 95 #[.slice none 0 0, .int .i64 0] := by
    rw [hwz]
    have hz := (HZ2.out.set_ 0 (.slice none 0 0)).set_ 1 (.int .i64 0)
    simpa using hz
  have hcz : Chg (fun k => k = g) w2 wz := by rw [hwz]; exact Chg.seto (Chg.seto (Chg.refl _ _))
  have hcw := HC.out.trans hcz fun k hk e => by have : k = g := e; have := HG.out; omega
  rw [← hwz]
  have zx0 := hb9.cell 0
  have zx1 := hb9.cell 1
  simp at zx0 zx1
  exact bodyPost_ret (v := .tuple #[.agg #[.slice none 0 0, .int .i64 0], .int .i64 (V1 : Int), .int .i64 V2]) (by simp [results, Tryz.results109, go_sem, zx0, zx1]) rfl ⟨rfl, hcw⟩
theorem stepsV_len {s : List UInt8} {m : Nat} {l l' : List PStepV} {k j : Nat} (h : stepsV s m l k = .inl (l', j)) : l'.length ≤ l.length + m := by
  induction m generalizing l k with
  | zero => rw [stepsV] at h; injection h with h; injection h with e _; rw [← e]; omega
  | succ m ih =>
    rw [stepsV] at h
    split at h
    · cases hv : stepP s (k + 1) l.length with
      | inr c => rw [hv] at h; cases h
      | inl x =>
        rw [hv] at h
        have := ih h
        rw [List.length_append, List.length_singleton] at this
        omega
    · injection h with h; injection h with e _; rw [← e]; omega
theorem condsV_len {s : List UInt8} {m : Nat} {l l' : List PCondV} {k j : Nat} (h : condsV s m l k = .inl (l', j)) : l'.length ≤ l.length + m := by
  induction m generalizing l k with
  | zero => rw [condsV] at h; injection h with h; injection h with e _; rw [← e]; omega
  | succ m ih =>
    rw [condsV] at h
    split at h
    · cases h1 : wordV s [78, 68, 32] (k + 1) with
      | inr c => rw [h1] at h; cases h
      | inl x =>
        rw [h1] at h
        obtain ⟨_, k1⟩ := x
        have h : (condP s k1 l.length).bind (fun x k2 => (wordV s [32] k2).bind fun _ k3 => condsV s m (l ++ [x]) k3) = .inl (l', j) := h
        cases h2 : condP s k1 l.length with
        | inr c => rw [h2] at h; cases h
        | inl y =>
          rw [h2] at h
          obtain ⟨y, k2⟩ := y
          have h : (wordV s [32] k2).bind (fun _ k3 => condsV s m (l ++ [y]) k3) = .inl (l', j) := h
          cases h3 : wordV s [32] k2 with
          | inr c => rw [h3] at h; cases h
          | inl z =>
            rw [h3] at h
            have := ih h
            rw [List.length_append, List.length_singleton] at this
            omega
    · injection h with h; injection h with e _; rw [← e]; omega
theorem bind_inl_of {α β : Type} {p : PRes α} {f : α → Nat → PRes β} {v : β × Nat} (h : p.bind f = .inl v) : ∃ x k, p = .inl (x, k) ∧ f x k = .inl v := by
  cases p with
  | inl x => exact ⟨x.1, x.2, rfl, h⟩
  | inr c => cases h
theorem within_lists {s : List UInt8} {st : List PStepV} {cs : List PCondV} {k : Nat} {p : PatV} {j : Nat} (h : withinP s st cs k = .inl (p, j)) : p.steps = st ∧ p.conds = cs := by
  unfold withinP at h
  obtain ⟨_, _, _, h⟩ := bind_inl_of h
  obtain ⟨_, _, _, h⟩ := bind_inl_of h
  injection h with h
  injection h with e _
  rw [← e]
  exact ⟨rfl, rfl⟩
theorem parse_lists {s : List UInt8} {p : PatV} (h : parseP s = .inl p) : p.steps.length ≤ 4096 ∧ p.conds.length ≤ 4096 := by
  unfold parseP at h
  split at h
  · cases h
  · cases hp : patternP s with
    | inr c => rw [hp] at h; cases h
    | inl x =>
      obtain ⟨q, k⟩ := x
      rw [hp] at h
      dsimp only at h
      split at h
      · cases h
      · injection h with e
        subst e
        unfold patternP at hp
        obtain ⟨_, _, _, hp⟩ := bind_inl_of hp
        obtain ⟨x, _, _, hp⟩ := bind_inl_of hp
        obtain ⟨L, _, hL, hp⟩ := bind_inl_of hp
        have h1 := stepsV_len hL
        obtain ⟨_, _, _, hp⟩ := bind_inl_of hp
        unfold whereP at hp
        split at hp
        · obtain ⟨_, _, _, hp⟩ := bind_inl_of hp
          obtain ⟨_, _, _, hp⟩ := bind_inl_of hp
          obtain ⟨_, _, _, hp⟩ := bind_inl_of hp
          obtain ⟨C, _, hC, hp⟩ := bind_inl_of hp
          obtain ⟨_, _, _, hp⟩ := bind_inl_of hp
          have h2 := condsV_len hC
          obtain ⟨e1, e2⟩ := within_lists hp
          rw [e1, e2]
          simp at h1 h2
          omega
        · obtain ⟨e1, e2⟩ := within_lists hp
          rw [e1, e2]
          simp at h1 ⊢
          omega
/-- Why a text is no pattern that can be: the number of the fault; 0: it is one. -/
def textBad (s : List UInt8) : Int := match parseP s with
  | .inr c => c
  | .inl p => (checkP p).2
/- the end of Compile: world · the result's block · the change -/
set_option maxRecDepth 100000 in
set_option maxHeartbeats 4000000 in
theorem pl_compile_no (s : ByteArray) (w : World) (hb : textBad s.data.toList ≠ 0) : Calls Tryz.prog 67 #[.string s] w fun e w' => e = .returned (.tuple #[.agg #[.slice none 0 0, .int .i64 0], .int .i64 (textBad s.data.toList)]) ∧ Chg (fun _ => False) w w' := by
  obtain ⟨w1, hw1⟩ : ∃ w1, w1 = w.alloc (.cells #[.slice none 0 0, .int .i64 0] 95) := ⟨_, rfl⟩
  have hc1 : Chg (fun _ => False) w w1 := by rw [hw1]; ((repeat (first | exact Chg.refl _ _ | assumption | refine Chg.drewN ?_ _ | refine Chg.drew ?_ | refine Chg.alloc ?_ _ | refine Chg.setCell ?_ (by first | (simp; done) | (simp; omega) | (intro h; simp at h; omega)) _)))
  have hz1 : Blk w1 w.heap.size 95 #[.slice none 0 0, .int .i64 0] := by rw [hw1]; exact Blk.new _ _ _
  have hpa := pa_parse s w1
  obtain ⟨V, hV⟩ : ∃ V, textBad s.data.toList = V := ⟨_, rfl⟩
  have hTB := hV.symm
  rw [hV] at hb ⊢
  clear hV
  unfold textBad at hTB
  obtain ⟨g, hg⟩ : ∃ g, w.heap.size = g := ⟨_, rfl⟩
  rw [hg] at hz1
  have q : (V != 0) = true := by simp [hb]
  have HW1 := Lib.hid hw1
  have HC1 := Lib.hid hc1
  have HPA := Lib.hid hpa
  have HZ1 := Lib.hid hz1
  have HG := Lib.hid hg
  have HTB := Lib.hid hTB
  have HBAD := Lib.hid hb
  clear hw1 hc1 hpa hz1 hg hTB hb
  go_enter Tryz.func67, Tryz.ntmps67
  go_upto_region 1 with fail
  rw [← HW1.out, HG.out]
  go_wp2_with fail
  refine HPA.out.mono ?_
  rintro e w2 ⟨hpe, h6⟩
  have hc := HC1.out.then h6
  have hz2 := HZ1.out.chg h6 (by simp)
  cases hp : parseP s.data.toList with
  | inr c =>
    rw [hp] at hpe
    obtain ⟨i, rfl⟩ := hpe
    have hTB := HTB.out
    rw [hp] at hTB
    have hTB : V = c := hTB
    subst hTB
    have z0 := hz2.cell 0
    have z1 := hz2.cell 1
    have zf0 := hz2.frozen 0
    have zf1 := hz2.frozen 1
    have hlt := hz2.lt
    simp at z0 z1
    have HC := Lib.hid hc
    have HZ2 := Lib.hid hz2
    clear hc hz2
    clear HTB h6 hp
    obtain ⟨w3, hw3⟩ : ∃ w3, w3 = w2.alloc (.cells #[.slice none 0 0, .slice none 0 0, .int .i64 0] 242) := ⟨_, rfl⟩
    have hc3 : Chg (fun _ => False) w2 w3 := by rw [hw3]; ((repeat (first | exact Chg.refl _ _ | assumption | refine Chg.drewN ?_ _ | refine Chg.drew ?_ | refine Chg.alloc ?_ _ | refine Chg.setCell ?_ (by first | (simp; done) | (simp; omega) | (intro h; simp at h; omega)) _)))
    have hz3 := HZ2.out.chg hc3 (by simp)
    have hcw3 := HC.out.then hc3
    clear z0 z1 zf0 zf1
    have HW3 := Lib.hid hw3
    have HZ3 := Lib.hid hz3
    have HCW3 := Lib.hid hcw3
    clear hw3 hz3 hcw3
    go_upto_region 2 with fail
    rw [← HW3.out]
    have z0 := HZ3.out.cell 0
    have z1 := HZ3.out.cell 1
    have zf0 := HZ3.out.frozen 0
    have zf1 := HZ3.out.frozen 1
    simp at z0 z1
    go_wp2_with fail
    obtain ⟨wz, hwz⟩ : ∃ wz : World, wz = (w3.setCell ⟨g, 0, none⟩ (.slice none 0 0)).setCell ⟨g, 1, none⟩ (.int .i64 0) := ⟨_, rfl⟩
    have hb9 : Blk wz g 95 #[.slice none 0 0, .int .i64 0] := by
      rw [hwz]
      have hz := (HZ3.out.set_ 0 (.slice none 0 0)).set_ 1 (.int .i64 0)
      simpa using hz
    have hcz : Chg (fun k => k = g) w3 wz := by rw [hwz]; exact Chg.seto (Chg.seto (Chg.refl _ _))
    have hcw := HCW3.out.trans hcz fun k hk e => by have : k = g := e; have := HG.out; omega
    rw [← hwz]
    have zx0 := hb9.cell 0
    have zx1 := hb9.cell 1
    simp at zx0 zx1
    exact bodyPost_ret (v := .tuple #[.agg #[.slice none 0 0, .int .i64 0], .int .i64 V]) (by simp [results, Tryz.results67, go_sem, zx0, zx1]) rfl ⟨rfl, hcw⟩
  | inl p =>
    rw [hp] at hpe
    obtain ⟨sv, cv, rfl, hL, hC⟩ := hpe
    have hT1 := HTB.out
    rw [hp] at hT1
    have hTB : V = (checkP p).2 := hT1
    clear hT1
    obtain ⟨hl1, hl2⟩ := parse_lists hp
    obtain ⟨w3, hw3⟩ : ∃ w3, w3 = w2.alloc (.cells #[sv, cv, .int .i64 p.within] 242) := ⟨_, rfl⟩
    have hc3 : Chg (fun _ => False) w2 w3 := by rw [hw3]; ((repeat (first | exact Chg.refl _ _ | assumption | refine Chg.drewN ?_ _ | refine Chg.drew ?_ | refine Chg.alloc ?_ _ | refine Chg.setCell ?_ (by first | (simp; done) | (simp; omega) | (intro h; simp at h; omega)) _)))
    have hp3 : Blk w3 w2.heap.size 242 #[sv, cv, .int .i64 p.within] := by rw [hw3]; exact Blk.new _ _ _
    have hmk := pl_make_no p sv cv w3 (hL.same hc3) (hC.same hc3) hl1 hl2 (by rw [← hTB]; exact HBAD.out)
    rw [← hTB] at hmk
    have hz3 := hz2.chg hc3 (by simp)
    have hcw3 := hc.then hc3
    obtain ⟨sa, sn, sc, rfl⟩ := lst_sl pstepOk hL
    obtain ⟨ca, cn, cc, rfl⟩ := lst_sl pcondOk hC
    have y0 := hp3.cell 0
    have y1 := hp3.cell 1
    have y2 := hp3.cell 2
    simp at y0 y1 y2
    have HW3 := Lib.hid hw3
    have HMK := Lib.hid hmk
    have HZ3 := Lib.hid hz3
    have HCW3 := Lib.hid hcw3
    clear hw3 hmk hz3 hcw3
    clear hc hz2 hc3 hp3 hL hC hTB HTB hp h6
    go_upto_region 2 with fail
    rw [← HW3.out]
    go_wp2_with fail
    refine HMK.out.mono ?_
    rintro e w4 ⟨rfl, h6⟩
    have hz4 := HZ3.out.chg h6 (by simp)
    have hcw4 := HCW3.out.then h6
    clear y0 y1 y2
    obtain ⟨w5, hw5⟩ : ∃ w5, w5 = w4.alloc (.cells #[.slice none 0 0, .int .i64 0] 95) := ⟨_, rfl⟩
    have hc5 : Chg (fun _ => False) w4 w5 := by rw [hw5]; ((repeat (first | exact Chg.refl _ _ | assumption | refine Chg.drewN ?_ _ | refine Chg.drew ?_ | refine Chg.alloc ?_ _ | refine Chg.setCell ?_ (by first | (simp; done) | (simp; omega) | (intro h; simp at h; omega)) _)))
    have hp5 : Blk w5 w4.heap.size 95 #[.slice none 0 0, .int .i64 0] := by rw [hw5]; exact Blk.new _ _ _
    have hz5 := hz4.chg hc5 (by simp)
    have hcw5 := hcw4.then hc5
    have y0 := hp5.cell 0
    have y1 := hp5.cell 1
    simp at y0 y1
    have HW5 := Lib.hid hw5
    have HZ5 := Lib.hid hz5
    have HCW5 := Lib.hid hcw5
    clear hw5 hz5 hcw5
    clear hz4 hcw4 hc5 hp5 h6
    go_upto_region 5 with fail
    rw [← HW5.out]
    have z0 := HZ5.out.cell 0
    have z1 := HZ5.out.cell 1
    have zf0 := HZ5.out.frozen 0
    have zf1 := HZ5.out.frozen 1
    simp at z0 z1
    go_wp2_with fail
    obtain ⟨wz, hwz⟩ : ∃ wz : World, wz = (w5.setCell ⟨g, 0, none⟩ (.slice none 0 0)).setCell ⟨g, 1, none⟩ (.int .i64 0) := ⟨_, rfl⟩
    have hb9 : Blk wz g 95 #[.slice none 0 0, .int .i64 0] := by
      rw [hwz]
      have hz := (HZ5.out.set_ 0 (.slice none 0 0)).set_ 1 (.int .i64 0)
      simpa using hz
    have hcz : Chg (fun k => k = g) w5 wz := by rw [hwz]; exact Chg.seto (Chg.seto (Chg.refl _ _))
    have hcw := HCW5.out.trans hcz fun k hk e => by have : k = g := e; have := HG.out; omega
    rw [← hwz]
    have zx0 := hb9.cell 0
    have zx1 := hb9.cell 1
    simp at zx0 zx1
    exact bodyPost_ret (v := .tuple #[.agg #[.slice none 0 0, .int .i64 0], .int .i64 V]) (by simp [results, Tryz.results67, go_sem, zx0, zx1]) rfl ⟨rfl, hcw⟩
end Go.Proofs.YtjloddlkleileaaGreatDoor
