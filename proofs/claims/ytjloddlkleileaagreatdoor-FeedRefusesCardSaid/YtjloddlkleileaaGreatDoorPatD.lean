/-
  The program's reader of patterns: cond.
-/
import Derived.Test.YtjloddlkleileaaGreatDoorPatC
namespace Go.Proofs.YtjloddlkleileaaGreatDoor
open Go.RowKit
set_option linter.unusedVariables false
set_option linter.unusedSimpArgs false

theorem at_end {s : ByteArray} {k : Nat} (h : s.size ≤ k) : pa_at s k = 0 := by unfold pa_at; rw [List.getD_eq_getElem?_getD, List.getElem?_eq_none (by rw [pa_len]; exact h)]; rfl
theorem isB_eq {s : ByteArray} {k : Nat} {a : UInt8} {x : Int} (hx : x = (a.toNat : Int)) (ha : 0 < x) : (pa_at s k == x) = isB s.data.toList k a a := by
  cases h : isB s.data.toList k a a with
  | true => have := isB_yes h; rw [beq_iff_eq]; omega
  | false =>
    have := isB_no h
    rw [beq_eq_false_iff_ne]
    intro e
    rcases this with h | h
    · have := at_end h; omega
    · omega
theorem isB_dig {s : ByteArray} {k : Nat} : (isB s.data.toList k 48 57 = true → decide (pa_at s k ≥ 48) = true ∧ decide (pa_at s k ≤ 57) = true) ∧ (isB s.data.toList k 48 57 = false → decide (pa_at s k ≥ 48) = false ∨ (decide (pa_at s k ≥ 48) = true ∧ decide (pa_at s k ≤ 57) = false)) := by
  have e48 : (48 : UInt8).toNat = 48 := rfl
  have e57 : (57 : UInt8).toNat = 57 := rfl
  simp only [decide_eq_true_eq, decide_eq_false_iff_not]
  constructor
  · intro h
    have := isB_yes h
    omega
  · intro h
    rcases isB_no h with h | h
    · have := at_end h; omega
    · omega
theorem digitsV_in {s : List UInt8} {m : Nat} {n : Int} {k d : Nat} (h0 : 0 ≤ n) (h1 : n < pow10 d) : 0 ≤ (digitsV s m n k).1 ∧ (digitsV s m n k).1 < pow10 (d + m) := by
  induction m generalizing n k d with
  | zero => exact ⟨h0, h1⟩
  | succ m ih =>
    rw [digitsV]
    split
    · rename_i hb
      have hb2 : 48 ≤ ((s.getD k 0).toNat : Int) ∧ ((s.getD k 0).toNat : Int) ≤ 57 := by
        unfold isB at hb
        rw [List.getD_eq_getElem?_getD]
        split at hb
        · rename_i c hc
          rw [hc, Option.getD_some]
          simp only [Bool.and_eq_true, decide_eq_true_eq, UInt8.le_iff_toNat_le] at hb
          have e48 : (48 : UInt8).toNat = 48 := rfl
          have e57 : (57 : UInt8).toNat = 57 := rfl
          omega
        · cases hb
      have := ih (n := 10 * n + ((s.getD k 0).toNat - 48 : Int)) (k := k + 1) (d := d + 1) (by omega) (by rw [pow10_succ]; omega)
      rw [show d + (m + 1) = d + 1 + m from by omega]
      exact this
    · refine ⟨h0, ?_⟩
      have : pow10 d ≤ pow10 (d + (m + 1)) := by
        unfold pow10
        have h := Nat.pow_le_pow_right (n := 10) (by decide) (show d ≤ d + (m + 1) by omega)
        have e : ∀ x : Nat, ((10 ^ x : Nat) : Int) = (10 : Int) ^ x := fun x => by simp
        rw [← e, ← e]
        omega
      omega
theorem numberP_in {s : List UInt8} {k j : Nat} {a : UInt8} {n : Int} (ha : 48 ≤ a.toNat) (h : numberP s k a = .inl (n, j)) : 0 ≤ n ∧ n < 1000000000 := by
  unfold numberP at h
  cases hv : oneV s k a 57 with
  | inr d => rw [hv] at h; cases h
  | inl y =>
    obtain ⟨c, j1⟩ := y
    rw [hv] at h
    have h2 : (if c = 48 then (.inl (0, j1) : PRes Int) else .inl (digitsV s 8 ((c.toNat : Int) - 48) j1)) = .inl (n, j) := h
    by_cases hc : c = 48
    · rw [if_pos hc] at h2
      injection h2 with h2
      injection h2 with e _
      omega
    · rw [if_neg hc] at h2
      injection h2 with h2
      have hc2 : 48 ≤ (c.toNat : Int) ∧ (c.toNat : Int) ≤ 57 := by
        unfold oneV at hv
        split at hv
        · rename_i hb
          injection hv with hv
          injection hv with e1 _
          unfold isB at hb
          rw [List.getD_eq_getElem?_getD] at e1
          split at hb
          · rename_i c' hc'
            rw [hc', Option.getD_some] at e1
            subst e1
            simp only [Bool.and_eq_true, decide_eq_true_eq, UInt8.le_iff_toNat_le] at hb
            have e57 : (57 : UInt8).toNat = 57 := rfl
            omega
          · cases hb
        · cases hv
      have := digitsV_in (s := s) (m := 8) (n := (c.toNat : Int) - 48) (k := j1) (d := 1) (by omega) (by show _ < (10 : Int); omega)
      rw [h2] at this
      exact this
/- a call of has that finds its byte, or not: contract, number of the world behind -/
/- a call that may panic: contract, number behind, what it reads -/
/- a number, with its bounds -/
/- has, the byte is there: which, at, place's bound, number -/
/- behind a call: both blocks of the walk are as they were -/
/- a field of the struct is set: world's number, field, value, new number -/
/- the end: world's number, the five values, k's bound -/
set_option maxRecDepth 100000 in
set_option maxHeartbeats 4000000 in
theorem pa_cond_many (r : Nat) (s : ByteArray) (k : Nat) (hk : k ≤ s.size) (hs : s.size ≤ 4096) (w : World) (hR : PRd w r s k) : Calls Tryz.prog 254 #[.pointer (some ⟨r, 0, none⟩), .int .i64 16] w (PPost w r s ((condP s.data.toList k 16).map cdV)) := by
  have he : condP s.data.toList k 16 = .inr (condMany s.data.toList k) := by rw [condP, if_pos rfl]
  conv at he => rhs; unfold condMany
  have hrl := hR.lt
  obtain ⟨w1, hw1⟩ : ∃ w1, w1 = w.alloc (.cells #[.int .u8 0, .int .i64 0, .int .u8 0, .int .i64 0] 350) := ⟨_, rfl⟩
  have hc1 : Chg (fun k => k = r) w w1 := by rw [hw1]; ((repeat (first | exact Chg.refl _ _ | assumption | refine Chg.drewN ?_ _ | refine Chg.drew ?_ | refine Chg.alloc ?_ _ | refine Chg.setCell ?_ (by first | (simp; done) | (simp; omega) | (intro h; simp at h; omega)) _)))
  have hR1 : PRd w1 r s k := by rw [hw1]; exact Blk.alloc hR _
  have y1 := hR1.cell 1
  simp at y1
  have HR := Lib.hid hR1
  have HC := Lib.hid hc1
  have HE := Lib.hid he
  have HW1 := Lib.hid hw1
  clear hR1 hc1 he hw1
  clear hR
  go_enter Tryz.func254, Tryz.ntmps254
  go_upto_region 1 with fail
  rw [← HW1.out]
  have ho := pa_one r s k 97 122 97 122 rfl rfl hk hs _ HR.out
  unfold oneV at ho
  cases h2 : isB s.data.toList k 97 122 with
  | true =>
    have he := HE.out
    rw [if_pos h2] at he
    clear HE
    have HE := Lib.hid he
    clear he
    rw [if_pos h2] at ho
    have HO := Lib.hid ho
    clear ho
    clear h2
    go_wp2_with fail
    refine HO.out.mono ?_
    rintro e w3 ⟨rfl, hR3, hk3, h6⟩
    have H6 := Lib.hid h6
    clear h6
    go_wp2_with fail
    refine (pa_fail _ _ _ _).mono ?_
    rintro e w4 ⟨rfl, rfl⟩
    go_wp2_with fail
    exact ⟨rfl, pa_post (by rw [HE.out]; rfl) HC.out H6.out⟩
  | false =>
    have he := HE.out
    rw [if_neg (by rw [h2]; decide)] at he
    clear HE
    have HE := Lib.hid he
    clear he
    rw [if_neg (by rw [h2]; decide)] at ho
    have HO := Lib.hid ho
    clear ho
    clear h2
    go_wp2_with fail
    refine HO.out.mono ?_
    rintro e w3 ⟨⟨n, rfl⟩, h6⟩
    have H6 := Lib.hid h6
    clear h6
    go_wp2_with fail
    exact ⟨rfl, pa_post (by rw [HE.out]; rfl) HC.out H6.out⟩
set_option maxRecDepth 100000 in
set_option maxHeartbeats 4000000 in
theorem pa_cond (r : Nat) (s : ByteArray) (k n : Nat) (hn : n ≠ 16) (hk : k ≤ s.size) (hs : s.size ≤ 4096) (w : World) (hR : PRd w r s k) : Calls Tryz.prog 254 #[.pointer (some ⟨r, 0, none⟩), .int .i64 (n : Int)] w (PPost w r s ((condP s.data.toList k n).map cdV)) := by
  have he : condP s.data.toList k n = condP s.data.toList k n := rfl
  conv at he => rhs; rw [condP, if_neg hn]
  have q : ((n : Int) == 16) = false := by rw [beq_eq_false_iff_ne]; omega
  have hrl := hR.lt
  obtain ⟨w1, hw1⟩ : ∃ w1, w1 = w.alloc (.cells #[.int .u8 0, .int .i64 0, .int .u8 0, .int .i64 0] 350) := ⟨_, rfl⟩
  have hc1 : Chg (fun k => k = r) w w1 := by rw [hw1]; ((repeat (first | exact Chg.refl _ _ | assumption | refine Chg.drewN ?_ _ | refine Chg.drew ?_ | refine Chg.alloc ?_ _ | refine Chg.setCell ?_ (by first | (simp; done) | (simp; omega) | (intro h; simp at h; omega)) _)))
  have hR1 : PRd w1 r s k := by rw [hw1]; exact Blk.alloc hR _
  have hb1 : Blk w1 w.heap.size 350 #[.int .u8 0, .int .i64 0, .int .u8 0, .int .i64 0] := by rw [hw1]; exact Blk.new _ _ _
  have y1 := hR1.cell 1
  simp at y1
  have HR := Lib.hid hR1
  have HC := Lib.hid hc1
  have HE := Lib.hid he
  have HW1 := Lib.hid hw1
  have HB := Lib.hid hb1
  clear hR1 hc1 he hw1 hb1
  clear hR hn
  go_enter Tryz.func254, Tryz.ntmps254
  go_upto_region 1 with fail
  rw [← HW1.out]
  obtain ⟨g, hg'⟩ : ∃ g, w.heap.size = g := ⟨_, rfl⟩
  rw [hg'] at HB ⊢
  have hg : r < g := by omega
  have hgw : w.heap.size ≤ g := by omega
  have HG' := Lib.hid hg'
  have HRL := Lib.hid hrl
  clear hg' hrl
  go_wp2_with fail
  refine (pa_one r s _ 97 122 97 122 rfl rfl hk hs _ HR.out).mono ?_
  intro e w2 h2
  cases hv2 : oneV s.data.toList k 97 122 with
  | inr c =>
    rw [hv2] at h2
    obtain ⟨⟨n, rfl⟩, h6⟩ := h2
    have he := HE.out
    rw [hv2] at he
    have HE2 := Lib.hid he
    have H6 := Lib.hid h6
    clear he h6
    clear hv2
    go_wp2_with fail
    exact ⟨rfl, pa_post (by rw [HE2.out]; rfl) HC.out H6.out⟩
  | inl x =>
  obtain ⟨x2, k2⟩ := x
  rw [hv2] at h2
  obtain ⟨rfl, hR2, hk2, h6⟩ := h2
  have he := HE.out
  rw [hv2] at he
  simp only [PRes.bind] at he
  have hc2 := HC.out.then h6
  have H6 := Lib.hid h6
  clear h6
  clear HR HC HE hv2
  have HR := Lib.hid hR2
  have HC := Lib.hid hc2
  have HE := Lib.hid he
  clear hR2 hc2 he
  have hb := HB.out.chg H6.out (Nat.ne_of_gt hg)
  clear HB H6 y1
  have HB := Lib.hid hb
  clear hb
  go_wp2_with fail
  refine (pa_op r s _ hk2 hs _ HR.out).mono ?_
  intro e w3 h3
  cases hv3 : opP s.data.toList k2 with
  | inr c =>
    rw [hv3] at h3
    obtain ⟨⟨n, rfl⟩, h6⟩ := h3
    have he := HE.out
    rw [hv3] at he
    have HE2 := Lib.hid he
    have H6 := Lib.hid h6
    clear he h6
    clear hv3
    go_wp2_with fail
    exact ⟨rfl, pa_post (by rw [HE2.out]; rfl) HC.out H6.out⟩
  | inl x =>
  obtain ⟨x3, k3⟩ := x
  rw [hv3] at h3
  obtain ⟨rfl, hR3, hk3, h6⟩ := h3
  have he := HE.out
  rw [hv3] at he
  simp only [PRes.bind] at he
  have hc3 := HC.out.then h6
  have H6 := Lib.hid h6
  clear h6
  clear HR HC HE hv3
  have HR := Lib.hid hR3
  have HC := Lib.hid hc3
  have HE := Lib.hid he
  clear hR3 hc3 he
  have hb := HB.out.chg H6.out (Nat.ne_of_gt hg)
  clear HB H6
  have HB := Lib.hid hb
  clear hb
  have hgs2 : r < w3.heap.size := Blk.lt HR.out
  have hgb2 : g < w3.heap.size := Blk.lt HB.out
  have hgl2 : w.heap.size ≤ w3.heap.size := HC.out.size
  obtain ⟨w4, hw4⟩ : ∃ w4, w4 = w3.alloc (.cells #[bV x2, .int .i64 x3, .int .u8 0, .int .i64 0] 350) := ⟨_, rfl⟩
  have hc3 := HC.out.allocw hw4
  have hR3 := HR.out.allocw hw4
  have hb3 := HB.out.allocw hw4
  have hz3 : Blk w4 w3.heap.size 350 #[bV x2, .int .i64 x3, .int .u8 0, .int .i64 0] := by rw [hw4]; exact Blk.new _ _ _
  clear HR HC HB
  have HR := Lib.hid hR3
  have HC := Lib.hid hc3
  have HB := Lib.hid hb3
  have HZ := Lib.hid hz3
  have HW4 := Lib.hid hw4
  clear hR3 hc3 hb3 hz3 hw4
  go_upto_region 6 with fail
  rw [← HW4.out]
  obtain ⟨gs, hgs'⟩ : ∃ gs, w3.heap.size = gs := ⟨_, rfl⟩
  rw [hgs'] at HZ ⊢
  have hgs : r < gs := by omega
  have hgw2 : w.heap.size ≤ gs := by omega
  have hgg : g ≠ gs := by omega
  clear hgs' hgs2 hgb2 hgl2 HW4
  go_wp2_with fail
  refine (pa_peek r s k3 hk3 _ HR.out).mono ?_
  rintro e w5 ⟨rfl, nq, hw⟩
  have hR5 : PRd w5 r s k3 := by rw [← hw]; exact HR.out.drewN _
  have hc5 : Chg (fun k => k = r) w w5 := by rw [← hw]; exact HC.out.drewN _
  have hb5 : Blk w5 g 350 #[.int .u8 0, .int .i64 0, .int .u8 0, .int .i64 0] := by rw [← hw]; exact HB.out.drewN _
  have hz5 : Blk w5 gs 350 #[bV x2, .int .i64 x3, .int .u8 0, .int .i64 0] := by rw [← hw]; exact HZ.out.drewN _
  clear HR HC HB HZ hw
  have HR := Lib.hid hR5
  have HC := Lib.hid hc5
  have HB := Lib.hid hb5
  have HZ := Lib.hid hz5
  clear hR5 hc5 hb5 hz5
  cases h1 : isB s.data.toList k3 45 45 with
  | true =>
    have he := HE.out
    rw [if_pos h1] at he
    clear HE
    have HE := Lib.hid he
    clear he
    have q1 := isB_eq (s := s) (k := k3) (a := 45) (x := 45) rfl (by decide)
    rw [h1] at q1
    have hk4 := (isB_yes h1).1
    have hi := IntWalk.i64_in ((k3 : Int) + 1) (by omega)
    have y1 := HR.out.cell 1
    have f1 := HR.out.frozen 1
    simp at y1
    clear h1
    go_upto_region 14 with fail
    obtain ⟨w6, hw6⟩ : ∃ w6, w6 = w5.setCell ⟨r, 1, none⟩ (.int .i64 ((k3 : Int) + 1)) := ⟨_, rfl⟩
    rw [← hw6]
    have hR6 : PRd w6 r s (k3 + 1) := by rw [hw6]; show Blk _ _ _ _; have := HR.out.set_ 1 (.int .i64 ((k3 : Int) + 1)); simpa using this
    have hc6 : Chg (fun k => k = r) w w6 := by rw [hw6]; exact HC.out.setCell (fun _ => rfl) _
    have hb6 := HB.out.farw hw6 (Nat.ne_of_gt hg)
    have hz6 := HZ.out.farw hw6 (Nat.ne_of_gt hgs)
    clear HR HC HB HZ hw6 y1 f1 q1 hi
    have HR := Lib.hid hR6
    have HC := Lib.hid hc6
    have HB := Lib.hid hb6
    have HZ := Lib.hid hz6
    clear hR6 hc6 hb6 hz6
    go_wp2_with fail
    refine (pa_number r s _ 49 49 rfl (by decide) hk4 hs _ HR.out).mono ?_
    intro e w7 h7
    cases hv7 : numberP s.data.toList (k3 + 1) 49 with
    | inr c =>
      rw [hv7] at h7
      obtain ⟨⟨n, rfl⟩, h6⟩ := h7
      have he := HE.out
      rw [hv7] at he
      have HE2 := Lib.hid he
      have H6 := Lib.hid h6
      clear he h6
      clear hv7
      go_wp2_with fail
      exact ⟨rfl, pa_post (by rw [HE2.out]; rfl) HC.out H6.out⟩
    | inl x =>
    obtain ⟨x7, k7⟩ := x
    rw [hv7] at h7
    obtain ⟨rfl, hR7, hk7, h6⟩ := h7
    have he := HE.out
    rw [hv7] at he
    simp only [PRes.bind] at he
    have hc7 := HC.out.then h6
    have H6 := Lib.hid h6
    clear h6
    have hx7 := numberP_in (by decide) hv7
    clear HR HC HE hv7
    have HR := Lib.hid hR7
    have HC := Lib.hid hc7
    have HE := Lib.hid he
    clear hR7 hc7 he
    have hb := HB.out.chg H6.out (Nat.ne_of_gt hg)
    have hz := HZ.out.chg H6.out (Nat.ne_of_gt hgs)
    clear HB HZ H6
    have HB := Lib.hid hb
    have HZ := Lib.hid hz
    clear hb hz
    have hi := IntWalk.i64_in (-x7) (by omega)
    have z0 := HZ.out.cell 0
    have z1 := HZ.out.cell 1
    have z2 := HZ.out.cell 2
    have z3 := HZ.out.cell 3
    simp at z0 z1 z2 z3
    have zf0 := HZ.out.frozen 0
    have zf1 := HZ.out.frozen 1
    have zf2 := HZ.out.frozen 2
    have zf3 := HZ.out.frozen 3
    go_upto_region 17 with fail
    obtain ⟨w8, hw8⟩ : ∃ w', w' = w7.setCell ⟨gs, 3, none⟩ (.int .i64 (-x7)) := ⟨_, rfl⟩
    rw [← hw8]
    have hR3 := HR.out.farw hw8 (Nat.ne_of_lt hgs)
    have hc3 := HC.out.setw hw8 hgw2
    have hb3 := HB.out.farw hw8 hgg
    have hz3 := HZ.out.setw hw8
    simp only [List.setIfInBounds_toArray, List.set_cons_zero, List.set_cons_succ] at hz3
    clear HR HC HB HZ hw8
    have HR := Lib.hid hR3
    have HC := Lib.hid hc3
    have HB := Lib.hid hb3
    have HZ := Lib.hid hz3
    clear hR3 hc3 hb3 hz3
    clear z0 z1 z2 z3 zf0 zf1 zf2 zf3 hi
    have z0 := HZ.out.cell 0
    have z1 := HZ.out.cell 1
    have z2 := HZ.out.cell 2
    have z3 := HZ.out.cell 3
    simp at z0 z1 z2 z3
    have zf0 := HZ.out.frozen 0
    have zf1 := HZ.out.frozen 1
    have zf2 := HZ.out.frozen 2
    have zf3 := HZ.out.frozen 3
    have y0 := HB.out.cell 0
    have y1 := HB.out.cell 1
    have y2 := HB.out.cell 2
    have y3 := HB.out.cell 3
    simp at y0 y1 y2 y3
    have yf0 := HB.out.frozen 0
    have yf1 := HB.out.frozen 1
    have yf2 := HB.out.frozen 2
    have yf3 := HB.out.frozen 3
    go_wp2_with fail
    obtain ⟨wz, hwz⟩ : ∃ wz : World, wz = ((((w8.setCell ⟨g, 0, none⟩ (bV x2)).setCell ⟨g, 1, none⟩ (.int .i64 x3)).setCell ⟨g, 2, none⟩ (.int .u8 0)).setCell ⟨g, 3, none⟩ (.int .i64 (-x7))) := ⟨_, rfl⟩
    have hb9 : Blk wz g 350 #[bV x2, .int .i64 x3, .int .u8 0, .int .i64 (-x7)] := by
      rw [hwz]
      simpa using (((HB.out.set_ 0 (bV x2)).set_ 1 (.int .i64 x3)).set_ 2 (.int .u8 0)).set_ 3 (.int .i64 (-x7))
    have hr9 := (((HR.out.farw rfl (Nat.ne_of_lt hg)).farw rfl (Nat.ne_of_lt hg)).farw rfl (Nat.ne_of_lt hg)).farw hwz (Nat.ne_of_lt hg)
    have hc9 : Chg (fun k => k = r) w wz := by rw [hwz]; have := HC.out; ((repeat (first | with_reducible exact Chg.refl _ _ | with_reducible assumption | with_reducible refine Chg.drewN ?_ _ | with_reducible refine Chg.drew ?_ | with_reducible refine Chg.alloc ?_ _ | with_reducible refine Chg.setCell ?_ (by first | (simp; done) | (simp; omega) | (intro h; simp at h; omega)) _)))
    rw [← hwz]
    have zx0 := hb9.cell 0
    have zx1 := hb9.cell 1
    have zx2 := hb9.cell 2
    have zx3 := hb9.cell 3
    simp at zx0 zx1 zx2 zx3
    refine bodyPost_ret (v := .agg #[bV x2, .int .i64 x3, .int .u8 0, .int .i64 (-x7)]) (by simp [results, Tryz.results254, go_sem, zx0, zx1, zx2, zx3]) rfl ?_
    rw [HE.out]
    exact ⟨rfl, hr9, hk7, hc9⟩
  | false =>
    have he := HE.out
    rw [if_neg (by rw [h1]; decide)] at he
    clear HE
    have HE := Lib.hid he
    clear he
    have q1 := isB_eq (s := s) (k := k3) (a := 45) (x := 45) rfl (by decide)
    rw [h1] at q1
    clear h1
    cases h1 : isB s.data.toList k3 48 57 with
    | true =>
      have he := HE.out
      rw [if_pos h1] at he
      clear HE
      have HE := Lib.hid he
      clear he
      obtain ⟨q2, q3⟩ := isB_dig.1 h1
      clear h1
      go_wp2_with fail
      refine (pa_number r s _ 48 48 rfl (by decide) hk3 hs _ HR.out).mono ?_
      intro e w7 h7
      cases hv7 : numberP s.data.toList k3 48 with
      | inr c =>
        rw [hv7] at h7
        obtain ⟨⟨n, rfl⟩, h6⟩ := h7
        have he := HE.out
        rw [hv7] at he
        have HE2 := Lib.hid he
        have H6 := Lib.hid h6
        clear he h6
        clear hv7
        go_wp2_with fail
        exact ⟨rfl, pa_post (by rw [HE2.out]; rfl) HC.out H6.out⟩
      | inl x =>
      obtain ⟨x7, k7⟩ := x
      rw [hv7] at h7
      obtain ⟨rfl, hR7, hk7, h6⟩ := h7
      have he := HE.out
      rw [hv7] at he
      simp only [PRes.bind] at he
      have hc7 := HC.out.then h6
      have H6 := Lib.hid h6
      clear h6
      have hx7 := numberP_in (by decide) hv7
      clear HR HC HE hv7
      have HR := Lib.hid hR7
      have HC := Lib.hid hc7
      have HE := Lib.hid he
      clear hR7 hc7 he
      have hb := HB.out.chg H6.out (Nat.ne_of_gt hg)
      have hz := HZ.out.chg H6.out (Nat.ne_of_gt hgs)
      clear HB HZ H6
      have HB := Lib.hid hb
      have HZ := Lib.hid hz
      clear hb hz
      have z0 := HZ.out.cell 0
      have z1 := HZ.out.cell 1
      have z2 := HZ.out.cell 2
      have z3 := HZ.out.cell 3
      simp at z0 z1 z2 z3
      have zf0 := HZ.out.frozen 0
      have zf1 := HZ.out.frozen 1
      have zf2 := HZ.out.frozen 2
      have zf3 := HZ.out.frozen 3
      go_upto_region 17 with fail
      obtain ⟨w8, hw8⟩ : ∃ w', w' = w7.setCell ⟨gs, 3, none⟩ (.int .i64 x7) := ⟨_, rfl⟩
      rw [← hw8]
      have hR3 := HR.out.farw hw8 (Nat.ne_of_lt hgs)
      have hc3 := HC.out.setw hw8 hgw2
      have hb3 := HB.out.farw hw8 hgg
      have hz3 := HZ.out.setw hw8
      simp only [List.setIfInBounds_toArray, List.set_cons_zero, List.set_cons_succ] at hz3
      clear HR HC HB HZ hw8
      have HR := Lib.hid hR3
      have HC := Lib.hid hc3
      have HB := Lib.hid hb3
      have HZ := Lib.hid hz3
      clear hR3 hc3 hb3 hz3
      clear z0 z1 z2 z3 zf0 zf1 zf2 zf3
      have z0 := HZ.out.cell 0
      have z1 := HZ.out.cell 1
      have z2 := HZ.out.cell 2
      have z3 := HZ.out.cell 3
      simp at z0 z1 z2 z3
      have zf0 := HZ.out.frozen 0
      have zf1 := HZ.out.frozen 1
      have zf2 := HZ.out.frozen 2
      have zf3 := HZ.out.frozen 3
      have y0 := HB.out.cell 0
      have y1 := HB.out.cell 1
      have y2 := HB.out.cell 2
      have y3 := HB.out.cell 3
      simp at y0 y1 y2 y3
      have yf0 := HB.out.frozen 0
      have yf1 := HB.out.frozen 1
      have yf2 := HB.out.frozen 2
      have yf3 := HB.out.frozen 3
      go_wp2_with fail
      obtain ⟨wz, hwz⟩ : ∃ wz : World, wz = ((((w8.setCell ⟨g, 0, none⟩ (bV x2)).setCell ⟨g, 1, none⟩ (.int .i64 x3)).setCell ⟨g, 2, none⟩ (.int .u8 0)).setCell ⟨g, 3, none⟩ (.int .i64 x7)) := ⟨_, rfl⟩
      have hb9 : Blk wz g 350 #[bV x2, .int .i64 x3, .int .u8 0, .int .i64 x7] := by
        rw [hwz]
        simpa using (((HB.out.set_ 0 (bV x2)).set_ 1 (.int .i64 x3)).set_ 2 (.int .u8 0)).set_ 3 (.int .i64 x7)
      have hr9 := (((HR.out.farw rfl (Nat.ne_of_lt hg)).farw rfl (Nat.ne_of_lt hg)).farw rfl (Nat.ne_of_lt hg)).farw hwz (Nat.ne_of_lt hg)
      have hc9 : Chg (fun k => k = r) w wz := by rw [hwz]; have := HC.out; ((repeat (first | with_reducible exact Chg.refl _ _ | with_reducible assumption | with_reducible refine Chg.drewN ?_ _ | with_reducible refine Chg.drew ?_ | with_reducible refine Chg.alloc ?_ _ | with_reducible refine Chg.setCell ?_ (by first | (simp; done) | (simp; omega) | (intro h; simp at h; omega)) _)))
      rw [← hwz]
      have zx0 := hb9.cell 0
      have zx1 := hb9.cell 1
      have zx2 := hb9.cell 2
      have zx3 := hb9.cell 3
      simp at zx0 zx1 zx2 zx3
      refine bodyPost_ret (v := .agg #[bV x2, .int .i64 x3, .int .u8 0, .int .i64 x7]) (by simp [results, Tryz.results254, go_sem, zx0, zx1, zx2, zx3]) rfl ?_
      rw [HE.out]
      exact ⟨rfl, hr9, hk7, hc9⟩
    | false =>
      have he := HE.out
      rw [if_neg (by rw [h1]; decide)] at he
      clear HE
      have HE := Lib.hid he
      clear he
      have hq := isB_dig.2 h1
      clear h1
      have hq : ∃ b1 b2, decide (pa_at s k3 ≥ 48) = b1 ∧ decide (pa_at s k3 ≤ 57) = b2 ∧ (b1 = false ∨ b1 = true ∧ b2 = false) := ⟨_, _, rfl, rfl, hq⟩
      obtain ⟨b1, b2, q2, q3, hq⟩ := hq
      rcases hq with rfl | ⟨rfl, rfl⟩
      all_goals
        go_wp2_with fail
        refine (pa_one r s _ 97 122 97 122 rfl rfl hk3 hs _ HR.out).mono ?_
        intro e w7 h7
        cases hv7 : oneV s.data.toList k3 97 122 with
        | inr c =>
          rw [hv7] at h7
          obtain ⟨⟨n, rfl⟩, h6⟩ := h7
          have he := HE.out
          rw [hv7] at he
          have HE2 := Lib.hid he
          have H6 := Lib.hid h6
          clear he h6
          clear hv7
          go_wp2_with fail
          exact ⟨rfl, pa_post (by rw [HE2.out]; rfl) HC.out H6.out⟩
        | inl x =>
        obtain ⟨x7, k7⟩ := x
        rw [hv7] at h7
        obtain ⟨rfl, hR7, hk7, h6⟩ := h7
        have he := HE.out
        rw [hv7] at he
        simp only [PRes.bind] at he
        have hc7 := HC.out.then h6
        have H6 := Lib.hid h6
        clear h6
        clear HR HC HE hv7
        have HR := Lib.hid hR7
        have HC := Lib.hid hc7
        have HE := Lib.hid he
        clear hR7 hc7 he
        have hb := HB.out.chg H6.out (Nat.ne_of_gt hg)
        have hz := HZ.out.chg H6.out (Nat.ne_of_gt hgs)
        clear HB HZ H6
        have HB := Lib.hid hb
        have HZ := Lib.hid hz
        clear hb hz
        have z0 := HZ.out.cell 0
        have z1 := HZ.out.cell 1
        have z2 := HZ.out.cell 2
        have z3 := HZ.out.cell 3
        simp at z0 z1 z2 z3
        have zf0 := HZ.out.frozen 0
        have zf1 := HZ.out.frozen 1
        have zf2 := HZ.out.frozen 2
        have zf3 := HZ.out.frozen 3
        go_upto_region 8 with fail
        obtain ⟨w8, hw8⟩ : ∃ w', w' = w7.setCell ⟨gs, 2, none⟩ (bV x7) := ⟨_, rfl⟩
        rw [← hw8]
        have hR3 := HR.out.farw hw8 (Nat.ne_of_lt hgs)
        have hc3 := HC.out.setw hw8 hgw2
        have hb3 := HB.out.farw hw8 hgg
        have hz3 := HZ.out.setw hw8
        simp only [List.setIfInBounds_toArray, List.set_cons_zero, List.set_cons_succ] at hz3
        clear HR HC HB HZ hw8
        have HR := Lib.hid hR3
        have HC := Lib.hid hc3
        have HB := Lib.hid hb3
        have HZ := Lib.hid hz3
        clear hR3 hc3 hb3 hz3
        clear z0 z1 z2 z3 zf0 zf1 zf2 zf3 q1 q2 q3
        cases h1 : isB s.data.toList k7 43 43 with
        | true =>
          have he := HE.out
          rw [if_pos h1] at he
          clear HE
          have HE := Lib.hid he
          clear he
          go_wp2_with fail
          refine (pa_has_yes h1 rfl hk7 hs HR.out).mono ?_
          rintro e w9 ⟨rfl, hR9, hk9, h6⟩
          have hc9 := HC.out.then h6
          clear HR HC
          have HR := Lib.hid hR9
          have HC := Lib.hid hc9
          have H6 := Lib.hid h6
          clear hR9 hc9 h6
          clear h1
          have hb := HB.out.chg H6.out (Nat.ne_of_gt hg)
          have hz := HZ.out.chg H6.out (Nat.ne_of_gt hgs)
          clear HB HZ H6
          have HB := Lib.hid hb
          have HZ := Lib.hid hz
          clear hb hz
          go_wp2_with fail
          refine (pa_number r s _ 49 49 rfl (by decide) hk9 hs _ HR.out).mono ?_
          intro e w10 h10
          cases hv10 : numberP s.data.toList (k7 + 1) 49 with
          | inr c =>
            rw [hv10] at h10
            obtain ⟨⟨n, rfl⟩, h6⟩ := h10
            have he := HE.out
            rw [hv10] at he
            have HE2 := Lib.hid he
            have H6 := Lib.hid h6
            clear he h6
            clear hv10
            go_wp2_with fail
            exact ⟨rfl, pa_post (by rw [HE2.out]; rfl) HC.out H6.out⟩
          | inl x =>
          obtain ⟨x10, k10⟩ := x
          rw [hv10] at h10
          obtain ⟨rfl, hR10, hk10, h6⟩ := h10
          have he := HE.out
          rw [hv10] at he
          simp only [PRes.bind] at he
          have hc10 := HC.out.then h6
          have H6 := Lib.hid h6
          clear h6
          have hx10 := numberP_in (by decide) hv10
          clear HR HC HE hv10
          have HR := Lib.hid hR10
          have HC := Lib.hid hc10
          have HE := Lib.hid he
          clear hR10 hc10 he
          have hb := HB.out.chg H6.out (Nat.ne_of_gt hg)
          have hz := HZ.out.chg H6.out (Nat.ne_of_gt hgs)
          clear HB HZ H6
          have HB := Lib.hid hb
          have HZ := Lib.hid hz
          clear hb hz
          have z0 := HZ.out.cell 0
          have z1 := HZ.out.cell 1
          have z2 := HZ.out.cell 2
          have z3 := HZ.out.cell 3
          simp at z0 z1 z2 z3
          have zf0 := HZ.out.frozen 0
          have zf1 := HZ.out.frozen 1
          have zf2 := HZ.out.frozen 2
          have zf3 := HZ.out.frozen 3
          go_upto_region 17 with fail
          obtain ⟨w11, hw11⟩ : ∃ w', w' = w10.setCell ⟨gs, 3, none⟩ (.int .i64 x10) := ⟨_, rfl⟩
          rw [← hw11]
          have hR3 := HR.out.farw hw11 (Nat.ne_of_lt hgs)
          have hc3 := HC.out.setw hw11 hgw2
          have hb3 := HB.out.farw hw11 hgg
          have hz3 := HZ.out.setw hw11
          simp only [List.setIfInBounds_toArray, List.set_cons_zero, List.set_cons_succ] at hz3
          clear HR HC HB HZ hw11
          have HR := Lib.hid hR3
          have HC := Lib.hid hc3
          have HB := Lib.hid hb3
          have HZ := Lib.hid hz3
          clear hR3 hc3 hb3 hz3
          clear z0 z1 z2 z3 zf0 zf1 zf2 zf3
          have z0 := HZ.out.cell 0
          have z1 := HZ.out.cell 1
          have z2 := HZ.out.cell 2
          have z3 := HZ.out.cell 3
          simp at z0 z1 z2 z3
          have zf0 := HZ.out.frozen 0
          have zf1 := HZ.out.frozen 1
          have zf2 := HZ.out.frozen 2
          have zf3 := HZ.out.frozen 3
          have y0 := HB.out.cell 0
          have y1 := HB.out.cell 1
          have y2 := HB.out.cell 2
          have y3 := HB.out.cell 3
          simp at y0 y1 y2 y3
          have yf0 := HB.out.frozen 0
          have yf1 := HB.out.frozen 1
          have yf2 := HB.out.frozen 2
          have yf3 := HB.out.frozen 3
          go_wp2_with fail
          obtain ⟨wz, hwz⟩ : ∃ wz : World, wz = ((((w11.setCell ⟨g, 0, none⟩ (bV x2)).setCell ⟨g, 1, none⟩ (.int .i64 x3)).setCell ⟨g, 2, none⟩ (bV x7)).setCell ⟨g, 3, none⟩ (.int .i64 x10)) := ⟨_, rfl⟩
          have hb9 : Blk wz g 350 #[bV x2, .int .i64 x3, bV x7, .int .i64 x10] := by
            rw [hwz]
            simpa using (((HB.out.set_ 0 (bV x2)).set_ 1 (.int .i64 x3)).set_ 2 (bV x7)).set_ 3 (.int .i64 x10)
          have hr9 := (((HR.out.farw rfl (Nat.ne_of_lt hg)).farw rfl (Nat.ne_of_lt hg)).farw rfl (Nat.ne_of_lt hg)).farw hwz (Nat.ne_of_lt hg)
          have hc9 : Chg (fun k => k = r) w wz := by rw [hwz]; have := HC.out; ((repeat (first | with_reducible exact Chg.refl _ _ | with_reducible assumption | with_reducible refine Chg.drewN ?_ _ | with_reducible refine Chg.drew ?_ | with_reducible refine Chg.alloc ?_ _ | with_reducible refine Chg.setCell ?_ (by first | (simp; done) | (simp; omega) | (intro h; simp at h; omega)) _)))
          rw [← hwz]
          have zx0 := hb9.cell 0
          have zx1 := hb9.cell 1
          have zx2 := hb9.cell 2
          have zx3 := hb9.cell 3
          simp at zx0 zx1 zx2 zx3
          refine bodyPost_ret (v := .agg #[bV x2, .int .i64 x3, bV x7, .int .i64 x10]) (by simp [results, Tryz.results254, go_sem, zx0, zx1, zx2, zx3]) rfl ?_
          rw [HE.out]
          exact ⟨rfl, hr9, hk10, hc9⟩
        | false =>
          have he := HE.out
          rw [if_neg (by rw [h1]; decide)] at he
          clear HE
          have HE := Lib.hid he
          clear he
          go_wp2_with fail
          refine (pa_has_no h1 rfl hk7 hs HR.out).mono ?_
          rintro e w9 ⟨rfl, hR9, hk9, h6⟩
          have hc9 := HC.out.then h6
          clear HR HC
          have HR := Lib.hid hR9
          have HC := Lib.hid hc9
          have H6 := Lib.hid h6
          clear hR9 hc9 h6
          clear h1
          have hb := HB.out.chg H6.out (Nat.ne_of_gt hg)
          have hz := HZ.out.chg H6.out (Nat.ne_of_gt hgs)
          clear HB HZ H6
          have HB := Lib.hid hb
          have HZ := Lib.hid hz
          clear hb hz
          cases h1 : isB s.data.toList k7 45 45 with
          | true =>
            have he := HE.out
            rw [if_pos h1] at he
            clear HE
            have HE := Lib.hid he
            clear he
            go_wp2_with fail
            refine (pa_has_yes h1 rfl hk7 hs HR.out).mono ?_
            rintro e w10 ⟨rfl, hR10, hk10, h6⟩
            have hc10 := HC.out.then h6
            clear HR HC
            have HR := Lib.hid hR10
            have HC := Lib.hid hc10
            have H6 := Lib.hid h6
            clear hR10 hc10 h6
            clear h1
            have hb := HB.out.chg H6.out (Nat.ne_of_gt hg)
            have hz := HZ.out.chg H6.out (Nat.ne_of_gt hgs)
            clear HB HZ H6
            have HB := Lib.hid hb
            have HZ := Lib.hid hz
            clear hb hz
            go_wp2_with fail
            refine (pa_number r s _ 49 49 rfl (by decide) hk10 hs _ HR.out).mono ?_
            intro e w11 h11
            cases hv11 : numberP s.data.toList (k7 + 1) 49 with
            | inr c =>
              rw [hv11] at h11
              obtain ⟨⟨n, rfl⟩, h6⟩ := h11
              have he := HE.out
              rw [hv11] at he
              have HE2 := Lib.hid he
              have H6 := Lib.hid h6
              clear he h6
              clear hv11
              go_wp2_with fail
              exact ⟨rfl, pa_post (by rw [HE2.out]; rfl) HC.out H6.out⟩
            | inl x =>
            obtain ⟨x11, k11⟩ := x
            rw [hv11] at h11
            obtain ⟨rfl, hR11, hk11, h6⟩ := h11
            have he := HE.out
            rw [hv11] at he
            simp only [PRes.bind] at he
            have hc11 := HC.out.then h6
            have H6 := Lib.hid h6
            clear h6
            have hx11 := numberP_in (by decide) hv11
            clear HR HC HE hv11
            have HR := Lib.hid hR11
            have HC := Lib.hid hc11
            have HE := Lib.hid he
            clear hR11 hc11 he
            have hb := HB.out.chg H6.out (Nat.ne_of_gt hg)
            have hz := HZ.out.chg H6.out (Nat.ne_of_gt hgs)
            clear HB HZ H6
            have HB := Lib.hid hb
            have HZ := Lib.hid hz
            clear hb hz
            have hi := IntWalk.i64_in (-x11) (by omega)
            have z0 := HZ.out.cell 0
            have z1 := HZ.out.cell 1
            have z2 := HZ.out.cell 2
            have z3 := HZ.out.cell 3
            simp at z0 z1 z2 z3
            have zf0 := HZ.out.frozen 0
            have zf1 := HZ.out.frozen 1
            have zf2 := HZ.out.frozen 2
            have zf3 := HZ.out.frozen 3
            go_upto_region 17 with fail
            obtain ⟨w12, hw12⟩ : ∃ w', w' = w11.setCell ⟨gs, 3, none⟩ (.int .i64 (-x11)) := ⟨_, rfl⟩
            rw [← hw12]
            have hR3 := HR.out.farw hw12 (Nat.ne_of_lt hgs)
            have hc3 := HC.out.setw hw12 hgw2
            have hb3 := HB.out.farw hw12 hgg
            have hz3 := HZ.out.setw hw12
            simp only [List.setIfInBounds_toArray, List.set_cons_zero, List.set_cons_succ] at hz3
            clear HR HC HB HZ hw12
            have HR := Lib.hid hR3
            have HC := Lib.hid hc3
            have HB := Lib.hid hb3
            have HZ := Lib.hid hz3
            clear hR3 hc3 hb3 hz3
            clear z0 z1 z2 z3 zf0 zf1 zf2 zf3 hi
            have z0 := HZ.out.cell 0
            have z1 := HZ.out.cell 1
            have z2 := HZ.out.cell 2
            have z3 := HZ.out.cell 3
            simp at z0 z1 z2 z3
            have zf0 := HZ.out.frozen 0
            have zf1 := HZ.out.frozen 1
            have zf2 := HZ.out.frozen 2
            have zf3 := HZ.out.frozen 3
            have y0 := HB.out.cell 0
            have y1 := HB.out.cell 1
            have y2 := HB.out.cell 2
            have y3 := HB.out.cell 3
            simp at y0 y1 y2 y3
            have yf0 := HB.out.frozen 0
            have yf1 := HB.out.frozen 1
            have yf2 := HB.out.frozen 2
            have yf3 := HB.out.frozen 3
            go_wp2_with fail
            obtain ⟨wz, hwz⟩ : ∃ wz : World, wz = ((((w12.setCell ⟨g, 0, none⟩ (bV x2)).setCell ⟨g, 1, none⟩ (.int .i64 x3)).setCell ⟨g, 2, none⟩ (bV x7)).setCell ⟨g, 3, none⟩ (.int .i64 (-x11))) := ⟨_, rfl⟩
            have hb9 : Blk wz g 350 #[bV x2, .int .i64 x3, bV x7, .int .i64 (-x11)] := by
              rw [hwz]
              simpa using (((HB.out.set_ 0 (bV x2)).set_ 1 (.int .i64 x3)).set_ 2 (bV x7)).set_ 3 (.int .i64 (-x11))
            have hr9 := (((HR.out.farw rfl (Nat.ne_of_lt hg)).farw rfl (Nat.ne_of_lt hg)).farw rfl (Nat.ne_of_lt hg)).farw hwz (Nat.ne_of_lt hg)
            have hc9 : Chg (fun k => k = r) w wz := by rw [hwz]; have := HC.out; ((repeat (first | with_reducible exact Chg.refl _ _ | with_reducible assumption | with_reducible refine Chg.drewN ?_ _ | with_reducible refine Chg.drew ?_ | with_reducible refine Chg.alloc ?_ _ | with_reducible refine Chg.setCell ?_ (by first | (simp; done) | (simp; omega) | (intro h; simp at h; omega)) _)))
            rw [← hwz]
            have zx0 := hb9.cell 0
            have zx1 := hb9.cell 1
            have zx2 := hb9.cell 2
            have zx3 := hb9.cell 3
            simp at zx0 zx1 zx2 zx3
            refine bodyPost_ret (v := .agg #[bV x2, .int .i64 x3, bV x7, .int .i64 (-x11)]) (by simp [results, Tryz.results254, go_sem, zx0, zx1, zx2, zx3]) rfl ?_
            rw [HE.out]
            exact ⟨rfl, hr9, hk11, hc9⟩
          | false =>
            have he := HE.out
            rw [if_neg (by rw [h1]; decide)] at he
            clear HE
            have HE := Lib.hid he
            clear he
            go_wp2_with fail
            refine (pa_has_no h1 rfl hk7 hs HR.out).mono ?_
            rintro e w10 ⟨rfl, hR10, hk10, h6⟩
            have hc10 := HC.out.then h6
            clear HR HC
            have HR := Lib.hid hR10
            have HC := Lib.hid hc10
            have H6 := Lib.hid h6
            clear hR10 hc10 h6
            clear h1
            have hb := HB.out.chg H6.out (Nat.ne_of_gt hg)
            have hz := HZ.out.chg H6.out (Nat.ne_of_gt hgs)
            clear HB HZ H6
            have HB := Lib.hid hb
            have HZ := Lib.hid hz
            clear hb hz
            have z0 := HZ.out.cell 0
            have z1 := HZ.out.cell 1
            have z2 := HZ.out.cell 2
            have z3 := HZ.out.cell 3
            simp at z0 z1 z2 z3
            have zf0 := HZ.out.frozen 0
            have zf1 := HZ.out.frozen 1
            have zf2 := HZ.out.frozen 2
            have zf3 := HZ.out.frozen 3
            have y0 := HB.out.cell 0
            have y1 := HB.out.cell 1
            have y2 := HB.out.cell 2
            have y3 := HB.out.cell 3
            simp at y0 y1 y2 y3
            have yf0 := HB.out.frozen 0
            have yf1 := HB.out.frozen 1
            have yf2 := HB.out.frozen 2
            have yf3 := HB.out.frozen 3
            go_wp2_with fail
            obtain ⟨wz, hwz⟩ : ∃ wz : World, wz = ((((w10.setCell ⟨g, 0, none⟩ (bV x2)).setCell ⟨g, 1, none⟩ (.int .i64 x3)).setCell ⟨g, 2, none⟩ (bV x7)).setCell ⟨g, 3, none⟩ (.int .i64 0)) := ⟨_, rfl⟩
            have hb9 : Blk wz g 350 #[bV x2, .int .i64 x3, bV x7, .int .i64 0] := by
              rw [hwz]
              simpa using (((HB.out.set_ 0 (bV x2)).set_ 1 (.int .i64 x3)).set_ 2 (bV x7)).set_ 3 (.int .i64 0)
            have hr9 := (((HR.out.farw rfl (Nat.ne_of_lt hg)).farw rfl (Nat.ne_of_lt hg)).farw rfl (Nat.ne_of_lt hg)).farw hwz (Nat.ne_of_lt hg)
            have hc9 : Chg (fun k => k = r) w wz := by rw [hwz]; have := HC.out; ((repeat (first | with_reducible exact Chg.refl _ _ | with_reducible assumption | with_reducible refine Chg.drewN ?_ _ | with_reducible refine Chg.drew ?_ | with_reducible refine Chg.alloc ?_ _ | with_reducible refine Chg.setCell ?_ (by first | (simp; done) | (simp; omega) | (intro h; simp at h; omega)) _)))
            rw [← hwz]
            have zx0 := hb9.cell 0
            have zx1 := hb9.cell 1
            have zx2 := hb9.cell 2
            have zx3 := hb9.cell 3
            simp at zx0 zx1 zx2 zx3
            refine bodyPost_ret (v := .agg #[bV x2, .int .i64 x3, bV x7, .int .i64 0]) (by simp [results, Tryz.results254, go_sem, zx0, zx1, zx2, zx3]) rfl ?_
            rw [HE.out]
            exact ⟨rfl, hr9, hk10, hc9⟩
end Go.Proofs.YtjloddlkleileaaGreatDoor
