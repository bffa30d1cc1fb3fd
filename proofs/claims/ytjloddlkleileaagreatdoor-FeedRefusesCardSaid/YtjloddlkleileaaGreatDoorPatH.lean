/-
  The document's reader of patterns: cond.
-/
import Derived.Test.YtjloddlkleileaaGreatDoorPatG
namespace Go.Proofs.YtjloddlkleileaaGreatDoor
open Go.RowKit
set_option linter.unusedVariables false
set_option linter.unusedSimpArgs false

set_option maxRecDepth 100000 in
set_option maxHeartbeats 8000000 in
theorem rp_cond (r : Nat) (s : ByteArray) (st : PSt) (n : Nat) (hn : n ≤ 1000000) (hs : s.size ≤ 4096) (w : World) (hR : QRd w r s st) : Calls Tryz.prog 44 #[.pointer (some ⟨r, 0, none⟩), .int .i64 (n : Int)] w (QPost w r s (cdV (condS s.data.toList n st).1) (condS s.data.toList n st).2) := by
  obtain ⟨F, hF⟩ : ∃ F, condS s.data.toList n st = F := ⟨_, rfl⟩
  have he := hF.symm
  rw [hF]
  clear hF
  unfold condS at he
  dsimp only at he
  obtain ⟨T1, h1⟩ : ∃ x, takeS s.data.toList 97 122 st = x := ⟨_, rfl⟩
  obtain ⟨S2, h2⟩ : ∃ x, manyS 16 n T1.2 = x := ⟨_, rfl⟩
  obtain ⟨O, h3⟩ : ∃ x, opS s.data.toList S2 = x := ⟨_, rfl⟩
  rw [h1, h2, h3] at he
  have hrl := hR.lt
  obtain ⟨k, bd, p, hB, ht⟩ := hR
  obtain ⟨w1, hw1⟩ : ∃ w1, w1 = (w.alloc (.cells #[.int .u8 0, .int .i64 0, .int .u8 0, .int .i64 0] 135)).alloc (.cells #[.int .u8 0, .int .i64 0, .int .u8 0, .int .i64 0] 135) := ⟨_, rfl⟩
  have hc1 : Chg (fun k => k = r) w w1 := by rw [hw1]; ((repeat (first | exact Chg.refl _ _ | assumption | refine Chg.drewN ?_ _ | refine Chg.drew ?_ | refine Chg.alloc ?_ _ | refine Chg.setCell ?_ (by first | (simp; done) | (simp; omega) | (intro h; simp at h; omega)) _)))
  have hR1 : QRd w1 r s st := ⟨k, bd, p, by rw [hw1]; exact (hB.alloc _).alloc _, ht⟩
  have hb1 : Blk w1 w.heap.size 135 #[.int .u8 0, .int .i64 0, .int .u8 0, .int .i64 0] := by rw [hw1]; exact (Blk.new _ _ _).alloc _
  have hz1 : Blk w1 (w.heap.size + 1) 135 #[.int .u8 0, .int .i64 0, .int .u8 0, .int .i64 0] := by rw [hw1]; exact Blk.new1 _ _ _ _
  have y1 := ((hB.alloc (.cells #[.int .u8 0, .int .i64 0, .int .u8 0, .int .i64 0] 135)).alloc (.cells #[.int .u8 0, .int .i64 0, .int .u8 0, .int .i64 0] 135)).cell 1
  rw [← hw1] at y1
  simp at y1
  obtain ⟨g, hg'⟩ : ∃ g, w.heap.size = g := ⟨_, rfl⟩
  have hg : r < g := by omega
  have hgw : w.heap.size ≤ g := by omega
  obtain ⟨gs, hgs'⟩ : ∃ gs, w.heap.size + 1 = gs := ⟨_, rfl⟩
  have hgs : r < gs := by omega
  have hgw2 : w.heap.size ≤ gs := by omega
  have hgg : g ≠ gs := by omega
  rw [hg'] at hb1
  rw [hgs'] at hz1
  have HSC := Lib.hid hgs'
  clear hB ht hgs'
  have HN1 := Lib.hid h1
  have HN2 := Lib.hid h2
  have HN3 := Lib.hid h3
  have HE := Lib.hid he
  have HC := Lib.hid hc1
  have HR := Lib.hid hR1
  have HB := Lib.hid hb1
  have HZ := Lib.hid hz1
  have HW1 := Lib.hid hw1
  have HG' := Lib.hid hg'
  have HRL := Lib.hid hrl
  clear h1 h2 h3 he hc1 hR1 hb1 hz1 hw1 hg' hrl
  go_enter Tryz.func44, Tryz.ntmps44
  go_upto_region 2 with fail
  rw [← HW1.out, HG'.out, ← HG'.out, HSC.out, HG'.out]
  have hxx := rp_take r s st 97 122 _ _ rfl rfl hs _ HR.out
  rw [HN1.out] at hxx
  have HXX := Lib.hid hxx
  clear hxx
  go_wp2_with fail
  refine (HXX.out).mono ?_
  rintro e w2 ⟨rfl, hR2, h6⟩
  have hc2 := HC.out.then h6
  clear HR HC
  have HR := Lib.hid hR2
  have HC := Lib.hid hc2
  have H6 := Lib.hid h6
  clear hR2 hc2 h6
  clear HXX
  have hb := HB.out.chg H6.out (Nat.ne_of_gt hg)
  have hz := HZ.out.chg H6.out (Nat.ne_of_gt hgs)
  clear HB HZ H6
  have HB := Lib.hid hb
  have HZ := Lib.hid hz
  clear hb hz
  clear y1
  have z0 := HZ.out.cell 0
  have z1 := HZ.out.cell 1
  have z2 := HZ.out.cell 2
  have z3 := HZ.out.cell 3
  simp at z0 z1 z2 z3
  have zf0 := HZ.out.frozen 0
  have zf1 := HZ.out.frozen 1
  have zf2 := HZ.out.frozen 2
  have zf3 := HZ.out.frozen 3
  go_upto_region 4 with fail
  obtain ⟨w3, hw3⟩ : ∃ w', w' = w2.setCell ⟨gs, 0, none⟩ (bV T1.1) := ⟨_, rfl⟩
  rw [← hw3]
  have hsc : Chg (fun k => k = gs) w2 w3 := by rw [hw3]; exact Chg.seto (Chg.refl _ _)
  have hR3 := HR.out.chg hsc (Nat.ne_of_lt hgs)
  have hc3 := HC.out.setw hw3 hgw2
  have hb3 := HB.out.farw hw3 hgg
  have hz3 := HZ.out.setw hw3
  simp only [List.setIfInBounds_toArray, List.set_cons_zero, List.set_cons_succ] at hz3
  clear HR HC HB HZ hw3
  have HR := Lib.hid hR3
  have HC := Lib.hid hc3
  have HB := Lib.hid hb3
  have HZ := Lib.hid hz3
  clear hR3 hc3 hb3 hz3
  clear z0 z1 z2 z3 zf0 zf1 zf2 zf3 hsc
  go_upto_if 19 with fail
  go_cut [] (fun wx => QRd wx r s S2 ∧ Chg (fun k => k = r) w wx ∧ Blk wx g 135 #[.int .u8 0, .int .i64 0, .int .u8 0, .int .i64 0] ∧ Blk wx gs 135 #[bV T1.1, .int .i64 0, .int .u8 0, .int .i64 0])
  case first =>
    have hn3 := HN2.out
    unfold manyS at hn3
    by_cases h8 : 16 ≤ n
    · rw [if_pos h8] at hn3
      have q : decide ((n : Int) ≥ 16) = true := by simp; omega
      have HN32 := Lib.hid hn3
      clear hn3
      go_wp2_with fail
      refine (rp_fail r s _ _ 24 (by decide) _ HR.out).mono ?_
      rintro e w7 ⟨rfl, hR7, h6⟩
      have hc7 := HC.out.then h6
      clear HR HC
      have HR := Lib.hid hR7
      have HC := Lib.hid hc7
      have H6 := Lib.hid h6
      clear hR7 hc7 h6
      have hb := HB.out.chg H6.out (Nat.ne_of_gt hg)
      have hz := HZ.out.chg H6.out (Nat.ne_of_gt hgs)
      clear HB HZ H6
      have HB := Lib.hid hb
      have HZ := Lib.hid hz
      clear hb hz
      go_wp2_with fail
      go_meet
      exact ⟨by rw [← HN32.out]; exact HR.out, HC.out, HB.out, HZ.out⟩
    · rw [if_neg h8] at hn3
      have q : decide ((n : Int) ≥ 16) = false := by simp; omega
      have HN32 := Lib.hid hn3
      clear hn3
      go_wp2_with fail
      go_meet
      exact ⟨by rw [← HN32.out]; exact HR.out, HC.out, HB.out, HZ.out⟩
  case rest =>
  clear HR HC HB HZ
  obtain ⟨hR, hc, hb, hz⟩ := hcut
  obtain ⟨w7, hw7⟩ : ∃ w7, w7 = wc := ⟨_, rfl⟩
  subst hw7
  have HR := Lib.hid hR
  have HC := Lib.hid hc
  have HB := Lib.hid hb
  have HZ := Lib.hid hz
  clear hR hc hb hz
  have hxx := rp_op r s S2 hs _ HR.out
  rw [HN3.out] at hxx
  have HXX := Lib.hid hxx
  clear hxx
  go_wp2_with fail
  refine (HXX.out).mono ?_
  rintro e w8 ⟨rfl, hR8, h6⟩
  have hc8 := HC.out.then h6
  clear HR HC
  have HR := Lib.hid hR8
  have HC := Lib.hid hc8
  have H6 := Lib.hid h6
  clear hR8 hc8 h6
  clear HXX
  have hb := HB.out.chg H6.out (Nat.ne_of_gt hg)
  have hz := HZ.out.chg H6.out (Nat.ne_of_gt hgs)
  clear HB HZ H6
  have HB := Lib.hid hb
  have HZ := Lib.hid hz
  clear hb hz
  have z0 := HZ.out.cell 0
  have z1 := HZ.out.cell 1
  have z2 := HZ.out.cell 2
  have z3 := HZ.out.cell 3
  simp at z0 z1 z2 z3
  have zf0 := HZ.out.frozen 0
  have zf1 := HZ.out.frozen 1
  have zf2 := HZ.out.frozen 2
  have zf3 := HZ.out.frozen 3
  go_upto_region 7 with fail
  obtain ⟨w9, hw9⟩ : ∃ w', w' = w8.setCell ⟨gs, 1, none⟩ (.int .i64 O.1) := ⟨_, rfl⟩
  rw [← hw9]
  have hsc : Chg (fun k => k = gs) w8 w9 := by rw [hw9]; exact Chg.seto (Chg.refl _ _)
  have hR3 := HR.out.chg hsc (Nat.ne_of_lt hgs)
  have hc3 := HC.out.setw hw9 hgw2
  have hb3 := HB.out.farw hw9 hgg
  have hz3 := HZ.out.setw hw9
  simp only [List.setIfInBounds_toArray, List.set_cons_zero, List.set_cons_succ] at hz3
  clear HR HC HB HZ hw9
  have HR := Lib.hid hR3
  have HC := Lib.hid hc3
  have HB := Lib.hid hb3
  have HZ := Lib.hid hz3
  clear hR3 hc3 hb3 hz3
  clear z0 z1 z2 z3 zf0 zf1 zf2 zf3 hsc
  cases h1 : isS s.data.toList 48 57 O.2 with
  | true =>
    have he := HE.out
    rw [if_pos h1] at he
    clear HE
    have HE := Lib.hid he
    clear he
    have hxx := rp_next r s _ 48 57 _ _ rfl rfl _ HR.out
    rw [h1] at hxx
    have HXX := Lib.hid hxx
    clear hxx
    go_wp2_with fail
    refine (HXX.out).mono ?_
    rintro e w10 ⟨rfl, hR10, h6⟩
    have hc10 := HC.out.then h6
    clear HR HC
    have HR := Lib.hid hR10
    have HC := Lib.hid hc10
    have H6 := Lib.hid h6
    clear hR10 hc10 h6
    clear HXX
    have hb := HB.out.chg H6.out (Nat.ne_of_gt hg)
    have hz := HZ.out.chg H6.out (Nat.ne_of_gt hgs)
    clear HB HZ H6
    have HB := Lib.hid hb
    have HZ := Lib.hid hz
    clear hb hz
    clear h1
    go_wp2_with fail
    refine (rp_number r s O.2 48 48 rfl (by decide) hs _ HR.out).mono ?_
    rintro e w11 ⟨rfl, hR11, h6⟩
    have hc11 := HC.out.then h6
    clear HR HC
    have HR := Lib.hid hR11
    have HC := Lib.hid hc11
    have H6 := Lib.hid h6
    clear hR11 hc11 h6
    have hb := HB.out.chg H6.out (Nat.ne_of_gt hg)
    have hz := HZ.out.chg H6.out (Nat.ne_of_gt hgs)
    clear HB HZ H6
    have HB := Lib.hid hb
    have HZ := Lib.hid hz
    clear hb hz
    have z0 := HZ.out.cell 0
    have z1 := HZ.out.cell 1
    have z2 := HZ.out.cell 2
    have z3 := HZ.out.cell 3
    simp at z0 z1 z2 z3
    have zf0 := HZ.out.frozen 0
    have zf1 := HZ.out.frozen 1
    have zf2 := HZ.out.frozen 2
    have zf3 := HZ.out.frozen 3
    go_upto_region 10 with fail
    obtain ⟨w12, hw12⟩ : ∃ w', w' = w11.setCell ⟨gs, 3, none⟩ (.int .i64 (numberS s.data.toList 48 O.2).1) := ⟨_, rfl⟩
    rw [← hw12]
    have hsc : Chg (fun k => k = gs) w11 w12 := by rw [hw12]; exact Chg.seto (Chg.refl _ _)
    have hR3 := HR.out.chg hsc (Nat.ne_of_lt hgs)
    have hc3 := HC.out.setw hw12 hgw2
    have hb3 := HB.out.farw hw12 hgg
    have hz3 := HZ.out.setw hw12
    simp only [List.setIfInBounds_toArray, List.set_cons_zero, List.set_cons_succ] at hz3
    clear HR HC HB HZ hw12
    have HR := Lib.hid hR3
    have HC := Lib.hid hc3
    have HB := Lib.hid hb3
    have HZ := Lib.hid hz3
    clear hR3 hc3 hb3 hz3
    clear z0 z1 z2 z3 zf0 zf1 zf2 zf3 hsc
    have z0 := HZ.out.cell 0
    have z1 := HZ.out.cell 1
    have z2 := HZ.out.cell 2
    have z3 := HZ.out.cell 3
    simp at z0 z1 z2 z3
    have zf0 := HZ.out.frozen 0
    have zf1 := HZ.out.frozen 1
    have zf2 := HZ.out.frozen 2
    have zf3 := HZ.out.frozen 3
    have y0 := HB.out.cell 0
    have y1 := HB.out.cell 1
    have y2 := HB.out.cell 2
    have y3 := HB.out.cell 3
    simp at y0 y1 y2 y3
    have yf0 := HB.out.frozen 0
    have yf1 := HB.out.frozen 1
    have yf2 := HB.out.frozen 2
    have yf3 := HB.out.frozen 3
    go_wp2_with fail
    obtain ⟨wz, hwz⟩ : ∃ wz : World, wz = ((((w12.setCell ⟨g, 0, none⟩ (bV T1.1)).setCell ⟨g, 1, none⟩ (.int .i64 O.1)).setCell ⟨g, 2, none⟩ (.int .u8 0)).setCell ⟨g, 3, none⟩ (.int .i64 (numberS s.data.toList 48 O.2).1)) := ⟨_, rfl⟩
    have hb9 : Blk wz g 135 #[bV T1.1, .int .i64 O.1, .int .u8 0, .int .i64 (numberS s.data.toList 48 O.2).1] := by
      rw [hwz]
      simpa using (((HB.out.set_ 0 (bV T1.1)).set_ 1 (.int .i64 O.1)).set_ 2 (.int .u8 0)).set_ 3 (.int .i64 (numberS s.data.toList 48 O.2).1)
    have hgc : Chg (fun k => k = g) w12 wz := by rw [hwz]; exact Chg.seto (Chg.seto (Chg.seto (Chg.seto (Chg.refl _ _))))
    have hr9 := HR.out.chg hgc (Nat.ne_of_lt hg)
    have hc9 : Chg (fun k => k = r) w wz := by rw [hwz]; have := HC.out; ((repeat (first | with_reducible exact Chg.refl _ _ | with_reducible assumption | with_reducible refine Chg.drewN ?_ _ | with_reducible refine Chg.drew ?_ | with_reducible refine Chg.alloc ?_ _ | with_reducible refine Chg.setCell ?_ (by first | (simp; done) | (simp; omega) | (intro h; simp at h; omega)) _)))
    rw [← hwz]
    have zx0 := hb9.cell 0
    have zx1 := hb9.cell 1
    have zx2 := hb9.cell 2
    have zx3 := hb9.cell 3
    simp at zx0 zx1 zx2 zx3
    refine bodyPost_ret (v := .agg #[bV T1.1, .int .i64 O.1, .int .u8 0, .int .i64 (numberS s.data.toList 48 O.2).1]) (by simp [results, Tryz.results44, go_sem, zx0, zx1, zx2, zx3]) rfl ?_
    rw [HE.out]
    exact ⟨rfl, hr9, hc9⟩
  | false =>
    have he := HE.out
    rw [if_neg (by rw [h1]; decide)] at he
    clear HE
    have HE := Lib.hid he
    clear he
    have hxx := rp_next r s _ 48 57 _ _ rfl rfl _ HR.out
    rw [h1] at hxx
    have HXX := Lib.hid hxx
    clear hxx
    go_wp2_with fail
    refine (HXX.out).mono ?_
    rintro e w10 ⟨rfl, hR10, h6⟩
    have hc10 := HC.out.then h6
    clear HR HC
    have HR := Lib.hid hR10
    have HC := Lib.hid hc10
    have H6 := Lib.hid h6
    clear hR10 hc10 h6
    clear HXX
    have hb := HB.out.chg H6.out (Nat.ne_of_gt hg)
    have hz := HZ.out.chg H6.out (Nat.ne_of_gt hgs)
    clear HB HZ H6
    have HB := Lib.hid hb
    have HZ := Lib.hid hz
    clear hb hz
    clear h1
    cases h1 : isS s.data.toList 45 45 O.2 with
    | true =>
      have he := HE.out
      rw [if_pos h1] at he
      clear HE
      have HE := Lib.hid he
      clear he
      have hxx := rp_next r s _ 45 45 _ _ rfl rfl _ HR.out
      rw [h1] at hxx
      have HXX := Lib.hid hxx
      clear hxx
      go_wp2_with fail
      refine (HXX.out).mono ?_
      rintro e w11 ⟨rfl, hR11, h6⟩
      have hc11 := HC.out.then h6
      clear HR HC
      have HR := Lib.hid hR11
      have HC := Lib.hid hc11
      have H6 := Lib.hid h6
      clear hR11 hc11 h6
      clear HXX
      have hb := HB.out.chg H6.out (Nat.ne_of_gt hg)
      have hz := HZ.out.chg H6.out (Nat.ne_of_gt hgs)
      clear HB HZ H6
      have HB := Lib.hid hb
      have HZ := Lib.hid hz
      clear hb hz
      clear h1
      go_wp2_with fail
      refine (rp_signed r s O.2 hs _ HR.out).mono ?_
      rintro e w12 ⟨rfl, hR12, h6⟩
      have hc12 := HC.out.then h6
      clear HR HC
      have HR := Lib.hid hR12
      have HC := Lib.hid hc12
      have H6 := Lib.hid h6
      clear hR12 hc12 h6
      have hb := HB.out.chg H6.out (Nat.ne_of_gt hg)
      have hz := HZ.out.chg H6.out (Nat.ne_of_gt hgs)
      clear HB HZ H6
      have HB := Lib.hid hb
      have HZ := Lib.hid hz
      clear hb hz
      have z0 := HZ.out.cell 0
      have z1 := HZ.out.cell 1
      have z2 := HZ.out.cell 2
      have z3 := HZ.out.cell 3
      simp at z0 z1 z2 z3
      have zf0 := HZ.out.frozen 0
      have zf1 := HZ.out.frozen 1
      have zf2 := HZ.out.frozen 2
      have zf3 := HZ.out.frozen 3
      go_upto_region 14 with fail
      obtain ⟨w13, hw13⟩ : ∃ w', w' = w12.setCell ⟨gs, 3, none⟩ (.int .i64 (signedS s.data.toList O.2).1) := ⟨_, rfl⟩
      rw [← hw13]
      have hsc : Chg (fun k => k = gs) w12 w13 := by rw [hw13]; exact Chg.seto (Chg.refl _ _)
      have hR3 := HR.out.chg hsc (Nat.ne_of_lt hgs)
      have hc3 := HC.out.setw hw13 hgw2
      have hb3 := HB.out.farw hw13 hgg
      have hz3 := HZ.out.setw hw13
      simp only [List.setIfInBounds_toArray, List.set_cons_zero, List.set_cons_succ] at hz3
      clear HR HC HB HZ hw13
      have HR := Lib.hid hR3
      have HC := Lib.hid hc3
      have HB := Lib.hid hb3
      have HZ := Lib.hid hz3
      clear hR3 hc3 hb3 hz3
      clear z0 z1 z2 z3 zf0 zf1 zf2 zf3 hsc
      have z0 := HZ.out.cell 0
      have z1 := HZ.out.cell 1
      have z2 := HZ.out.cell 2
      have z3 := HZ.out.cell 3
      simp at z0 z1 z2 z3
      have zf0 := HZ.out.frozen 0
      have zf1 := HZ.out.frozen 1
      have zf2 := HZ.out.frozen 2
      have zf3 := HZ.out.frozen 3
      have y0 := HB.out.cell 0
      have y1 := HB.out.cell 1
      have y2 := HB.out.cell 2
      have y3 := HB.out.cell 3
      simp at y0 y1 y2 y3
      have yf0 := HB.out.frozen 0
      have yf1 := HB.out.frozen 1
      have yf2 := HB.out.frozen 2
      have yf3 := HB.out.frozen 3
      go_wp2_with fail
      obtain ⟨wz, hwz⟩ : ∃ wz : World, wz = ((((w13.setCell ⟨g, 0, none⟩ (bV T1.1)).setCell ⟨g, 1, none⟩ (.int .i64 O.1)).setCell ⟨g, 2, none⟩ (.int .u8 0)).setCell ⟨g, 3, none⟩ (.int .i64 (signedS s.data.toList O.2).1)) := ⟨_, rfl⟩
      have hb9 : Blk wz g 135 #[bV T1.1, .int .i64 O.1, .int .u8 0, .int .i64 (signedS s.data.toList O.2).1] := by
        rw [hwz]
        simpa using (((HB.out.set_ 0 (bV T1.1)).set_ 1 (.int .i64 O.1)).set_ 2 (.int .u8 0)).set_ 3 (.int .i64 (signedS s.data.toList O.2).1)
      have hgc : Chg (fun k => k = g) w13 wz := by rw [hwz]; exact Chg.seto (Chg.seto (Chg.seto (Chg.seto (Chg.refl _ _))))
      have hr9 := HR.out.chg hgc (Nat.ne_of_lt hg)
      have hc9 : Chg (fun k => k = r) w wz := by rw [hwz]; have := HC.out; ((repeat (first | with_reducible exact Chg.refl _ _ | with_reducible assumption | with_reducible refine Chg.drewN ?_ _ | with_reducible refine Chg.drew ?_ | with_reducible refine Chg.alloc ?_ _ | with_reducible refine Chg.setCell ?_ (by first | (simp; done) | (simp; omega) | (intro h; simp at h; omega)) _)))
      rw [← hwz]
      have zx0 := hb9.cell 0
      have zx1 := hb9.cell 1
      have zx2 := hb9.cell 2
      have zx3 := hb9.cell 3
      simp at zx0 zx1 zx2 zx3
      refine bodyPost_ret (v := .agg #[bV T1.1, .int .i64 O.1, .int .u8 0, .int .i64 (signedS s.data.toList O.2).1]) (by simp [results, Tryz.results44, go_sem, zx0, zx1, zx2, zx3]) rfl ?_
      rw [HE.out]
      exact ⟨rfl, hr9, hc9⟩
    | false =>
      have he := HE.out
      rw [if_neg (by rw [h1]; decide)] at he
      clear HE
      have HE := Lib.hid he
      clear he
      have hxx := rp_next r s _ 45 45 _ _ rfl rfl _ HR.out
      rw [h1] at hxx
      have HXX := Lib.hid hxx
      clear hxx
      go_wp2_with fail
      refine (HXX.out).mono ?_
      rintro e w11 ⟨rfl, hR11, h6⟩
      have hc11 := HC.out.then h6
      clear HR HC
      have HR := Lib.hid hR11
      have HC := Lib.hid hc11
      have H6 := Lib.hid h6
      clear hR11 hc11 h6
      clear HXX
      have hb := HB.out.chg H6.out (Nat.ne_of_gt hg)
      have hz := HZ.out.chg H6.out (Nat.ne_of_gt hgs)
      clear HB HZ H6
      have HB := Lib.hid hb
      have HZ := Lib.hid hz
      clear hb hz
      clear h1
      obtain ⟨T2, h2⟩ : ∃ x, takeS s.data.toList 97 122 O.2 = x := ⟨_, rfl⟩
      have he := HE.out
      rw [h2] at he
      clear HE
      have HE := Lib.hid he
      have HN4 := Lib.hid h2
      clear he h2
      have hxx := rp_take r s O.2 97 122 _ _ rfl rfl hs _ HR.out
      rw [HN4.out] at hxx
      have HXX := Lib.hid hxx
      clear hxx
      go_wp2_with fail
      refine (HXX.out).mono ?_
      rintro e w12 ⟨rfl, hR12, h6⟩
      have hc12 := HC.out.then h6
      clear HR HC
      have HR := Lib.hid hR12
      have HC := Lib.hid hc12
      have H6 := Lib.hid h6
      clear hR12 hc12 h6
      clear HXX
      have hb := HB.out.chg H6.out (Nat.ne_of_gt hg)
      have hz := HZ.out.chg H6.out (Nat.ne_of_gt hgs)
      clear HB HZ H6
      have HB := Lib.hid hb
      have HZ := Lib.hid hz
      clear hb hz
      have z0 := HZ.out.cell 0
      have z1 := HZ.out.cell 1
      have z2 := HZ.out.cell 2
      have z3 := HZ.out.cell 3
      simp at z0 z1 z2 z3
      have zf0 := HZ.out.frozen 0
      have zf1 := HZ.out.frozen 1
      have zf2 := HZ.out.frozen 2
      have zf3 := HZ.out.frozen 3
      go_upto_region 16 with fail
      obtain ⟨w13, hw13⟩ : ∃ w', w' = w12.setCell ⟨gs, 2, none⟩ (bV T2.1) := ⟨_, rfl⟩
      rw [← hw13]
      have hsc : Chg (fun k => k = gs) w12 w13 := by rw [hw13]; exact Chg.seto (Chg.refl _ _)
      have hR3 := HR.out.chg hsc (Nat.ne_of_lt hgs)
      have hc3 := HC.out.setw hw13 hgw2
      have hb3 := HB.out.farw hw13 hgg
      have hz3 := HZ.out.setw hw13
      simp only [List.setIfInBounds_toArray, List.set_cons_zero, List.set_cons_succ] at hz3
      clear HR HC HB HZ hw13
      have HR := Lib.hid hR3
      have HC := Lib.hid hc3
      have HB := Lib.hid hb3
      have HZ := Lib.hid hz3
      clear hR3 hc3 hb3 hz3
      clear z0 z1 z2 z3 zf0 zf1 zf2 zf3 hsc
      cases h1 : isS s.data.toList 43 43 T2.2 with
      | true =>
        have he := HE.out
        rw [h1, Bool.true_or, if_pos rfl] at he
        clear HE
        have HE := Lib.hid he
        clear he
        have hxx := rp_next r s _ 43 43 _ _ rfl rfl _ HR.out
        rw [h1] at hxx
        have HXX := Lib.hid hxx
        clear hxx
        go_wp2_with fail
        refine (HXX.out).mono ?_
        rintro e w14 ⟨rfl, hR14, h6⟩
        have hc14 := HC.out.then h6
        clear HR HC
        have HR := Lib.hid hR14
        have HC := Lib.hid hc14
        have H6 := Lib.hid h6
        clear hR14 hc14 h6
        clear HXX
        have hb := HB.out.chg H6.out (Nat.ne_of_gt hg)
        have hz := HZ.out.chg H6.out (Nat.ne_of_gt hgs)
        clear HB HZ H6
        have HB := Lib.hid hb
        have HZ := Lib.hid hz
        clear hb hz
        clear h1
        go_wp2_with fail
        refine (rp_next r s T2.2 45 45 _ _ rfl rfl _ HR.out).mono ?_
        rintro e w15 ⟨rfl, hR15, h6⟩
        have hc15 := HC.out.then h6
        clear HR HC
        have HR := Lib.hid hR15
        have HC := Lib.hid hc15
        have H6 := Lib.hid h6
        clear hR15 hc15 h6
        have hb := HB.out.chg H6.out (Nat.ne_of_gt hg)
        have hz := HZ.out.chg H6.out (Nat.ne_of_gt hgs)
        clear HB HZ H6
        have HB := Lib.hid hb
        have HZ := Lib.hid hz
        clear hb hz
        go_wp2_with fail
        refine (rp_signed r s T2.2 hs _ HR.out).mono ?_
        rintro e w16 ⟨rfl, hR16, h6⟩
        have hc16 := HC.out.then h6
        clear HR HC
        have HR := Lib.hid hR16
        have HC := Lib.hid hc16
        have H6 := Lib.hid h6
        clear hR16 hc16 h6
        have hb := HB.out.chg H6.out (Nat.ne_of_gt hg)
        have hz := HZ.out.chg H6.out (Nat.ne_of_gt hgs)
        clear HB HZ H6
        have HB := Lib.hid hb
        have HZ := Lib.hid hz
        clear hb hz
        have z0 := HZ.out.cell 0
        have z1 := HZ.out.cell 1
        have z2 := HZ.out.cell 2
        have z3 := HZ.out.cell 3
        simp at z0 z1 z2 z3
        have zf0 := HZ.out.frozen 0
        have zf1 := HZ.out.frozen 1
        have zf2 := HZ.out.frozen 2
        have zf3 := HZ.out.frozen 3
        go_upto_region 20 with fail
        obtain ⟨w17, hw17⟩ : ∃ w', w' = w16.setCell ⟨gs, 3, none⟩ (.int .i64 (signedS s.data.toList T2.2).1) := ⟨_, rfl⟩
        rw [← hw17]
        have hsc : Chg (fun k => k = gs) w16 w17 := by rw [hw17]; exact Chg.seto (Chg.refl _ _)
        have hR3 := HR.out.chg hsc (Nat.ne_of_lt hgs)
        have hc3 := HC.out.setw hw17 hgw2
        have hb3 := HB.out.farw hw17 hgg
        have hz3 := HZ.out.setw hw17
        simp only [List.setIfInBounds_toArray, List.set_cons_zero, List.set_cons_succ] at hz3
        clear HR HC HB HZ hw17
        have HR := Lib.hid hR3
        have HC := Lib.hid hc3
        have HB := Lib.hid hb3
        have HZ := Lib.hid hz3
        clear hR3 hc3 hb3 hz3
        clear z0 z1 z2 z3 zf0 zf1 zf2 zf3 hsc
        have z0 := HZ.out.cell 0
        have z1 := HZ.out.cell 1
        have z2 := HZ.out.cell 2
        have z3 := HZ.out.cell 3
        simp at z0 z1 z2 z3
        have zf0 := HZ.out.frozen 0
        have zf1 := HZ.out.frozen 1
        have zf2 := HZ.out.frozen 2
        have zf3 := HZ.out.frozen 3
        have y0 := HB.out.cell 0
        have y1 := HB.out.cell 1
        have y2 := HB.out.cell 2
        have y3 := HB.out.cell 3
        simp at y0 y1 y2 y3
        have yf0 := HB.out.frozen 0
        have yf1 := HB.out.frozen 1
        have yf2 := HB.out.frozen 2
        have yf3 := HB.out.frozen 3
        go_wp2_with fail
        obtain ⟨wz, hwz⟩ : ∃ wz : World, wz = ((((w17.setCell ⟨g, 0, none⟩ (bV T1.1)).setCell ⟨g, 1, none⟩ (.int .i64 O.1)).setCell ⟨g, 2, none⟩ (bV T2.1)).setCell ⟨g, 3, none⟩ (.int .i64 (signedS s.data.toList T2.2).1)) := ⟨_, rfl⟩
        have hb9 : Blk wz g 135 #[bV T1.1, .int .i64 O.1, bV T2.1, .int .i64 (signedS s.data.toList T2.2).1] := by
          rw [hwz]
          simpa using (((HB.out.set_ 0 (bV T1.1)).set_ 1 (.int .i64 O.1)).set_ 2 (bV T2.1)).set_ 3 (.int .i64 (signedS s.data.toList T2.2).1)
        have hgc : Chg (fun k => k = g) w17 wz := by rw [hwz]; exact Chg.seto (Chg.seto (Chg.seto (Chg.seto (Chg.refl _ _))))
        have hr9 := HR.out.chg hgc (Nat.ne_of_lt hg)
        have hc9 : Chg (fun k => k = r) w wz := by rw [hwz]; have := HC.out; ((repeat (first | with_reducible exact Chg.refl _ _ | with_reducible assumption | with_reducible refine Chg.drewN ?_ _ | with_reducible refine Chg.drew ?_ | with_reducible refine Chg.alloc ?_ _ | with_reducible refine Chg.setCell ?_ (by first | (simp; done) | (simp; omega) | (intro h; simp at h; omega)) _)))
        rw [← hwz]
        have zx0 := hb9.cell 0
        have zx1 := hb9.cell 1
        have zx2 := hb9.cell 2
        have zx3 := hb9.cell 3
        simp at zx0 zx1 zx2 zx3
        refine bodyPost_ret (v := .agg #[bV T1.1, .int .i64 O.1, bV T2.1, .int .i64 (signedS s.data.toList T2.2).1]) (by simp [results, Tryz.results44, go_sem, zx0, zx1, zx2, zx3]) rfl ?_
        rw [HE.out]
        exact ⟨rfl, hr9, hc9⟩
      | false =>
        have he := HE.out
        rw [h1, Bool.false_or] at he
        clear HE
        have HE := Lib.hid he
        clear he
        have hxx := rp_next r s _ 43 43 _ _ rfl rfl _ HR.out
        rw [h1] at hxx
        have HXX := Lib.hid hxx
        clear hxx
        go_wp2_with fail
        refine (HXX.out).mono ?_
        rintro e w14 ⟨rfl, hR14, h6⟩
        have hc14 := HC.out.then h6
        clear HR HC
        have HR := Lib.hid hR14
        have HC := Lib.hid hc14
        have H6 := Lib.hid h6
        clear hR14 hc14 h6
        clear HXX
        have hb := HB.out.chg H6.out (Nat.ne_of_gt hg)
        have hz := HZ.out.chg H6.out (Nat.ne_of_gt hgs)
        clear HB HZ H6
        have HB := Lib.hid hb
        have HZ := Lib.hid hz
        clear hb hz
        clear h1
        cases h1 : isS s.data.toList 45 45 T2.2 with
        | true =>
          have he := HE.out
          rw [if_pos h1] at he
          clear HE
          have HE := Lib.hid he
          clear he
          have hxx := rp_next r s _ 45 45 _ _ rfl rfl _ HR.out
          rw [h1] at hxx
          have HXX := Lib.hid hxx
          clear hxx
          go_wp2_with fail
          refine (HXX.out).mono ?_
          rintro e w15 ⟨rfl, hR15, h6⟩
          have hc15 := HC.out.then h6
          clear HR HC
          have HR := Lib.hid hR15
          have HC := Lib.hid hc15
          have H6 := Lib.hid h6
          clear hR15 hc15 h6
          clear HXX
          have hb := HB.out.chg H6.out (Nat.ne_of_gt hg)
          have hz := HZ.out.chg H6.out (Nat.ne_of_gt hgs)
          clear HB HZ H6
          have HB := Lib.hid hb
          have HZ := Lib.hid hz
          clear hb hz
          clear h1
          go_wp2_with fail
          refine (rp_signed r s T2.2 hs _ HR.out).mono ?_
          rintro e w16 ⟨rfl, hR16, h6⟩
          have hc16 := HC.out.then h6
          clear HR HC
          have HR := Lib.hid hR16
          have HC := Lib.hid hc16
          have H6 := Lib.hid h6
          clear hR16 hc16 h6
          have hb := HB.out.chg H6.out (Nat.ne_of_gt hg)
          have hz := HZ.out.chg H6.out (Nat.ne_of_gt hgs)
          clear HB HZ H6
          have HB := Lib.hid hb
          have HZ := Lib.hid hz
          clear hb hz
          have z0 := HZ.out.cell 0
          have z1 := HZ.out.cell 1
          have z2 := HZ.out.cell 2
          have z3 := HZ.out.cell 3
          simp at z0 z1 z2 z3
          have zf0 := HZ.out.frozen 0
          have zf1 := HZ.out.frozen 1
          have zf2 := HZ.out.frozen 2
          have zf3 := HZ.out.frozen 3
          go_upto_region 20 with fail
          obtain ⟨w17, hw17⟩ : ∃ w', w' = w16.setCell ⟨gs, 3, none⟩ (.int .i64 (signedS s.data.toList T2.2).1) := ⟨_, rfl⟩
          rw [← hw17]
          have hsc : Chg (fun k => k = gs) w16 w17 := by rw [hw17]; exact Chg.seto (Chg.refl _ _)
          have hR3 := HR.out.chg hsc (Nat.ne_of_lt hgs)
          have hc3 := HC.out.setw hw17 hgw2
          have hb3 := HB.out.farw hw17 hgg
          have hz3 := HZ.out.setw hw17
          simp only [List.setIfInBounds_toArray, List.set_cons_zero, List.set_cons_succ] at hz3
          clear HR HC HB HZ hw17
          have HR := Lib.hid hR3
          have HC := Lib.hid hc3
          have HB := Lib.hid hb3
          have HZ := Lib.hid hz3
          clear hR3 hc3 hb3 hz3
          clear z0 z1 z2 z3 zf0 zf1 zf2 zf3 hsc
          have z0 := HZ.out.cell 0
          have z1 := HZ.out.cell 1
          have z2 := HZ.out.cell 2
          have z3 := HZ.out.cell 3
          simp at z0 z1 z2 z3
          have zf0 := HZ.out.frozen 0
          have zf1 := HZ.out.frozen 1
          have zf2 := HZ.out.frozen 2
          have zf3 := HZ.out.frozen 3
          have y0 := HB.out.cell 0
          have y1 := HB.out.cell 1
          have y2 := HB.out.cell 2
          have y3 := HB.out.cell 3
          simp at y0 y1 y2 y3
          have yf0 := HB.out.frozen 0
          have yf1 := HB.out.frozen 1
          have yf2 := HB.out.frozen 2
          have yf3 := HB.out.frozen 3
          go_wp2_with fail
          obtain ⟨wz, hwz⟩ : ∃ wz : World, wz = ((((w17.setCell ⟨g, 0, none⟩ (bV T1.1)).setCell ⟨g, 1, none⟩ (.int .i64 O.1)).setCell ⟨g, 2, none⟩ (bV T2.1)).setCell ⟨g, 3, none⟩ (.int .i64 (signedS s.data.toList T2.2).1)) := ⟨_, rfl⟩
          have hb9 : Blk wz g 135 #[bV T1.1, .int .i64 O.1, bV T2.1, .int .i64 (signedS s.data.toList T2.2).1] := by
            rw [hwz]
            simpa using (((HB.out.set_ 0 (bV T1.1)).set_ 1 (.int .i64 O.1)).set_ 2 (bV T2.1)).set_ 3 (.int .i64 (signedS s.data.toList T2.2).1)
          have hgc : Chg (fun k => k = g) w17 wz := by rw [hwz]; exact Chg.seto (Chg.seto (Chg.seto (Chg.seto (Chg.refl _ _))))
          have hr9 := HR.out.chg hgc (Nat.ne_of_lt hg)
          have hc9 : Chg (fun k => k = r) w wz := by rw [hwz]; have := HC.out; ((repeat (first | with_reducible exact Chg.refl _ _ | with_reducible assumption | with_reducible refine Chg.drewN ?_ _ | with_reducible refine Chg.drew ?_ | with_reducible refine Chg.alloc ?_ _ | with_reducible refine Chg.setCell ?_ (by first | (simp; done) | (simp; omega) | (intro h; simp at h; omega)) _)))
          rw [← hwz]
          have zx0 := hb9.cell 0
          have zx1 := hb9.cell 1
          have zx2 := hb9.cell 2
          have zx3 := hb9.cell 3
          simp at zx0 zx1 zx2 zx3
          refine bodyPost_ret (v := .agg #[bV T1.1, .int .i64 O.1, bV T2.1, .int .i64 (signedS s.data.toList T2.2).1]) (by simp [results, Tryz.results44, go_sem, zx0, zx1, zx2, zx3]) rfl ?_
          rw [HE.out]
          exact ⟨rfl, hr9, hc9⟩
        | false =>
          have he := HE.out
          rw [if_neg (by rw [h1]; decide)] at he
          clear HE
          have HE := Lib.hid he
          clear he
          have hxx := rp_next r s _ 45 45 _ _ rfl rfl _ HR.out
          rw [h1] at hxx
          have HXX := Lib.hid hxx
          clear hxx
          go_wp2_with fail
          refine (HXX.out).mono ?_
          rintro e w15 ⟨rfl, hR15, h6⟩
          have hc15 := HC.out.then h6
          clear HR HC
          have HR := Lib.hid hR15
          have HC := Lib.hid hc15
          have H6 := Lib.hid h6
          clear hR15 hc15 h6
          clear HXX
          have hb := HB.out.chg H6.out (Nat.ne_of_gt hg)
          have hz := HZ.out.chg H6.out (Nat.ne_of_gt hgs)
          clear HB HZ H6
          have HB := Lib.hid hb
          have HZ := Lib.hid hz
          clear hb hz
          clear h1
          have z0 := HZ.out.cell 0
          have z1 := HZ.out.cell 1
          have z2 := HZ.out.cell 2
          have z3 := HZ.out.cell 3
          simp at z0 z1 z2 z3
          have zf0 := HZ.out.frozen 0
          have zf1 := HZ.out.frozen 1
          have zf2 := HZ.out.frozen 2
          have zf3 := HZ.out.frozen 3
          have y0 := HB.out.cell 0
          have y1 := HB.out.cell 1
          have y2 := HB.out.cell 2
          have y3 := HB.out.cell 3
          simp at y0 y1 y2 y3
          have yf0 := HB.out.frozen 0
          have yf1 := HB.out.frozen 1
          have yf2 := HB.out.frozen 2
          have yf3 := HB.out.frozen 3
          go_wp2_with fail
          obtain ⟨wz, hwz⟩ : ∃ wz : World, wz = ((((w15.setCell ⟨g, 0, none⟩ (bV T1.1)).setCell ⟨g, 1, none⟩ (.int .i64 O.1)).setCell ⟨g, 2, none⟩ (bV T2.1)).setCell ⟨g, 3, none⟩ (.int .i64 0)) := ⟨_, rfl⟩
          have hb9 : Blk wz g 135 #[bV T1.1, .int .i64 O.1, bV T2.1, .int .i64 0] := by
            rw [hwz]
            simpa using (((HB.out.set_ 0 (bV T1.1)).set_ 1 (.int .i64 O.1)).set_ 2 (bV T2.1)).set_ 3 (.int .i64 0)
          have hgc : Chg (fun k => k = g) w15 wz := by rw [hwz]; exact Chg.seto (Chg.seto (Chg.seto (Chg.seto (Chg.refl _ _))))
          have hr9 := HR.out.chg hgc (Nat.ne_of_lt hg)
          have hc9 : Chg (fun k => k = r) w wz := by rw [hwz]; have := HC.out; ((repeat (first | with_reducible exact Chg.refl _ _ | with_reducible assumption | with_reducible refine Chg.drewN ?_ _ | with_reducible refine Chg.drew ?_ | with_reducible refine Chg.alloc ?_ _ | with_reducible refine Chg.setCell ?_ (by first | (simp; done) | (simp; omega) | (intro h; simp at h; omega)) _)))
          rw [← hwz]
          have zx0 := hb9.cell 0
          have zx1 := hb9.cell 1
          have zx2 := hb9.cell 2
          have zx3 := hb9.cell 3
          simp at zx0 zx1 zx2 zx3
          refine bodyPost_ret (v := .agg #[bV T1.1, .int .i64 O.1, bV T2.1, .int .i64 0]) (by simp [results, Tryz.results44, go_sem, zx0, zx1, zx2, zx3]) rfl ?_
          rw [HE.out]
          exact ⟨rfl, hr9, hc9⟩
end Go.Proofs.YtjloddlkleileaaGreatDoor
