/-
  The law's after: the version behind all edits that can be.
-/
import Derived.Test.YtahahginmgidjaaGreatDoorZMg37
import Derived.Deep.DeepCutAuto
import Derived.Outline
namespace Go.Proofs.YtahahginmgidjaaGreatDoor
open Go.RowKit
set_option linter.unusedVariables false
set_option linter.unusedSimpArgs false

def AfterPost (w : World) (e : Ending) (w' : World) : Prop :=
  ∃ (S : VerV) (a0 a1 a2 a3 av : Option Addr) (n0 n1 n2 n3 nv c0 c1 c2 c3 cv : Nat), Fine S ∧ (flat S).length ≤ 41943040 ∧
    e = .returned (.tuple #[.agg #[.slice a0 n0 c0, .slice a1 n1 c1, .slice a2 n2 c2, .slice a3 n3 c3, .int .i64 S.log, .int .i64 S.next, .int .i64 S.seq], .agg #[.slice av nv cv, .int .i64 S.log, .int .i64 S.next, .int .i64 S.seq]]) ∧
    VerAt w' (Lv (.slice a0 n0 c0) (.slice a1 n1 c1) (.slice a2 n2 c2) (.slice a3 n3 c3)) S.lv ∧ Lst docC w' (.slice av nv cv) (flat S) ∧ Chg (fun _ => False) w w'

set_option maxRecDepth 1000000 in
set_option maxHeartbeats 8000000 in
theorem law_after (A : Option Addr) (n c : Nat) (Ed : Nat → EditV) (w : World) (hn : n ≤ c) (hc : c ≤ maxLen) (hE : EdsAt w A n Ed) (hF : ∀ i, i < n → EdFine (Ed i)) :
    Calls Tryz.prog 6 #[.slice A n c] w (AfterPost w) := by
  unfold maxLen at hc
  obtain ⟨w4, hw4⟩ : ∃ w4, w4 = (((w.alloc (.cells #[.slice none 0 0, .slice none 0 0, .slice none 0 0, .slice none 0 0, .int .i64 0, .int .i64 0, .int .i64 0] 29)).alloc (.cells #[.slice none 0 0, .int .i64 0, .int .i64 0, .int .i64 0] 32)).alloc (.cells #[.slice none 0 0, .slice none 0 0, .slice none 0 0, .slice none 0 0, .int .i64 0, .int .i64 0, .int .i64 0] 29)).alloc (.cells #[.slice none 0 0, .int .i64 0, .int .i64 0, .int .i64 0] 32) := ⟨_, rfl⟩
  have hc4 : Chg (fun _ => False) w w4 := by rw [hw4]; ((repeat (first | exact Chg.refl _ _ | assumption | refine Chg.drewN ?_ _ | refine Chg.drew ?_ | refine Chg.alloc ?_ _ | refine Chg.setCell ?_ (by first | (simp; done) | (simp; omega) | (intro h; simp at h; omega)) _)))
  have b1 : Blk w4 w.heap.size 29 #[.slice none 0 0, .slice none 0 0, .slice none 0 0, .slice none 0 0, .int .i64 0, .int .i64 0, .int .i64 0] := by rw [hw4]; exact (((Blk.new w _ _).alloc _).alloc _).alloc _
  have b2 : Blk w4 (w.heap.size + 1) 32 #[.slice none 0 0, .int .i64 0, .int .i64 0, .int .i64 0] := by rw [hw4]; exact ((Blk.new1 w _ _ _).alloc _).alloc _
  have b3 : Blk w4 (w.heap.size + 1 + 1) 29 #[.slice none 0 0, .slice none 0 0, .slice none 0 0, .slice none 0 0, .int .i64 0, .int .i64 0, .int .i64 0] := by rw [hw4]; exact (Blk.new2 w _ _ _ _).alloc _
  have b4 : Blk w4 (w.heap.size + 1 + 1 + 1) 32 #[.slice none 0 0, .int .i64 0, .int .i64 0, .int .i64 0] := by
    rw [hw4]
    have := Blk.new (((w.alloc (.cells #[.slice none 0 0, .slice none 0 0, .slice none 0 0, .slice none 0 0, .int .i64 0, .int .i64 0, .int .i64 0] 29)).alloc (.cells #[.slice none 0 0, .int .i64 0, .int .i64 0, .int .i64 0] 32)).alloc (.cells #[.slice none 0 0, .slice none 0 0, .slice none 0 0, .slice none 0 0, .int .i64 0, .int .i64 0, .int .i64 0] 29)) 32 #[.slice none 0 0, .int .i64 0, .int .i64 0, .int .i64 0]
    simpa using this
  have ht4 : Two w4 (w.heap.size + 1 + 1) (w.heap.size + 1 + 1 + 1) VerV.none := Two.mk_ Fine.none (l0 := .slice none 0 0) (l1 := .slice none 0 0) (l2 := .slice none 0 0) (l3 := .slice none 0 0) (v := .slice none 0 0) (fun i hi => by
    have : (Lv (.slice none 0 0) (.slice none 0 0) (.slice none 0 0) (.slice none 0 0)) i = .slice none 0 0 := by
      match i, hi with
      | 0, _ => rfl
      | 1, _ => rfl
      | 2, _ => rfl
      | 3, _ => rfl
    rw [this]
    exact Lst.nil _ _) (Lst.nil _ _) b3 b4
  have hlt4 := b4.lt
  have HW4 := Lib.hid hw4
  have HC4 := Lib.hid hc4
  have HB1 := Lib.hid b1
  have HB2 := Lib.hid b2
  have HT4 := Lib.hid ht4
  have HE := Lib.hid hE
  have HF := Lib.hid hF
  clear hw4 hc4 b1 b2 b3 b4 ht4 hE hF
  obtain ⟨q, hq1, hq2, hq3⟩ : ∃ q : Nat, q ≤ n ∧ q ≤ 40 ∧ (q = n ∨ q = 40) := ⟨min n 40, by omega, by omega, by omega⟩
  go_enter Tryz.func6, Tryz.ntmps6
  go_upto_region 3 with fail
  rw [← HW4.out]
  go_cut [18, 19, 20] (fun s l i wx => (∃ c', s = .slice A q c') ∧ l = .int .i64 q ∧ i = .int .i64 0 ∧ w4 = wx)
  case first =>
    go_wp2_with fail
    all_goals go_meet
    all_goals exact ⟨⟨c, by rw [show (min (n : Int) 40).toNat = q by omega]⟩, by rw [show max (min (n : Int) 40) 0 = (q : Int) by omega], rfl, rfl⟩
  case rest =>
    obtain ⟨⟨c', rfl⟩, rfl, rfl, rfl⟩ := hcut
    clear hq3
    go_wp2_with fail
    go_loopw [20] (fun i wr => ∃ (k : Nat) (S : VerV), k ≤ q ∧ i = .int .i64 k ∧ (flat S).length ≤ k * 1048576 ∧ Two wr (w.heap.size + 1 + 1) (w.heap.size + 1 + 1 + 1) S ∧ Blk wr w.heap.size 29 #[.slice none 0 0, .slice none 0 0, .slice none 0 0, .slice none 0 0, .int .i64 0, .int .i64 0, .int .i64 0] ∧ Blk wr (w.heap.size + 1) 32 #[.slice none 0 0, .int .i64 0, .int .i64 0, .int .i64 0] ∧ Chg (fun _ => False) w wr) (fun i _ => q - (intOf i).toNat)
    case atStart => exact ⟨0, _, by omega, rfl, by simp [flat, VerV.none, atLevel], HT4.out, HB1.out, HB2.out, HC4.out⟩
    case round =>
      obtain ⟨k, S, hk, rfl, hlen, hT, hb1, hb2, hcr⟩ := hrel
      by_cases hlt : k < q
      · obtain ⟨b, off, rfl, hbB, hcell⟩ := HE.out (by omega)
        obtain ⟨av, dv, x0, x1, x2, x3, x4, hra, hrd⟩ := hcell k (by omega)
        have x0 := (hcr.cell (p := ⟨b, _, none⟩) hbB (by simp)).trans x0
        have x1 := (hcr.cell (p := ⟨b, _, none⟩) hbB (by simp)).trans x1
        have x2 := (hcr.cell (p := ⟨b, _, none⟩) hbB (by simp)).trans x2
        have x3 := (hcr.cell (p := ⟨b, _, none⟩) hbB (by simp)).trans x3
        have x4 := (hcr.cell (p := ⟨b, _, none⟩) hbB (by simp)).trans x4
        have hfe := HF.out k (by omega)
        obtain ⟨E, hE⟩ : ∃ E, Ed k = E := ⟨_, rfl⟩
        rw [hE] at x2 x3 x4 hra hrd hfe
        obtain ⟨aa, ac, rfl, hra'⟩ := hra
        have hra : ReadRows w (.slice aa E.add.length ac) E.add := ⟨aa, ac, rfl, hra'⟩
        obtain ⟨da, dc, rfl, hrd'⟩ := hrd
        have hrd : ReadInts w (.slice da E.drop.length dc) E.drop := ⟨da, dc, rfl, hrd'⟩
        have hk0 : (0 : Int) ≤ (k : Int) := by omega
        have hk1 : (k : Int) < (q : Int) := by omega
        obtain ⟨w5, hw5⟩ : ∃ w5, w5 = wr.alloc (.cells #[.slice aa E.add.length ac, .slice da E.drop.length dc, .int .i64 E.log, .int .i64 E.next, .int .i64 E.seq] 54) := ⟨_, rfl⟩
        have hc5 : Chg (fun _ => False) wr w5 := by rw [hw5]; ((repeat (first | exact Chg.refl _ _ | assumption | refine Chg.drewN ?_ _ | refine Chg.drew ?_ | refine Chg.alloc ?_ _ | refine Chg.setCell ?_ (by first | (simp; done) | (simp; omega) | (intro h; simp at h; omega)) _)))
        have h5 := le_form E (.slice aa E.add.length ac) (.slice da E.drop.length dc) w5 hfe (hra.same (hcr.then hc5)) (hrd.same (hcr.then hc5))
        have hbx : Blk w5 wr.heap.size 54 #[.slice aa E.add.length ac, .slice da E.drop.length dc, .int .i64 E.log, .int .i64 E.next, .int .i64 E.seq] := by rw [hw5]; exact Blk.new wr _ _
        have j0 := hbx.cell 0
        have j1 := hbx.cell 1
        have j2 := hbx.cell 2
        have j3 := hbx.cell 3
        have j4 := hbx.cell 4
        simp at j0 j1 j2 j3 j4
        have hlen' : (flat S).length ≤ 40894464 := by
          have : k * 1048576 ≤ 39 * 1048576 := Nat.mul_le_mul_right _ (by omega)
          omega
        have hfa := hfe.add
        have hcw5 := hcr.then hc5
        have HW5 := Lib.hid hw5
        have H5 := Lib.hid h5
        have HT5 := Lib.hid (hT.same hc5)
        have HB15 := Lib.hid (hb1.chg hc5 (by simp))
        have HB25 := Lib.hid (hb2.chg hc5 (by simp))
        have HC5 := Lib.hid hcw5
        have HLEN := Lib.hid hlen
        have HLEN' := Lib.hid hlen'
        have HFE := Lib.hid hfe
        have HHE := Lib.hid hE
        clear hcell HE HT4 HB1 HB2 HC4 hra hra' hrd hrd' hw5 h5 hbx hT hb1 hb2 hcr hlen hlen' hE hfe hc5 hcw5
        by_cases hok : okV S E
        · have HOK := Lib.hid hok
          clear hok
          go_upto_region 6 with fail
          rw [← HW5.out]
          go_wp2_with fail
          refine H5.out.mono ?_
          rintro e w6 ⟨a1, n1, c1, a2, n2, c2, a3, n3, c3, a4, n4, c4, rfl, hA1, hD1, hA2, hD2, hc6⟩
          obtain ⟨w7, hw7⟩ : ∃ w7, w7 = (w6.alloc (.cells #[.slice a1 n1 c1, .slice a2 n2 c2, .int .i64 E.log, .int .i64 E.next, .int .i64 E.seq] 57)).alloc (.cells #[.slice a3 n3 c3, .slice a4 n4 c4, .int .i64 E.log, .int .i64 E.next, .int .i64 E.seq] 59) := ⟨_, rfl⟩
          have hc67 : Chg (fun _ => False) w6 w7 := by rw [hw7]; ((repeat (first | exact Chg.refl _ _ | assumption | refine Chg.drewN ?_ _ | refine Chg.drew ?_ | refine Chg.alloc ?_ _ | refine Chg.setCell ?_ (by first | (simp; done) | (simp; omega) | (intro h; simp at h; omega)) _)))
          have hc57 := hc6.then hc67
          have be1 : Blk w7 w6.heap.size 57 #[.slice a1 n1 c1, .slice a2 n2 c2, .int .i64 E.log, .int .i64 E.next, .int .i64 E.seq] := by rw [hw7]; exact (Blk.new w6 _ _).alloc _
          have be2 : Blk w7 (w6.heap.size + 1) 59 #[.slice a3 n3 c3, .slice a4 n4 c4, .int .i64 E.log, .int .i64 E.next, .int .i64 E.seq] := by rw [hw7]; exact Blk.new1 w6 _ _ _
          have hT7 := HT5.out.same hc57
          obtain ⟨o0, o1, o2, o3, ov, r0, r1, r2, r3, rv, s0, s1, s2, s3, sv, hVA, hVR, hBV, hBR⟩ := hT7.open_
          have h8 := da_yes S E (.slice ov rv sv) (.slice a3 n3 c3) (.slice a4 n4 c4) w7 HFE.out hVR (hA2.same hc67) (hD2.same hc67) (by have := HLEN'.out; omega) HOK.out
          have z0 := hBR.cell 0
          have z1 := hBR.cell 1
          have z2 := hBR.cell 2
          have z3 := hBR.cell 3
          have i0 := be2.cell 0
          have i1 := be2.cell 1
          have i2 := be2.cell 2
          have i3 := be2.cell 3
          have i4 := be2.cell 4
          simp at z0 z1 z2 z3 i0 i1 i2 i3 i4
          have H8 := Lib.hid h8
          have HW7 := Lib.hid hw7
          have HC57 := Lib.hid hc57
          have HA1 := Lib.hid (hA1.same hc67)
          have HD1 := Lib.hid (hD1.same hc67)
          have HVA := Lib.hid hVA
          have HBV := Lib.hid hBV
          have HBR := Lib.hid hBR
          have HT7 := Lib.hid hT7
          have HBE1 := Lib.hid be1
          clear h8 hw7 hc57 hc6 hc67 hA1 hD1 hA2 hD2 hVA hVR hBV hBR hT7 be1 be2 j0 j1 j2 j3 j4 x0 x1 x2 x3 x4 H5
          go_upto_region 7 with fail
          rw [← HW7.out]
          go_wp2_with fail
          refine H8.out.mono ?_
          rintro e w8 ⟨ra, rn, rc, rfl, hR, hc8⟩
          have hs57 := HC57.out.size
          have hs78 := hc8.size
          obtain ⟨w9, hw9⟩ : ∃ w9, w9 = w8.alloc (.cells #[.slice ra rn rc, .int .i64 E.log, .int .i64 E.next, .int .i64 E.seq] 32) := ⟨_, rfl⟩
          have hc89 : Chg (fun _ => False) w8 w9 := by rw [hw9]; ((repeat (first | exact Chg.refl _ _ | assumption | refine Chg.drewN ?_ _ | refine Chg.drew ?_ | refine Chg.alloc ?_ _ | refine Chg.setCell ?_ (by first | (simp; done) | (simp; omega) | (intro h; simp at h; omega)) _)))
          have hc79 := hc8.then hc89
          have bx : Blk w9 w8.heap.size 32 #[.slice ra rn rc, .int .i64 E.log, .int .i64 E.next, .int .i64 E.seq] := by rw [hw9]; exact Blk.new w8 _ _
          have h10 := va_yes S E (.slice o0 r0 s0) (.slice o1 r1 s1) (.slice o2 r2 s2) (.slice o3 r3 s3) (.slice a1 n1 c1) (.slice a2 n2 c2) w9 HT7.out.fine HFE.out (HVA.out.same hc79) (HA1.out.same hc79) (HD1.out.same hc79) (by have := HLEN'.out; omega) HOK.out
          have hBV9 := HBV.out.chg hc79 (by simp)
          have hBE9 := HBE1.out.chg hc79 (by simp)
          have z0 := hBV9.cell 0
          have z1 := hBV9.cell 1
          have z2 := hBV9.cell 2
          have z3 := hBV9.cell 3
          have z4 := hBV9.cell 4
          have z5 := hBV9.cell 5
          have z6 := hBV9.cell 6
          have i0 := hBE9.cell 0
          have i1 := hBE9.cell 1
          have i2 := hBE9.cell 2
          have i3 := hBE9.cell 3
          have i4 := hBE9.cell 4
          simp at z0 z1 z2 z3 z4 z5 z6 i0 i1 i2 i3 i4
          have H10 := Lib.hid h10
          have HW9 := Lib.hid hw9
          have HC59 := Lib.hid (HC57.out.then hc79)
          have HBX := Lib.hid bx
          have HR9 := Lib.hid (hR.same hc89)
          clear h10 hw9 hc89 hc79 hc8 bx hBV9 hBE9 H8 HA1 HD1 HVA HBV HBR HBE1 hR
          go_upto_region 8 with fail
          rw [← HW9.out]
          go_wp2_with fail
          refine H10.out.mono ?_
          rintro e w10 ⟨p0, p1, p2, p3, m0, m1, m2, m3, d0, d1, d2, d3, rfl, hV, hc10⟩
          obtain ⟨w11, hw11⟩ : ∃ w11, w11 = w10.alloc (.cells #[.slice p0 m0 d0, .slice p1 m1 d1, .slice p2 m2 d2, .slice p3 m3 d3, .int .i64 E.log, .int .i64 E.next, .int .i64 E.seq] 29) := ⟨_, rfl⟩
          have hca : Chg (fun _ => False) w10 w11 := by rw [hw11]; ((repeat (first | exact Chg.refl _ _ | assumption | refine Chg.drewN ?_ _ | refine Chg.drew ?_ | refine Chg.alloc ?_ _ | refine Chg.setCell ?_ (by first | (simp; done) | (simp; omega) | (intro h; simp at h; omega)) _)))
          have hc911 := hc10.then hca
          have hc511 := HC59.out.then hc911
          have HC511 := Lib.hid hc511
          have HW11 := Lib.hid hw11
          have hT11 := HT5.out.same hc511
          have hb1 := HB15.out.chg hc511 (by simp)
          have hb2 := HB25.out.chg hc511 (by simp)
          have hnew : Two w11 w10.heap.size w8.heap.size (nextV S E) := Two.mk_ (HT5.out.fine.next HOK.out HFE.out.nx) (hV.same hca) (HR9.out.same hc911) (by rw [hw11]; exact Blk.new w10 _ _) (HBX.out.chg hc911 (by simp))
          have hVn := hV.same hca
          have hRn := HR9.out.same hc911
          have bn1 : Blk w11 w10.heap.size 29 #[.slice p0 m0 d0, .slice p1 m1 d1, .slice p2 m2 d2, .slice p3 m3 d3, .int .i64 E.log, .int .i64 E.next, .int .i64 E.seq] := by rw [hw11]; exact Blk.new w10 _ _
          have bn2 : Blk w11 w8.heap.size 32 #[.slice ra rn rc, .int .i64 E.log, .int .i64 E.next, .int .i64 E.seq] := HBX.out.chg hc911 (by simp)
          obtain ⟨o0, o1, o2, o3, ov, r0, r1, r2, r3, rv, s0, s1, s2, s3, sv, _, _, hBV, hBR⟩ := hT11.open_
          have z0 := bn1.cell 0
          have z1 := bn1.cell 1
          have z2 := bn1.cell 2
          have z3 := bn1.cell 3
          have z4 := bn1.cell 4
          have z5 := bn1.cell 5
          have z6 := bn1.cell 6
          have i0 := bn2.cell 0
          have i1 := bn2.cell 1
          have i2 := bn2.cell 2
          have i3 := bn2.cell 3
          have f0 := hBV.frozen 0
          have f1 := hBV.frozen 1
          have f2 := hBV.frozen 2
          have f3 := hBV.frozen 3
          have f4 := hBV.frozen 4
          have f5 := hBV.frozen 5
          have f6 := hBV.frozen 6
          have fr0 := hBR.frozen 0
          have fr1 := hBR.frozen 1
          have fr2 := hBR.frozen 2
          have fr3 := hBR.frozen 3
          have y0 := hBV.cell 0
          have y1 := hBV.cell 1
          have y2 := hBV.cell 2
          have y3 := hBV.cell 3
          have y4 := hBV.cell 4
          have y5 := hBV.cell 5
          have y6 := hBV.cell 6
          have yr0 := hBR.cell 0
          have yr1 := hBR.cell 1
          have yr2 := hBR.cell 2
          have yr3 := hBR.cell 3
          simp at z0 z1 z2 z3 z4 z5 z6 i0 i1 i2 i3 y0 y1 y2 y3 y4 y5 y6 yr0 yr1 yr2 yr3
          have hl5 := HT5.out.lt_
          have hs59 := HC59.out.size
          have hs911 := hc10.size
          have hs8 := HBX.out.lt
          have ds1 : ¬ w10.heap.size = w.heap.size + 1 + 1 := by omega
          have ds2 : ¬ w10.heap.size = w.heap.size + 1 + 1 + 1 := by omega
          have ds3 : ¬ w8.heap.size = w.heap.size + 1 + 1 := by omega
          have ds4 : ¬ w8.heap.size = w.heap.size + 1 + 1 + 1 := by omega
          have ds5 : ¬ w.heap.size + 1 + 1 = w10.heap.size := by omega
          have ds6 : ¬ w.heap.size + 1 + 1 + 1 = w10.heap.size := by omega
          have ds7 : ¬ w.heap.size + 1 + 1 = w8.heap.size := by omega
          have ds8 : ¬ w.heap.size + 1 + 1 + 1 = w8.heap.size := by omega
          have HVN := Lib.hid hVn
          have HRN := Lib.hid hRn
          have HBV := Lib.hid hBV
          have HBR := Lib.hid hBR
          have HT11 := Lib.hid hT11
          have HB1 := Lib.hid hb1
          have HB2 := Lib.hid hb2
          have HCW := Lib.hid (HC5.out.then hc511)
          have HNEW := Lib.hid hnew
          clear hw11 hca hc911 hc511 hT11 hb1 hb2 hc10 hnew hVn hRn bn1 bn2 hBV hBR hV
          go_upto_region 9 with fail
          rw [← HW11.out]
          go_wp2_with fail
          go_region
          go_wp2_with fail
          refine ⟨⟨k + 1, nextV S E, by omega, by go_num, len_step HLEN.out (next_len HOK.out) hfa, ?_, ?_, ?_, ?_⟩, by simp [intOf]; omega⟩
          · refine HT11.out.put HNEW.out.fine HVN.out HRN.out ?_ ?_ ?_
            · ((repeat (first | with_reducible exact Chg.refl _ _ | with_reducible assumption | with_reducible refine Chg.drewN ?_ _ | with_reducible refine Chg.drew ?_ | with_reducible refine Chg.alloc ?_ _ | with_reducible refine Chg.setCell ?_ (by first | (simp; done) | (simp; omega) | (intro h; simp at h; omega)) _)))
            · have := ((((((HBV.out.set_ 0 (.slice p0 m0 d0)).set_ 1 (.slice p1 m1 d1)).set_ 2 (.slice p2 m2 d2)).set_ 3 (.slice p3 m3 d3)).set_ 4 (.int .i64 E.log)).set_ 5 (.int .i64 E.next)).set_ 6 (.int .i64 E.seq)
              have := (((this.far (p := ⟨w.heap.size + 1 + 1 + 1, 0, none⟩) (by simp) (.slice ra rn rc)).far (p := ⟨w.heap.size + 1 + 1 + 1, 1, none⟩) (by simp) (.int .i64 E.log)).far (p := ⟨w.heap.size + 1 + 1 + 1, 2, none⟩) (by simp) (.int .i64 E.next)).far (p := ⟨w.heap.size + 1 + 1 + 1, 3, none⟩) (by simp) (.int .i64 E.seq)
              have h9 := this.drew
              simp at h9
              exact h9
            · have := HBR.out
              have := ((((((this.far (p := ⟨w.heap.size + 1 + 1, 0, none⟩) (by simp) (.slice p0 m0 d0)).far (p := ⟨w.heap.size + 1 + 1, 1, none⟩) (by simp) (.slice p1 m1 d1)).far (p := ⟨w.heap.size + 1 + 1, 2, none⟩) (by simp) (.slice p2 m2 d2)).far (p := ⟨w.heap.size + 1 + 1, 3, none⟩) (by simp) (.slice p3 m3 d3)).far (p := ⟨w.heap.size + 1 + 1, 4, none⟩) (by simp) (.int .i64 E.log)).far (p := ⟨w.heap.size + 1 + 1, 5, none⟩) (by simp) (.int .i64 E.next)).far (p := ⟨w.heap.size + 1 + 1, 6, none⟩) (by simp) (.int .i64 E.seq)
              have := (((this.set_ 0 (.slice ra rn rc)).set_ 1 (.int .i64 E.log)).set_ 2 (.int .i64 E.next)).set_ 3 (.int .i64 E.seq)
              have h9 := this.drew
              simp at h9
              exact h9
          · exact HB1.out.chg (S := fun k => k = w.heap.size + 1 + 1 ∨ k = w.heap.size + 1 + 1 + 1) (by ((repeat (first | with_reducible exact Chg.refl _ _ | with_reducible assumption | with_reducible refine Chg.drewN ?_ _ | with_reducible refine Chg.drew ?_ | with_reducible refine Chg.alloc ?_ _ | with_reducible refine Chg.setCell ?_ (by first | (simp; done) | (simp; omega) | (intro h; simp at h; omega)) _)))) (by omega)
          · exact HB2.out.chg (S := fun k => k = w.heap.size + 1 + 1 ∨ k = w.heap.size + 1 + 1 + 1) (by ((repeat (first | with_reducible exact Chg.refl _ _ | with_reducible assumption | with_reducible refine Chg.drewN ?_ _ | with_reducible refine Chg.drew ?_ | with_reducible refine Chg.alloc ?_ _ | with_reducible refine Chg.setCell ?_ (by first | (simp; done) | (simp; omega) | (intro h; simp at h; omega)) _)))) (by omega)
          · have := HCW.out
            ((repeat (first | with_reducible exact Chg.refl _ _ | with_reducible assumption | with_reducible refine Chg.drewN ?_ _ | with_reducible refine Chg.drew ?_ | with_reducible refine Chg.alloc ?_ _ | with_reducible refine Chg.setCell ?_ (by first | (simp; done) | (simp; omega) | (intro h; simp at h; omega)) _)))
        · have HOK := Lib.hid hok
          clear hok
          go_upto_region 6 with fail
          rw [← HW5.out]
          go_wp2_with fail
          refine H5.out.mono ?_
          rintro e w6 ⟨a1, n1, c1, a2, n2, c2, a3, n3, c3, a4, n4, c4, rfl, hA1, hD1, hA2, hD2, hc6⟩
          obtain ⟨w7, hw7⟩ : ∃ w7, w7 = (w6.alloc (.cells #[.slice a1 n1 c1, .slice a2 n2 c2, .int .i64 E.log, .int .i64 E.next, .int .i64 E.seq] 57)).alloc (.cells #[.slice a3 n3 c3, .slice a4 n4 c4, .int .i64 E.log, .int .i64 E.next, .int .i64 E.seq] 59) := ⟨_, rfl⟩
          have hc67 : Chg (fun _ => False) w6 w7 := by rw [hw7]; ((repeat (first | exact Chg.refl _ _ | assumption | refine Chg.drewN ?_ _ | refine Chg.drew ?_ | refine Chg.alloc ?_ _ | refine Chg.setCell ?_ (by first | (simp; done) | (simp; omega) | (intro h; simp at h; omega)) _)))
          have hc57 := hc6.then hc67
          have be1 : Blk w7 w6.heap.size 57 #[.slice a1 n1 c1, .slice a2 n2 c2, .int .i64 E.log, .int .i64 E.next, .int .i64 E.seq] := by rw [hw7]; exact (Blk.new w6 _ _).alloc _
          have be2 : Blk w7 (w6.heap.size + 1) 59 #[.slice a3 n3 c3, .slice a4 n4 c4, .int .i64 E.log, .int .i64 E.next, .int .i64 E.seq] := by rw [hw7]; exact Blk.new1 w6 _ _ _
          have hT7 := HT5.out.same hc57
          obtain ⟨o0, o1, o2, o3, ov, r0, r1, r2, r3, rv, s0, s1, s2, s3, sv, hVA, hVR, hBV, hBR⟩ := hT7.open_
          have h8 := da_no S E (.slice ov rv sv) (.slice a3 n3 c3) (.slice a4 n4 c4) w7 HFE.out hVR (hA2.same hc67) (hD2.same hc67) (by have := HLEN'.out; omega) HOK.out
          have z0 := hBR.cell 0
          have z1 := hBR.cell 1
          have z2 := hBR.cell 2
          have z3 := hBR.cell 3
          have i0 := be2.cell 0
          have i1 := be2.cell 1
          have i2 := be2.cell 2
          have i3 := be2.cell 3
          have i4 := be2.cell 4
          simp at z0 z1 z2 z3 i0 i1 i2 i3 i4
          have H8 := Lib.hid h8
          have HW7 := Lib.hid hw7
          have HC57 := Lib.hid hc57
          have HA1 := Lib.hid (hA1.same hc67)
          have HD1 := Lib.hid (hD1.same hc67)
          have HVA := Lib.hid hVA
          have HBV := Lib.hid hBV
          have HBR := Lib.hid hBR
          have HT7 := Lib.hid hT7
          have HBE1 := Lib.hid be1
          clear h8 hw7 hc57 hc6 hc67 hA1 hD1 hA2 hD2 hVA hVR hBV hBR hT7 be1 be2 j0 j1 j2 j3 j4 x0 x1 x2 x3 x4 H5
          go_upto_region 7 with fail
          rw [← HW7.out]
          go_wp2_with fail
          refine H8.out.mono ?_
          rintro e w8 ⟨rfl, hc8⟩
          have hs57 := HC57.out.size
          have hs78 := hc8.size
          obtain ⟨w9, hw9⟩ : ∃ w9, w9 = w8.alloc (.cells #[.slice none 0 0, .int .i64 0, .int .i64 0, .int .i64 0] 32) := ⟨_, rfl⟩
          have hc89 : Chg (fun _ => False) w8 w9 := by rw [hw9]; ((repeat (first | exact Chg.refl _ _ | assumption | refine Chg.drewN ?_ _ | refine Chg.drew ?_ | refine Chg.alloc ?_ _ | refine Chg.setCell ?_ (by first | (simp; done) | (simp; omega) | (intro h; simp at h; omega)) _)))
          have hc79 := hc8.then hc89
          have bx : Blk w9 w8.heap.size 32 #[.slice none 0 0, .int .i64 0, .int .i64 0, .int .i64 0] := by rw [hw9]; exact Blk.new w8 _ _
          have h10 := va_no S E (.slice o0 r0 s0) (.slice o1 r1 s1) (.slice o2 r2 s2) (.slice o3 r3 s3) (.slice a1 n1 c1) (.slice a2 n2 c2) w9 HT7.out.fine HFE.out (HVA.out.same hc79) (HA1.out.same hc79) (HD1.out.same hc79) (by have := HLEN'.out; omega) HOK.out
          have hBV9 := HBV.out.chg hc79 (by simp)
          have hBE9 := HBE1.out.chg hc79 (by simp)
          have z0 := hBV9.cell 0
          have z1 := hBV9.cell 1
          have z2 := hBV9.cell 2
          have z3 := hBV9.cell 3
          have z4 := hBV9.cell 4
          have z5 := hBV9.cell 5
          have z6 := hBV9.cell 6
          have i0 := hBE9.cell 0
          have i1 := hBE9.cell 1
          have i2 := hBE9.cell 2
          have i3 := hBE9.cell 3
          have i4 := hBE9.cell 4
          simp at z0 z1 z2 z3 z4 z5 z6 i0 i1 i2 i3 i4
          have H10 := Lib.hid h10
          have HW9 := Lib.hid hw9
          have HC59 := Lib.hid (HC57.out.then hc79)
          have HBX := Lib.hid bx
          clear h10 hw9 hc89 hc79 hc8 bx hBV9 hBE9 H8 HA1 HD1 HVA HBV HBR HBE1
          go_upto_region 8 with fail
          rw [← HW9.out]
          go_wp2_with fail
          refine H10.out.mono ?_
          rintro e w10 ⟨rfl, hc10⟩
          obtain ⟨w11, hw11⟩ : ∃ w11, w11 = w10.alloc (.cells #[.slice none 0 0, .slice none 0 0, .slice none 0 0, .slice none 0 0, .int .i64 0, .int .i64 0, .int .i64 0] 29) := ⟨_, rfl⟩
          have hca : Chg (fun _ => False) w10 w11 := by rw [hw11]; ((repeat (first | exact Chg.refl _ _ | assumption | refine Chg.drewN ?_ _ | refine Chg.drew ?_ | refine Chg.alloc ?_ _ | refine Chg.setCell ?_ (by first | (simp; done) | (simp; omega) | (intro h; simp at h; omega)) _)))
          have hc911 := hc10.then hca
          have hc511 := HC59.out.then hc911
          have HC511 := Lib.hid hc511
          have HW11 := Lib.hid hw11
          have hT11 := HT5.out.same hc511
          have hb1 := HB15.out.chg hc511 (by simp)
          have hb2 := HB25.out.chg hc511 (by simp)
          have HT11 := Lib.hid hT11
          have HB1 := Lib.hid hb1
          have HB2 := Lib.hid hb2
          have HCW := Lib.hid (HC5.out.then hc511)
          clear hw11 hca hc911 hc511 hT11 hb1 hb2 hc10 z0 z1 z2 z3 z4 z5 z6 i0 i1 i2 i3 i4
          go_upto_region 9 with fail
          rw [← HW11.out]
          go_wp2_with fail
          exact ⟨⟨k + 1, S, by omega, by go_num, len_step HLEN.out (Nat.le_add_right _ 0) (by omega), HT11.out, HB1.out, HB2.out, HCW.out⟩, by simp [intOf]; omega⟩
      · obtain rfl : k = q := by omega
        have hge : ¬ ((k : Int) < (k : Int)) := by omega
        obtain ⟨o0, o1, o2, o3, ov, r0, r1, r2, r3, rv, s0, s1, s2, s3, sv, hV, hR, hBV, hBR⟩ := hT.open_
        have z0 := hBV.cell 0
        have z1 := hBV.cell 1
        have z2 := hBV.cell 2
        have z3 := hBV.cell 3
        have z4 := hBV.cell 4
        have z5 := hBV.cell 5
        have z6 := hBV.cell 6
        have i0 := hBR.cell 0
        have i1 := hBR.cell 1
        have i2 := hBR.cell 2
        have i3 := hBR.cell 3
        have f0 := hb1.frozen 0
        have f1 := hb1.frozen 1
        have f2 := hb1.frozen 2
        have f3 := hb1.frozen 3
        have f4 := hb1.frozen 4
        have f5 := hb1.frozen 5
        have f6 := hb1.frozen 6
        have fr0 := hb2.frozen 0
        have fr1 := hb2.frozen 1
        have fr2 := hb2.frozen 2
        have fr3 := hb2.frozen 3
        have y0 := hb1.cell 0
        have y1 := hb1.cell 1
        have y2 := hb1.cell 2
        have y3 := hb1.cell 3
        have y4 := hb1.cell 4
        have y5 := hb1.cell 5
        have y6 := hb1.cell 6
        have yr0 := hb2.cell 0
        have yr1 := hb2.cell 1
        have yr2 := hb2.cell 2
        have yr3 := hb2.cell 3
        simp at z0 z1 z2 z3 z4 z5 z6 i0 i1 i2 i3 y0 y1 y2 y3 y4 y5 y6 yr0 yr1 yr2 yr3
        have hfin := hT.fine
        have hlen' : (flat S).length ≤ 41943040 := by
          have : k * 1048576 ≤ 40 * 1048576 := Nat.mul_le_mul_right _ hq2
          omega
        have t1 : ∀ {α : Type} {C : Codec α} {v : Value} {l : List α}, Lst C wr v l → 29 ≠ C.e → 32 ≠ C.e → ∀ k, v.ownBlock = some k → ¬ (k = w.heap.size ∨ k = w.heap.size + 1) := fun h h1 h2 k hk e => by
          obtain ⟨cs, hb⟩ := h.typed hk
          rcases e with e | e
          · subst e; exact hb1.ne_ hb h1 rfl
          · subst e; exact hb2.ne_ hb h2 rfl
        have HFIN := Lib.hid hfin
        have HLEN := Lib.hid hlen'
        have HV := Lib.hid hV
        have HR := Lib.hid hR
        have HB1 := Lib.hid hb1
        have HB2 := Lib.hid hb2
        have HCR := Lib.hid hcr
        have HTV := Lib.hid (fun (i : Nat) (hi : i < 4) => t1 (hV i hi) (by decide) (by decide))
        have HTR := Lib.hid (t1 hR (by decide) (by decide))
        clear hfin hlen' hV hR hb1 hb2 hcr hT hBV hBR hlen HE HF HT4 HC4 t1
        go_wp2_with fail
        go_cut [50] (fun _ wx => Blk wx w.heap.size 29 #[.slice o0 r0 s0, .slice o1 r1 s1, .slice o2 r2 s2, .slice o3 r3 s3, .int .i64 S.log, .int .i64 S.next, .int .i64 S.seq] ∧ Blk wx (w.heap.size + 1) 32 #[.slice ov rv sv, .int .i64 S.log, .int .i64 S.next, .int .i64 S.seq] ∧ Chg (fun k => k = w.heap.size ∨ k = w.heap.size + 1) wr wx)
        case first =>
          go_region
          go_wp2_with fail
          go_meet
          refine ⟨?_, ?_, ?_⟩
          · have := ((((((HB1.out.set_ 0 (.slice o0 r0 s0)).set_ 1 (.slice o1 r1 s1)).set_ 2 (.slice o2 r2 s2)).set_ 3 (.slice o3 r3 s3)).set_ 4 (.int .i64 S.log)).set_ 5 (.int .i64 S.next)).set_ 6 (.int .i64 S.seq)
            have := (((this.far (p := ⟨w.heap.size + 1, 0, none⟩) (by simp) (.slice ov rv sv)).far (p := ⟨w.heap.size + 1, 1, none⟩) (by simp) (.int .i64 S.log)).far (p := ⟨w.heap.size + 1, 2, none⟩) (by simp) (.int .i64 S.next)).far (p := ⟨w.heap.size + 1, 3, none⟩) (by simp) (.int .i64 S.seq)
            simpa using this.drew
          · have := HB2.out
            have := ((((((this.far (p := ⟨w.heap.size, 0, none⟩) (by simp) (.slice o0 r0 s0)).far (p := ⟨w.heap.size, 1, none⟩) (by simp) (.slice o1 r1 s1)).far (p := ⟨w.heap.size, 2, none⟩) (by simp) (.slice o2 r2 s2)).far (p := ⟨w.heap.size, 3, none⟩) (by simp) (.slice o3 r3 s3)).far (p := ⟨w.heap.size, 4, none⟩) (by simp) (.int .i64 S.log)).far (p := ⟨w.heap.size, 5, none⟩) (by simp) (.int .i64 S.next)).far (p := ⟨w.heap.size, 6, none⟩) (by simp) (.int .i64 S.seq)
            have := (((this.set_ 0 (.slice ov rv sv)).set_ 1 (.int .i64 S.log)).set_ 2 (.int .i64 S.next)).set_ 3 (.int .i64 S.seq)
            simpa using this.drew
          · ((repeat (first | with_reducible exact Chg.refl _ _ | with_reducible assumption | with_reducible refine Chg.drewN ?_ _ | with_reducible refine Chg.drew ?_ | with_reducible refine Chg.alloc ?_ _ | with_reducible refine Chg.setCell ?_ (by first | (simp; done) | (simp; omega) | (intro h; simp at h; omega)) _)))
        case rest =>
          obtain ⟨hz1, hz2, hcz⟩ := hcut
          have hVf : VerAt wc (Lv (.slice o0 r0 s0) (.slice o1 r1 s1) (.slice o2 r2 s2) (.slice o3 r3 s3)) S.lv := fun i hi => (HV.out i hi).chg hcz (HTV.out i hi)
          have hRf := HR.out.chg hcz HTR.out
          have hcf : Chg (fun _ => False) w wc := HCR.out.trans hcz fun k hk e => by omega
          have HVF := Lib.hid hVf
          have HRF := Lib.hid hRf
          have HCF := Lib.hid hcf
          have x0 := hz1.cell 0
          have x1 := hz1.cell 1
          have x2 := hz1.cell 2
          have x3 := hz1.cell 3
          have x4 := hz1.cell 4
          have x5 := hz1.cell 5
          have x6 := hz1.cell 6
          have q0 := hz2.cell 0
          have q1 := hz2.cell 1
          have q2 := hz2.cell 2
          have q3 := hz2.cell 3
          simp at x0 x1 x2 x3 x4 x5 x6 q0 q1 q2 q3
          clear hVf hRf hcf hz1 hz2 hcz
          go_wp2_with fail
          exact bodyPost_ret (v := .tuple #[.agg #[.slice o0 r0 s0, .slice o1 r1 s1, .slice o2 r2 s2, .slice o3 r3 s3, .int .i64 S.log, .int .i64 S.next, .int .i64 S.seq], .agg #[.slice ov rv sv, .int .i64 S.log, .int .i64 S.next, .int .i64 S.seq]]) (by simp [results, Tryz.results6, go_sem, x0, x1, x2, x3, x4, x5, x6, q0, q1, q2, q3]) rfl ⟨S, _, _, _, _, _, _, _, _, _, _, _, _, _, _, _, HFIN.out, HLEN.out, rfl, HVF.out, HRF.out, HCF.out⟩
end Go.Proofs.YtahahginmgidjaaGreatDoor
