/-
  The walk of VersionApplies.
-/
import Derived.Test.YtdjohhoofnogoaaVerK
import Derived.Deep.DeepCutAuto
namespace Go.Proofs.Ytdjohhoofnogoaa
open Go.RowKit
set_option linter.unusedVariables false
set_option linter.unusedSimpArgs false

theorem none_at (w : World) : VerAt w (Lv (.slice none 0 0) (.slice none 0 0) (.slice none 0 0) (.slice none 0 0)) VerV.none.lv := fun i hi => by
  have : (Lv (.slice none 0 0) (.slice none 0 0) (.slice none 0 0) (.slice none 0 0)) i = .slice none 0 0 := by
    match i, hi with
    | 0, _ => rfl
    | 1, _ => rfl
    | 2, _ => rfl
    | 3, _ => rfl
  rw [this]
  exact Lst.nil _ _
theorem same_at (S : VerV) (l0 l1 l2 l3 v : Value) (w : World) (h : VerAt w (Lv l0 l1 l2 l3) S.lv) (hd : Lst docC w v (flat S)) (hl : (flat S).length ≤ 41943040) :
    Calls Try.prog 11 #[.agg #[l0, l1, l2, l3, .int .i64 S.log, .int .i64 S.next, .int .i64 S.seq], .agg #[v, .int .i64 S.log, .int .i64 S.next, .int .i64 S.seq]] w fun e w' => e = .returned (.bool true) ∧ Chg (fun _ => False) w w' :=
  law_same (Lv l0 l1 l2 l3) S v w h hd (fun i hi => by have := lv_len S i hi; omega) (by omega)

set_option maxRecDepth 1000000 in
set_option maxHeartbeats 8000000 in
theorem ver_applies (A : Option Addr) (n c : Nat) (Ed : Nat → EditV) (w : World) (hn : n ≤ c) (hc : c ≤ maxLen) (hE : EdsAt w A n Ed) (hF : ∀ i, i < n → EdFine (Ed i)) :
    Calls Try.prog 3 #[.slice A n c] w fun e w' => e = .returned (.bool true) ∧ Chg (fun _ => False) w w' := by
  unfold maxLen at hc
  obtain ⟨w4, hw4⟩ : ∃ w4, w4 = (w.alloc (.cells #[.slice none 0 0, .slice none 0 0, .slice none 0 0, .slice none 0 0, .int .i64 0, .int .i64 0, .int .i64 0] 26)).alloc (.cells #[.slice none 0 0, .int .i64 0, .int .i64 0, .int .i64 0] 29) := ⟨_, rfl⟩
  have hc4 : Chg (fun _ => False) w w4 := by rw [hw4]; ((repeat (first | exact Chg.refl _ _ | assumption | refine Chg.drewN ?_ _ | refine Chg.drew ?_ | refine Chg.alloc ?_ _ | refine Chg.setCell ?_ (by first | (simp; done) | (simp; omega) | (intro h; simp at h; omega)) _)))
  have b3 : Blk w4 w.heap.size 26 #[.slice none 0 0, .slice none 0 0, .slice none 0 0, .slice none 0 0, .int .i64 0, .int .i64 0, .int .i64 0] := by rw [hw4]; exact (Blk.new w _ _).alloc _
  have b4 : Blk w4 (w.heap.size + 1) 29 #[.slice none 0 0, .int .i64 0, .int .i64 0, .int .i64 0] := by rw [hw4]; exact Blk.new1 w _ _ _
  have ht4 : Two w4 w.heap.size (w.heap.size + 1) VerV.none := Two.mk_ Fine.none (none_at _) (Lst.nil _ _) b3 b4
  have hlt4 := b4.lt
  have HW4 := Lib.hid hw4
  have HC4 := Lib.hid hc4
  have HT4 := Lib.hid ht4
  have HE := Lib.hid hE
  have HF := Lib.hid hF
  clear hw4 hc4 b3 b4 ht4 hE hF
  obtain ⟨q, hq1, hq2, hq3⟩ : ∃ q : Nat, q ≤ n ∧ q ≤ 40 ∧ (q = n ∨ q = 40) := ⟨min n 40, by omega, by omega, by omega⟩
  go_enter Try.func3, Try.ntmps3
  go_upto_region 3 with fail
  rw [← HW4.out]
  go_cut [17, 18, 19] (fun s l i wx => (∃ c', s = .slice A q c') ∧ l = .int .i64 q ∧ i = .int .i64 0 ∧ w4 = wx)
  case first =>
    go_wp2_with fail
    all_goals go_meet
    all_goals exact ⟨⟨c, by rw [show (min (n : Int) 40).toNat = q by omega]⟩, by rw [show max (min (n : Int) 40) 0 = (q : Int) by omega], rfl, rfl⟩
  case rest =>
    obtain ⟨⟨c', rfl⟩, rfl, rfl, rfl⟩ := hcut
    clear hq3
    go_wp2_with fail
    go_loopw [19] (fun i wr => ∃ (k : Nat) (S : VerV), k ≤ q ∧ i = .int .i64 k ∧ (flat S).length ≤ k * 1048576 ∧ Two wr w.heap.size (w.heap.size + 1) S ∧ Chg (fun _ => False) w wr) (fun i _ => q - (intOf i).toNat)
    case atStart => exact ⟨0, _, by omega, rfl, by simp [flat, VerV.none, atLevel], HT4.out, HC4.out⟩
    case round =>
      obtain ⟨k, S, hk, rfl, hlen, hT, hcr⟩ := hrel
      by_cases hlt : k < q
      · obtain ⟨b, off, rfl, hbB, hcell⟩ := HE.out (by omega)
        obtain ⟨av, dv, x0, x1, x2, x3, x4, hra, hrd⟩ := hcell k (by omega)
        have x0 := (hcr.cell (p := ⟨b, _, none⟩) hbB (by simp)).trans x0
        have x1 := (hcr.cell (p := ⟨b, _, none⟩) hbB (by simp)).trans x1
        have x2 := (hcr.cell (p := ⟨b, _, none⟩) hbB (by simp)).trans x2
        have x3 := (hcr.cell (p := ⟨b, _, none⟩) hbB (by simp)).trans x3
        have x4 := (hcr.cell (p := ⟨b, _, none⟩) hbB (by simp)).trans x4
        have hfe := HF.out k (by omega)
        obtain ⟨E, hE⟩ : ∃ E, Ed k = E := ⟨_, rfl⟩
        rw [hE] at x2 x3 x4 hra hrd hfe
        obtain ⟨aa, ac, rfl, hra'⟩ := hra
        have hra : ReadRows w (.slice aa E.add.length ac) E.add := ⟨aa, ac, rfl, hra'⟩
        obtain ⟨da, dc, rfl, hrd'⟩ := hrd
        have hrd : ReadInts w (.slice da E.drop.length dc) E.drop := ⟨da, dc, rfl, hrd'⟩
        have hk0 : (0 : Int) ≤ (k : Int) := by omega
        have hk1 : (k : Int) < (q : Int) := by omega
        obtain ⟨w5, hw5⟩ : ∃ w5, w5 = wr.alloc (.cells #[.slice aa E.add.length ac, .slice da E.drop.length dc, .int .i64 E.log, .int .i64 E.next, .int .i64 E.seq] 33) := ⟨_, rfl⟩
        have hc5 : Chg (fun _ => False) wr w5 := by rw [hw5]; ((repeat (first | exact Chg.refl _ _ | assumption | refine Chg.drewN ?_ _ | refine Chg.drew ?_ | refine Chg.alloc ?_ _ | refine Chg.setCell ?_ (by first | (simp; done) | (simp; omega) | (intro h; simp at h; omega)) _)))
        have h5 := le_form E (.slice aa E.add.length ac) (.slice da E.drop.length dc) w5 hfe (hra.same (hcr.then hc5)) (hrd.same (hcr.then hc5))
        have hbx : Blk w5 wr.heap.size 33 #[.slice aa E.add.length ac, .slice da E.drop.length dc, .int .i64 E.log, .int .i64 E.next, .int .i64 E.seq] := by rw [hw5]; exact Blk.new wr _ _
        have j0 := hbx.cell 0
        have j1 := hbx.cell 1
        have j2 := hbx.cell 2
        have j3 := hbx.cell 3
        have j4 := hbx.cell 4
        simp at j0 j1 j2 j3 j4
        have hlen' : (flat S).length ≤ 40894464 := by
          have : k * 1048576 ≤ 39 * 1048576 := Nat.mul_le_mul_right _ (by omega)
          omega
        have hfa := hfe.add
        have hcw5 := hcr.then hc5
        have HW5 := Lib.hid hw5
        have H5 := Lib.hid h5
        have HT5 := Lib.hid (hT.same hc5)
        have HC5 := Lib.hid hcw5
        have HLEN := Lib.hid hlen
        have HLEN' := Lib.hid hlen'
        have HFE := Lib.hid hfe
        have HHE := Lib.hid hE
        clear hcell HE HT4 HC4 hra hra' hrd hrd' hw5 h5 hbx hT hcr hlen hlen' hE hfe hc5 hcw5
        by_cases hok : okV S E
        · have HOK := Lib.hid hok
          clear hok
          go_upto_region 6 with fail
          rw [← HW5.out]
          go_wp2_with fail
          refine H5.out.mono ?_
          rintro e w6 ⟨a1, n1, c1, a2, n2, c2, a3, n3, c3, a4, n4, c4, rfl, hA1, hD1, hA2, hD2, hc6⟩
          obtain ⟨w7, hw7⟩ : ∃ w7, w7 = (w6.alloc (.cells #[.slice a1 n1 c1, .slice a2 n2 c2, .int .i64 E.log, .int .i64 E.next, .int .i64 E.seq] 36)).alloc (.cells #[.slice a3 n3 c3, .slice a4 n4 c4, .int .i64 E.log, .int .i64 E.next, .int .i64 E.seq] 38) := ⟨_, rfl⟩
          have hc67 : Chg (fun _ => False) w6 w7 := by rw [hw7]; ((repeat (first | exact Chg.refl _ _ | assumption | refine Chg.drewN ?_ _ | refine Chg.drew ?_ | refine Chg.alloc ?_ _ | refine Chg.setCell ?_ (by first | (simp; done) | (simp; omega) | (intro h; simp at h; omega)) _)))
          have hc57 := hc6.then hc67
          have be1 : Blk w7 w6.heap.size 36 #[.slice a1 n1 c1, .slice a2 n2 c2, .int .i64 E.log, .int .i64 E.next, .int .i64 E.seq] := by rw [hw7]; exact (Blk.new w6 _ _).alloc _
          have be2 : Blk w7 (w6.heap.size + 1) 38 #[.slice a3 n3 c3, .slice a4 n4 c4, .int .i64 E.log, .int .i64 E.next, .int .i64 E.seq] := by rw [hw7]; exact Blk.new1 w6 _ _ _
          have hT7 := HT5.out.same hc57
          obtain ⟨o0, o1, o2, o3, ov, r0, r1, r2, r3, rv, s0, s1, s2, s3, sv, hVA, hVR, hBV, hBR⟩ := hT7.open_
          have h8 := va_yes S E (.slice o0 r0 s0) (.slice o1 r1 s1) (.slice o2 r2 s2) (.slice o3 r3 s3) (.slice a1 n1 c1) (.slice a2 n2 c2) w7 hT7.fine HFE.out hVA (hA1.same hc67) (hD1.same hc67) (by have := HLEN'.out; omega) HOK.out
          have z0 := hBV.cell 0
          have z1 := hBV.cell 1
          have z2 := hBV.cell 2
          have z3 := hBV.cell 3
          have z4 := hBV.cell 4
          have z5 := hBV.cell 5
          have z6 := hBV.cell 6
          have i0 := be1.cell 0
          have i1 := be1.cell 1
          have i2 := be1.cell 2
          have i3 := be1.cell 3
          have i4 := be1.cell 4
          simp at z0 z1 z2 z3 z4 z5 z6 i0 i1 i2 i3 i4
          have H8 := Lib.hid h8
          have HW7 := Lib.hid hw7
          have HC57 := Lib.hid hc57
          have HA2 := Lib.hid (hA2.same hc67)
          have HD2 := Lib.hid (hD2.same hc67)
          have HVA := Lib.hid hVA
          have HVR := Lib.hid hVR
          have HBV := Lib.hid hBV
          have HBR := Lib.hid hBR
          have HT7 := Lib.hid hT7
          have HBE2 := Lib.hid be2
          clear h8 hw7 hc57 hc6 hc67 hA1 hD1 hA2 hD2 hVA hVR hBV hBR hT7 be1 be2 j0 j1 j2 j3 j4 x0 x1 x2 x3 x4 H5
          go_upto_region 7 with fail
          rw [← HW7.out]
          go_wp2_with fail
          refine H8.out.mono ?_
          rintro e w8 ⟨p0, p1, p2, p3, m0, m1, m2, m3, d0, d1, d2, d3, rfl, hV, hc8⟩
          have hs57 := HC57.out.size
          have hs78 := hc8.size
          obtain ⟨w9, hw9⟩ : ∃ w9, w9 = w8.alloc (.cells #[.slice p0 m0 d0, .slice p1 m1 d1, .slice p2 m2 d2, .slice p3 m3 d3, .int .i64 E.log, .int .i64 E.next, .int .i64 E.seq] 26) := ⟨_, rfl⟩
          have hc89 : Chg (fun _ => False) w8 w9 := by rw [hw9]; ((repeat (first | exact Chg.refl _ _ | assumption | refine Chg.drewN ?_ _ | refine Chg.drew ?_ | refine Chg.alloc ?_ _ | refine Chg.setCell ?_ (by first | (simp; done) | (simp; omega) | (intro h; simp at h; omega)) _)))
          have hc79 := hc8.then hc89
          have bx : Blk w9 w8.heap.size 26 #[.slice p0 m0 d0, .slice p1 m1 d1, .slice p2 m2 d2, .slice p3 m3 d3, .int .i64 E.log, .int .i64 E.next, .int .i64 E.seq] := by rw [hw9]; exact Blk.new w8 _ _
          have h10 := da_yes S E (.slice ov rv sv) (.slice a3 n3 c3) (.slice a4 n4 c4) w9 HFE.out (HVR.out.same hc79) (HA2.out.same hc79) (HD2.out.same hc79) (by have := HLEN'.out; omega) HOK.out
          have hBR9 := HBR.out.chg hc79 (by simp)
          have hBE9 := HBE2.out.chg hc79 (by simp)
          have z0 := hBR9.cell 0
          have z1 := hBR9.cell 1
          have z2 := hBR9.cell 2
          have z3 := hBR9.cell 3
          have i0 := hBE9.cell 0
          have i1 := hBE9.cell 1
          have i2 := hBE9.cell 2
          have i3 := hBE9.cell 3
          have i4 := hBE9.cell 4
          simp at z0 z1 z2 z3 i0 i1 i2 i3 i4
          have H10 := Lib.hid h10
          have HW9 := Lib.hid hw9
          have HC59 := Lib.hid (HC57.out.then hc79)
          have HBX := Lib.hid bx
          have HV9 := Lib.hid (hV.same hc89)
          clear h10 hw9 hc89 hc79 hc8 bx hBR9 hBE9 H8 HA2 HD2 HVA HBV HBR HBE2 hV
          go_upto_region 8 with fail
          rw [← HW9.out]
          go_wp2_with fail
          refine H10.out.mono ?_
          rintro e w10 ⟨ra, rn, rc, rfl, hR, hc10⟩
          obtain ⟨w11, hw11⟩ : ∃ w11, w11 = w10.alloc (.cells #[.slice ra rn rc, .int .i64 E.log, .int .i64 E.next, .int .i64 E.seq] 29) := ⟨_, rfl⟩
          have hca : Chg (fun _ => False) w10 w11 := by rw [hw11]; ((repeat (first | exact Chg.refl _ _ | assumption | refine Chg.drewN ?_ _ | refine Chg.drew ?_ | refine Chg.alloc ?_ _ | refine Chg.setCell ?_ (by first | (simp; done) | (simp; omega) | (intro h; simp at h; omega)) _)))
          have hc911 := hc10.then hca
          have hc511 := HC59.out.then hc911
          have hT11 := HT5.out.same hc511
          have bn1 : Blk w11 w8.heap.size 26 #[.slice p0 m0 d0, .slice p1 m1 d1, .slice p2 m2 d2, .slice p3 m3 d3, .int .i64 E.log, .int .i64 E.next, .int .i64 E.seq] := HBX.out.chg hc911 (by simp)
          have bn2 : Blk w11 w10.heap.size 29 #[.slice ra rn rc, .int .i64 E.log, .int .i64 E.next, .int .i64 E.seq] := by rw [hw11]; exact Blk.new w10 _ _
          have hnew : Two w11 w8.heap.size w10.heap.size (nextV S E) := Two.mk_ (HT5.out.fine.next HOK.out HFE.out.nx) (HV9.out.same hc911) (hR.same hca) bn1 bn2
          have hVn := (HV9.out.same hc911)
          have hRn := (hR.same hca)
          have hs911 := hc10.size
          have hs8 := HBX.out.lt
          have hl5 := HT5.out.lt_
          have HNEW := Lib.hid hnew
          have HVN := Lib.hid hVn
          have HRN := Lib.hid hRn
          have HB1 := Lib.hid bn1
          have HB2 := Lib.hid bn2
          have HT11 := Lib.hid hT11
          have HC511 := Lib.hid hc511
          have HW11 := Lib.hid hw11
          have HCW := Lib.hid (HC5.out.then hc511)
          have z0 := bn1.cell 0
          have z1 := bn1.cell 1
          have z2 := bn1.cell 2
          have z3 := bn1.cell 3
          have z4 := bn1.cell 4
          have z5 := bn1.cell 5
          have z6 := bn1.cell 6
          have i0 := bn2.cell 0
          have i1 := bn2.cell 1
          have i2 := bn2.cell 2
          have i3 := bn2.cell 3
          simp at z0 z1 z2 z3 z4 z5 z6 i0 i1 i2 i3
          have hsame : Calls Try.prog 11 #[.agg #[.slice p0 m0 d0, .slice p1 m1 d1, .slice p2 m2 d2, .slice p3 m3 d3, .int .i64 E.log, .int .i64 E.next, .int .i64 E.seq], .agg #[.slice ra rn rc, .int .i64 E.log, .int .i64 E.next, .int .i64 E.seq]] w11 fun e w' => e = .returned (.bool true) ∧ Chg (fun _ => False) w11 w' := same_at (nextV S E) _ _ _ _ _ w11 hVn hRn (by have := next_len (S := S) (E := E) HOK.out; have := HLEN'.out; omega)
          have HSAME := Lib.hid hsame
          clear hw11 hca hc911 hc511 hT11 hc10 bn1 bn2 hnew hVn hRn hsame i4 hR
          go_upto_region 9 with fail
          rw [← HW11.out]
          go_wp2_with fail
          refine HSAME.out.mono ?_
          rintro e w12 ⟨rfl, hc12⟩
          have hT12 := HT11.out.same hc12
          obtain ⟨o0, o1, o2, o3, ov, r0, r1, r2, r3, rv, s0, s1, s2, s3, sv, hVA, hVR, hBV, hBR⟩ := hT12.open_
          have hsame : Calls Try.prog 11 #[.agg #[.slice o0 r0 s0, .slice o1 r1 s1, .slice o2 r2 s2, .slice o3 r3 s3, .int .i64 S.log, .int .i64 S.next, .int .i64 S.seq], .agg #[.slice ov rv sv, .int .i64 S.log, .int .i64 S.next, .int .i64 S.seq]] w12 fun e w' => e = .returned (.bool true) ∧ Chg (fun _ => False) w12 w' := same_at S _ _ _ _ _ w12 hVA hVR (by have := HLEN'.out; omega)
          have HSAME2 := Lib.hid hsame
          have y0 := hBV.cell 0
          have y1 := hBV.cell 1
          have y2 := hBV.cell 2
          have y3 := hBV.cell 3
          have y4 := hBV.cell 4
          have y5 := hBV.cell 5
          have y6 := hBV.cell 6
          have yr0 := hBR.cell 0
          have yr1 := hBR.cell 1
          have yr2 := hBR.cell 2
          have yr3 := hBR.cell 3
          simp at y0 y1 y2 y3 y4 y5 y6 yr0 yr1 yr2 yr3
          have HBV := Lib.hid hBV
          have HBR := Lib.hid hBR
          have HT12 := Lib.hid hT12
          have HC12 := Lib.hid hc12
          clear hT12 hVA hVR hBV hBR hsame hc12 HSAME z0 z1 z2 z3 z4 z5 z6 i0 i1 i2 i3
          go_wp2_with fail
          refine HSAME2.out.mono ?_
          rintro e w13 ⟨rfl, hc13⟩
          have hc1113 := HC12.out.then hc13
          have hb1 := HB1.out.chg hc1113 (by simp)
          have hb2 := HB2.out.chg hc1113 (by simp)
          have hBV := HBV.out.chg hc13 (by simp)
          have hBR := HBR.out.chg hc13 (by simp)
          have z0 := hb1.cell 0
          have z1 := hb1.cell 1
          have z2 := hb1.cell 2
          have z3 := hb1.cell 3
          have z4 := hb1.cell 4
          have z5 := hb1.cell 5
          have z6 := hb1.cell 6
          have i0 := hb2.cell 0
          have i1 := hb2.cell 1
          have i2 := hb2.cell 2
          have i3 := hb2.cell 3
          have f0 := hBV.frozen 0
          have f1 := hBV.frozen 1
          have f2 := hBV.frozen 2
          have f3 := hBV.frozen 3
          have f4 := hBV.frozen 4
          have f5 := hBV.frozen 5
          have f6 := hBV.frozen 6
          have fr0 := hBR.frozen 0
          have fr1 := hBR.frozen 1
          have fr2 := hBR.frozen 2
          have fr3 := hBR.frozen 3
          have y0 := hBV.cell 0
          have y1 := hBV.cell 1
          have y2 := hBV.cell 2
          have y3 := hBV.cell 3
          have y4 := hBV.cell 4
          have y5 := hBV.cell 5
          have y6 := hBV.cell 6
          have yr0 := hBR.cell 0
          have yr1 := hBR.cell 1
          have yr2 := hBR.cell 2
          have yr3 := hBR.cell 3
          simp at z0 z1 z2 z3 z4 z5 z6 i0 i1 i2 i3 y0 y1 y2 y3 y4 y5 y6 yr0 yr1 yr2 yr3
          have hs59 := HC59.out.size
          have ds1 : ¬ w10.heap.size = w.heap.size := by omega
          have ds2 : ¬ w10.heap.size = w.heap.size + 1 := by omega
          have ds3 : ¬ w8.heap.size = w.heap.size := by omega
          have ds4 : ¬ w8.heap.size = w.heap.size + 1 := by omega
          have ds5 : ¬ w.heap.size = w10.heap.size := by omega
          have ds6 : ¬ w.heap.size + 1 = w10.heap.size := by omega
          have ds7 : ¬ w.heap.size = w8.heap.size := by omega
          have ds8 : ¬ w.heap.size + 1 = w8.heap.size := by omega
          have HVN3 := Lib.hid (fun (i : Nat) (hi : i < 4) => (HVN.out i hi).same hc1113)
          have HRN3 := Lib.hid (HRN.out.same hc1113)
          have HBV3 := Lib.hid hBV
          have HBR3 := Lib.hid hBR
          have HT13 := Lib.hid (HT11.out.same hc1113)
          have HC13 := Lib.hid (HCW.out.then hc1113)
          clear hb1 hb2 hBV hBR hc1113 hc13
          go_wp2_with fail
          go_region
          go_wp2_with fail
          refine ⟨⟨k + 1, nextV S E, by omega, by go_num, len_step HLEN.out (next_len HOK.out) hfa, ?_, ?_⟩, by simp [intOf]; omega⟩
          · refine HT13.out.put HNEW.out.fine (HVN3.out) HRN3.out ?_ ?_ ?_
            · ((repeat (first | with_reducible exact Chg.refl _ _ | with_reducible assumption | with_reducible refine Chg.drewN ?_ _ | with_reducible refine Chg.drew ?_ | with_reducible refine Chg.alloc ?_ _ | with_reducible refine Chg.setCell ?_ (by first | (simp; done) | (simp; omega) | (intro h; simp at h; omega)) _)))
            · have := ((((((HBV3.out.set_ 0 (.slice p0 m0 d0)).set_ 1 (.slice p1 m1 d1)).set_ 2 (.slice p2 m2 d2)).set_ 3 (.slice p3 m3 d3)).set_ 4 (.int .i64 E.log)).set_ 5 (.int .i64 E.next)).set_ 6 (.int .i64 E.seq)
              have := (((this.far (p := ⟨w.heap.size + 1, 0, none⟩) (by simp) (.slice ra rn rc)).far (p := ⟨w.heap.size + 1, 1, none⟩) (by simp) (.int .i64 E.log)).far (p := ⟨w.heap.size + 1, 2, none⟩) (by simp) (.int .i64 E.next)).far (p := ⟨w.heap.size + 1, 3, none⟩) (by simp) (.int .i64 E.seq)
              have h9 := this.drew
              simp at h9
              exact h9
            · have := HBR3.out
              have := ((((((this.far (p := ⟨w.heap.size, 0, none⟩) (by simp) (.slice p0 m0 d0)).far (p := ⟨w.heap.size, 1, none⟩) (by simp) (.slice p1 m1 d1)).far (p := ⟨w.heap.size, 2, none⟩) (by simp) (.slice p2 m2 d2)).far (p := ⟨w.heap.size, 3, none⟩) (by simp) (.slice p3 m3 d3)).far (p := ⟨w.heap.size, 4, none⟩) (by simp) (.int .i64 E.log)).far (p := ⟨w.heap.size, 5, none⟩) (by simp) (.int .i64 E.next)).far (p := ⟨w.heap.size, 6, none⟩) (by simp) (.int .i64 E.seq)
              have := (((this.set_ 0 (.slice ra rn rc)).set_ 1 (.int .i64 E.log)).set_ 2 (.int .i64 E.next)).set_ 3 (.int .i64 E.seq)
              have h9 := this.drew
              simp at h9
              exact h9
          · have := HC13.out
            ((repeat (first | with_reducible exact Chg.refl _ _ | with_reducible assumption | with_reducible refine Chg.drewN ?_ _ | with_reducible refine Chg.drew ?_ | with_reducible refine Chg.alloc ?_ _ | with_reducible refine Chg.setCell ?_ (by first | (simp; done) | (simp; omega) | (intro h; simp at h; omega)) _)))
        · have HOK := Lib.hid hok
          clear hok
          go_upto_region 6 with fail
          rw [← HW5.out]
          go_wp2_with fail
          refine H5.out.mono ?_
          rintro e w6 ⟨a1, n1, c1, a2, n2, c2, a3, n3, c3, a4, n4, c4, rfl, hA1, hD1, hA2, hD2, hc6⟩
          obtain ⟨w7, hw7⟩ : ∃ w7, w7 = (w6.alloc (.cells #[.slice a1 n1 c1, .slice a2 n2 c2, .int .i64 E.log, .int .i64 E.next, .int .i64 E.seq] 36)).alloc (.cells #[.slice a3 n3 c3, .slice a4 n4 c4, .int .i64 E.log, .int .i64 E.next, .int .i64 E.seq] 38) := ⟨_, rfl⟩
          have hc67 : Chg (fun _ => False) w6 w7 := by rw [hw7]; ((repeat (first | exact Chg.refl _ _ | assumption | refine Chg.drewN ?_ _ | refine Chg.drew ?_ | refine Chg.alloc ?_ _ | refine Chg.setCell ?_ (by first | (simp; done) | (simp; omega) | (intro h; simp at h; omega)) _)))
          have hc57 := hc6.then hc67
          have be1 : Blk w7 w6.heap.size 36 #[.slice a1 n1 c1, .slice a2 n2 c2, .int .i64 E.log, .int .i64 E.next, .int .i64 E.seq] := by rw [hw7]; exact (Blk.new w6 _ _).alloc _
          have be2 : Blk w7 (w6.heap.size + 1) 38 #[.slice a3 n3 c3, .slice a4 n4 c4, .int .i64 E.log, .int .i64 E.next, .int .i64 E.seq] := by rw [hw7]; exact Blk.new1 w6 _ _ _
          have hT7 := HT5.out.same hc57
          obtain ⟨o0, o1, o2, o3, ov, r0, r1, r2, r3, rv, s0, s1, s2, s3, sv, hVA, hVR, hBV, hBR⟩ := hT7.open_
          have h8 := va_no S E (.slice o0 r0 s0) (.slice o1 r1 s1) (.slice o2 r2 s2) (.slice o3 r3 s3) (.slice a1 n1 c1) (.slice a2 n2 c2) w7 hT7.fine HFE.out hVA (hA1.same hc67) (hD1.same hc67) (by have := HLEN'.out; omega) HOK.out
          have z0 := hBV.cell 0
          have z1 := hBV.cell 1
          have z2 := hBV.cell 2
          have z3 := hBV.cell 3
          have z4 := hBV.cell 4
          have z5 := hBV.cell 5
          have z6 := hBV.cell 6
          have i0 := be1.cell 0
          have i1 := be1.cell 1
          have i2 := be1.cell 2
          have i3 := be1.cell 3
          have i4 := be1.cell 4
          simp at z0 z1 z2 z3 z4 z5 z6 i0 i1 i2 i3 i4
          have H8 := Lib.hid h8
          have HW7 := Lib.hid hw7
          have HC57 := Lib.hid hc57
          have HA2 := Lib.hid (hA2.same hc67)
          have HD2 := Lib.hid (hD2.same hc67)
          have HVA := Lib.hid hVA
          have HVR := Lib.hid hVR
          have HBV := Lib.hid hBV
          have HBR := Lib.hid hBR
          have HT7 := Lib.hid hT7
          have HBE2 := Lib.hid be2
          clear h8 hw7 hc57 hc6 hc67 hA1 hD1 hA2 hD2 hVA hVR hBV hBR hT7 be1 be2 j0 j1 j2 j3 j4 x0 x1 x2 x3 x4 H5
          go_upto_region 7 with fail
          rw [← HW7.out]
          go_wp2_with fail
          refine H8.out.mono ?_
          rintro e w8 ⟨rfl, hc8⟩
          have hs57 := HC57.out.size
          have hs78 := hc8.size
          obtain ⟨w9, hw9⟩ : ∃ w9, w9 = w8.alloc (.cells #[.slice none 0 0, .slice none 0 0, .slice none 0 0, .slice none 0 0, .int .i64 0, .int .i64 0, .int .i64 0] 26) := ⟨_, rfl⟩
          have hc89 : Chg (fun _ => False) w8 w9 := by rw [hw9]; ((repeat (first | exact Chg.refl _ _ | assumption | refine Chg.drewN ?_ _ | refine Chg.drew ?_ | refine Chg.alloc ?_ _ | refine Chg.setCell ?_ (by first | (simp; done) | (simp; omega) | (intro h; simp at h; omega)) _)))
          have hc79 := hc8.then hc89
          have bx : Blk w9 w8.heap.size 26 #[.slice none 0 0, .slice none 0 0, .slice none 0 0, .slice none 0 0, .int .i64 0, .int .i64 0, .int .i64 0] := by rw [hw9]; exact Blk.new w8 _ _
          have h10 := da_no S E (.slice ov rv sv) (.slice a3 n3 c3) (.slice a4 n4 c4) w9 HFE.out (HVR.out.same hc79) (HA2.out.same hc79) (HD2.out.same hc79) (by have := HLEN'.out; omega) HOK.out
          have hBR9 := HBR.out.chg hc79 (by simp)
          have hBE9 := HBE2.out.chg hc79 (by simp)
          have z0 := hBR9.cell 0
          have z1 := hBR9.cell 1
          have z2 := hBR9.cell 2
          have z3 := hBR9.cell 3
          have i0 := hBE9.cell 0
          have i1 := hBE9.cell 1
          have i2 := hBE9.cell 2
          have i3 := hBE9.cell 3
          have i4 := hBE9.cell 4
          simp at z0 z1 z2 z3 i0 i1 i2 i3 i4
          have H10 := Lib.hid h10
          have HW9 := Lib.hid hw9
          have HC59 := Lib.hid (HC57.out.then hc79)
          have HBX := Lib.hid bx
          clear h10 hw9 hc89 hc79 hc8 bx hBR9 hBE9 H8 HA2 HD2 HVA HBV HBR HBE2
          go_upto_region 8 with fail
          rw [← HW9.out]
          go_wp2_with fail
          refine H10.out.mono ?_
          rintro e w10 ⟨rfl, hc10⟩
          obtain ⟨w11, hw11⟩ : ∃ w11, w11 = w10.alloc (.cells #[.slice none 0 0, .int .i64 0, .int .i64 0, .int .i64 0] 29) := ⟨_, rfl⟩
          have hca : Chg (fun _ => False) w10 w11 := by rw [hw11]; ((repeat (first | exact Chg.refl _ _ | assumption | refine Chg.drewN ?_ _ | refine Chg.drew ?_ | refine Chg.alloc ?_ _ | refine Chg.setCell ?_ (by first | (simp; done) | (simp; omega) | (intro h; simp at h; omega)) _)))
          have hc911 := hc10.then hca
          have hc511 := HC59.out.then hc911
          have hT11 := HT5.out.same hc511
          have bn1 : Blk w11 w8.heap.size 26 #[.slice none 0 0, .slice none 0 0, .slice none 0 0, .slice none 0 0, .int .i64 0, .int .i64 0, .int .i64 0] := HBX.out.chg hc911 (by simp)
          have bn2 : Blk w11 w10.heap.size 29 #[.slice none 0 0, .int .i64 0, .int .i64 0, .int .i64 0] := by rw [hw11]; exact Blk.new w10 _ _
          have hnew : Two w11 w8.heap.size w10.heap.size VerV.none := Two.mk_ Fine.none (none_at w11) (show Lst docC w11 (.slice none 0 0) (flat VerV.none) from Lst.nil _ _) bn1 bn2
          have hVn := (none_at w11)
          have hRn := (show Lst docC w11 (.slice none 0 0) (flat VerV.none) from Lst.nil _ _)
          have hs911 := hc10.size
          have hs8 := HBX.out.lt
          have hl5 := HT5.out.lt_
          have HNEW := Lib.hid hnew
          have HVN := Lib.hid hVn
          have HRN := Lib.hid hRn
          have HB1 := Lib.hid bn1
          have HB2 := Lib.hid bn2
          have HT11 := Lib.hid hT11
          have HC511 := Lib.hid hc511
          have HW11 := Lib.hid hw11
          have HCW := Lib.hid (HC5.out.then hc511)
          have z0 := bn1.cell 0
          have z1 := bn1.cell 1
          have z2 := bn1.cell 2
          have z3 := bn1.cell 3
          have z4 := bn1.cell 4
          have z5 := bn1.cell 5
          have z6 := bn1.cell 6
          have i0 := bn2.cell 0
          have i1 := bn2.cell 1
          have i2 := bn2.cell 2
          have i3 := bn2.cell 3
          simp at z0 z1 z2 z3 z4 z5 z6 i0 i1 i2 i3
          have hsame : Calls Try.prog 11 #[.agg #[.slice none 0 0, .slice none 0 0, .slice none 0 0, .slice none 0 0, .int .i64 0, .int .i64 0, .int .i64 0], .agg #[.slice none 0 0, .int .i64 0, .int .i64 0, .int .i64 0]] w11 fun e w' => e = .returned (.bool true) ∧ Chg (fun _ => False) w11 w' := same_at VerV.none _ _ _ _ _ w11 hVn hRn (by simp [flat, VerV.none, atLevel])
          have HSAME := Lib.hid hsame
          clear hw11 hca hc911 hc511 hT11 hc10 bn1 bn2 hnew hVn hRn hsame i4
          go_upto_region 9 with fail
          rw [← HW11.out]
          go_wp2_with fail
          refine HSAME.out.mono ?_
          rintro e w12 ⟨rfl, hc12⟩
          have hT12 := HT11.out.same hc12
          obtain ⟨o0, o1, o2, o3, ov, r0, r1, r2, r3, rv, s0, s1, s2, s3, sv, hVA, hVR, hBV, hBR⟩ := hT12.open_
          have hsame : Calls Try.prog 11 #[.agg #[.slice o0 r0 s0, .slice o1 r1 s1, .slice o2 r2 s2, .slice o3 r3 s3, .int .i64 S.log, .int .i64 S.next, .int .i64 S.seq], .agg #[.slice ov rv sv, .int .i64 S.log, .int .i64 S.next, .int .i64 S.seq]] w12 fun e w' => e = .returned (.bool true) ∧ Chg (fun _ => False) w12 w' := same_at S _ _ _ _ _ w12 hVA hVR (by have := HLEN'.out; omega)
          have HSAME2 := Lib.hid hsame
          have y0 := hBV.cell 0
          have y1 := hBV.cell 1
          have y2 := hBV.cell 2
          have y3 := hBV.cell 3
          have y4 := hBV.cell 4
          have y5 := hBV.cell 5
          have y6 := hBV.cell 6
          have yr0 := hBR.cell 0
          have yr1 := hBR.cell 1
          have yr2 := hBR.cell 2
          have yr3 := hBR.cell 3
          simp at y0 y1 y2 y3 y4 y5 y6 yr0 yr1 yr2 yr3
          have HBV := Lib.hid hBV
          have HBR := Lib.hid hBR
          have HT12 := Lib.hid hT12
          have HC12 := Lib.hid hc12
          clear hT12 hVA hVR hBV hBR hsame hc12 HSAME z0 z1 z2 z3 z4 z5 z6 i0 i1 i2 i3
          go_wp2_with fail
          refine HSAME2.out.mono ?_
          rintro e w13 ⟨rfl, hc13⟩
          have HT13 := Lib.hid (HT12.out.same hc13)
          have HC13 := Lib.hid (HCW.out.then (HC12.out.then hc13))
          clear hc13
          go_wp2_with fail
          exact ⟨⟨k + 1, S, by omega, by go_num, len_step HLEN.out (Nat.le_add_right _ 0) (by omega), HT13.out, HC13.out⟩, by simp [intOf]; omega⟩
      · obtain rfl : k = q := by omega
        have hge : ¬ ((k : Int) < (k : Int)) := by omega
        have hwk := law_wakes wr
        have HWK := Lib.hid hwk
        have HCR := Lib.hid hcr
        clear hwk hcr hT hlen HE HT4 HC4
        go_wp2_with fail
        refine HWK.out.mono ?_
        rintro e w5 ⟨rfl, hc5⟩
        have HF5 := Lib.hid (HCR.out.then hc5)
        clear hc5
        go_wp2_with fail
        go_ret
        exact ⟨rfl, HF5.out⟩
end Go.Proofs.Ytdjohhoofnogoaa
