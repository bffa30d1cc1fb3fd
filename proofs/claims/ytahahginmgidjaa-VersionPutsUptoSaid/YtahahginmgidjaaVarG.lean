/-
  The document's bytes of an edit: Put.
-/
import Derived.Test.YtahahginmgidjaaVarF
import Derived.Test.YtahahginmgidjaaVarD
namespace Go.Proofs.Ytahahginmgidjaa
open Go.RowKit
set_option linter.unusedVariables false
set_option linter.unusedSimpArgs false

theorem Lst.rows2 {w : World} {v : Value} {l : List PlaceV} (h : Lst docC w v l) : ReadRows w v l := by
  obtain ⟨a, cap, rfl, h1, h2, h3⟩ := doc_form h
  refine ⟨a, cap, rfl, h1, h2, fun A x B hl => ?_⟩
  obtain ⟨b, rfl, hb, _, z0, z1, z2, z3, z4⟩ := h3 A x B hl
  exact ⟨b, 0, rfl, hb, by rw [Nat.zero_add]; exact z0, by rw [Nat.zero_add]; exact z1, by rw [Nat.zero_add]; exact z2, by rw [Nat.zero_add]; exact z3, by rw [Nat.zero_add]; exact z4⟩
theorem put_name {n : Int} (h : In64 n) : ∃ T : ByteArray, T.data.toList = putV n ∧ T.size ≤ 10 ∧ ∀ w, Calls Try.prog 25 #[.int .i64 n] w fun e w' => e = .returned (.string T) ∧ Chg (fun _ => False) w w' := by
  refine ⟨⟨(putV n).toArray⟩, rfl, ?_, fun w => r1_put n h.1 h.2 w⟩
  show (putV n).toArray.size ≤ 10
  rw [List.size_toArray]
  exact putV_len h.1 h.2
theorem text_name {s : ByteArray} (h : s.size ≤ 1048576) : ∃ T : ByteArray, T.data.toList = putT s ∧ T.size ≤ 1048586 ∧ ∀ w, Calls Try.prog 26 #[.string s] w fun e w' => e = .returned (.string T) ∧ Chg (fun _ => False) w w' := by
  refine ⟨⟨(putT s).toArray⟩, rfl, ?_, fun w => rv_text s (by omega) w⟩
  show (putT s).toArray.size ≤ 1048586
  rw [List.size_toArray]
  have := putT_len (s := s) (by omega)
  omega
set_option maxRecDepth 100000 in
set_option maxHeartbeats 8000000 in
theorem rv_put (E : EditV) (av dv : Value) (w : World) (hE : EdFit E) (ha : ReadRows w av E.add) (hd : ReadInts w dv E.drop) :
    Calls Try.prog 9 #[.agg #[av, dv, .int .i64 E.log, .int .i64 E.next, .int .i64 E.seq]] w fun e w' => e = .returned (.string ⟨(putE E).toArray⟩) ∧ Chg (fun _ => False) w w' := by
  obtain ⟨g, hg⟩ : ∃ g, w.heap.size = g := ⟨_, rfl⟩
  obtain ⟨w1, hw1⟩ : ∃ w1, w1 = w.alloc (.cells #[av, dv, .int .i64 E.log, .int .i64 E.next, .int .i64 E.seq] 31) := ⟨_, rfl⟩
  have hc1 : Chg (fun _ => False) w w1 := by rw [hw1]; ((repeat (first | exact Chg.refl _ _ | assumption | refine Chg.drewN ?_ _ | refine Chg.drew ?_ | refine Chg.alloc ?_ _ | refine Chg.setCell ?_ (by first | (simp; done) | (simp; omega) | (intro h; simp at h; omega)) _)))
  have hb1 : Blk w1 g 31 #[av, dv, .int .i64 E.log, .int .i64 E.next, .int .i64 E.seq] := by rw [hw1, ← hg]; exact Blk.new _ _ _
  have hadl := hE.adds
  have hdrl := hE.drops
  obtain ⟨Ta, ea, za, ha1⟩ := put_name hE.log
  obtain ⟨Tb, eb, zb, hb2⟩ := put_name hE.next
  obtain ⟨Tc, ec, zc, hc3⟩ := put_name hE.seq
  obtain ⟨Td, ed, zd, hd4⟩ := put_name (n := (E.drop.length : Int)) (by unfold In64; omega)
  obtain ⟨Te, ee, ze, he5⟩ := put_name (n := (E.add.length : Int)) (by unfold In64; omega)
  obtain ⟨da, dc, rfl, _, _, hdr⟩ := hd
  obtain ⟨aa, ac, rfl, _, _, hread⟩ := ha
  have a1 := cat_ok Ta Tb (by omega)
  have a2 := cat_ok (Ta ++ Tb) Tc (by rw [ByteArray.size_append]; omega)
  have a3 := cat_ok (Ta ++ Tb ++ Tc) Td (by rw [ByteArray.size_append, ByteArray.size_append]; omega)
  have hH : (Ta ++ Tb ++ Tc ++ Td).data.toList = putA [E.log, E.next, E.seq, (E.drop.length : Int)] := by simp [putA, ea, eb, ec, ed]
  have hHs : (Ta ++ Tb ++ Tc ++ Td).size ≤ 40 := by rw [ByteArray.size_append, ByteArray.size_append, ByteArray.size_append]; omega
  have HW1 := Lib.hid hw1
  have HC1 := Lib.hid hc1
  have HB1 := Lib.hid hb1
  have HA1 := Lib.hid ha1
  have HB2 := Lib.hid hb2
  have HC3 := Lib.hid hc3
  have HD4 := Lib.hid hd4
  have HE5 := Lib.hid he5
  have HREAD := Lib.hid hread
  have HDR := Lib.hid hdr
  have HFIT := Lib.hid hE
  have HG := Lib.hid hg
  have HEE := Lib.hid ee
  have HH := Lib.hid hH
  have y2 := hb1.cell 2
  simp at y2
  clear hw1 hc1 hb1 ha1 hb2 hc3 hd4 he5 hread hdr hE ea eb ec ed ee hH
  go_enter Try.func9, Try.ntmps9
  go_upto_region 1 with fail
  rw [← HW1.out]
  go_wp2_with fail
  refine (HA1.out w1).mono ?_
  rintro e w2 ⟨rfl, hc2⟩
  have HBB2 := Lib.hid (HB1.out.chg hc2 (by simp))
  have HCC2 := Lib.hid (HC1.out.then hc2)
  have y3 := HBB2.out.cell 3
  simp at y3
  clear hc2 y2
  go_wp2_with fail
  refine (HB2.out w2).mono ?_
  rintro e w3 ⟨rfl, hc3⟩
  have HBB3 := Lib.hid (HBB2.out.chg hc3 (by simp))
  have HCC3 := Lib.hid (HCC2.out.then hc3)
  have y4 := HBB3.out.cell 4
  simp at y4
  clear hc3 y3
  go_wp2_with fail
  refine (HC3.out w3).mono ?_
  rintro e w4 ⟨rfl, hc4⟩
  have HBB4 := Lib.hid (HBB3.out.chg hc4 (by simp))
  have HCC4 := Lib.hid (HCC3.out.then hc4)
  have y1 := HBB4.out.cell 1
  simp at y1
  clear hc4 y4
  go_wp2_with fail
  refine (HD4.out w4).mono ?_
  rintro e w5 ⟨rfl, hc5⟩
  have HBB5 := Lib.hid (HBB4.out.chg hc5 (by simp))
  have HCC5 := Lib.hid (HCC4.out.then hc5)
  clear hc5 y1
  go_upto_region 6 with fail
  obtain ⟨H, hHe⟩ : ∃ H, Ta ++ Tb ++ Tc ++ Td = H := ⟨_, rfl⟩
  rw [hHe] at HH hHs ⊢
  clear hHe a1 a2 a3 HA1 HB2 HC3 HD4 HBB2 HBB3 HBB4 HB1 HC1 HCC2 HCC3 HCC4 za zb zc zd
  go_wp2_with fail
  go_loopw [7, 8] (fun s i wr => ∃ A R S, E.drop = A ++ R ∧ i = .int .i64 (A.length : Int) ∧ s = .string S ∧ S.data.toList = H.data.toList ++ putA A ∧ Blk wr g 31 #[.slice aa E.add.length ac, .slice da E.drop.length dc, .int .i64 E.log, .int .i64 E.next, .int .i64 E.seq] ∧ Chg (fun _ => False) w wr) (fun _ i _ => E.drop.length - (intOf i).toNat)
  case atStart => exact ⟨[], E.drop, H, rfl, rfl, rfl, by simp [putA], HBB5.out, HCC5.out⟩
  case round =>
    obtain ⟨A, R, S, hl, rfl, rfl, hS, hbr, hcr⟩ := hrel
    have hAl : A.length ≤ E.drop.length := by rw [hl]; simp
    have hAp := putA_len (l := A) fun y hy => HFIT.out.drop y (by rw [hl]; simp [hy])
    have hSs : S.size ≤ 500000100 := by
      rw [← bs_len, hS, List.length_append, bs_len]
      omega
    have y1 := hbr.cell 1
    simp at y1
    have HBR := Lib.hid hbr
    have HCR := Lib.hid hcr
    have HS := Lib.hid hS
    obtain ⟨wq, rfl⟩ : ∃ wq : World, wq = wr := ⟨_, rfl⟩
    clear hbr hcr hS
    cases R with
    | cons x R =>
      have hlt : (A.length : Int) < (E.drop.length : Int) := by rw [hl]; simp; omega
      obtain ⟨b, off, rfl, hb, hx⟩ := HDR.out (by rw [hl]; simp)
      have y0 := ky_chg HCR.out (hx A.length x (by rw [hl]; simp))
      obtain ⟨T, eT, zT, hT⟩ := put_name (HFIT.out.drop x (by rw [hl]; simp))
      have hl2 : E.drop = (A ++ [x]) ++ R := by rw [hl]; simp
      have HL2 := Lib.hid hl2
      have hge : (0 : Int) ≤ (A.length : Int) := by omega
      have hadd := cat_ok S T (by omega)
      have HT := Lib.hid hT
      have HET := Lib.hid eT
      clear hl hl2 hb hx hT eT
      go_wp2_with fail
      refine (HT.out wq).mono ?_
      rintro e w2 ⟨rfl, hc2⟩
      have HB2 := Lib.hid (HBR.out.chg hc2 (by simp))
      have HC2 := Lib.hid (HCR.out.then hc2)
      clear hc2
      go_wp2_with fail
      go_roundw
      case rel => exact ⟨A ++ [x], R, S ++ T, HL2.out, by simp, rfl, by rw [putA_add, ← HET.out, ByteArray.data_append, Array.toList_append, HS.out, List.append_assoc], HB2.out, HC2.out⟩
      case measure => simp [intOf]; omega
    | nil =>
      have hge : ¬ ((A.length : Int) < (E.drop.length : Int)) := by rw [hl]; simp
      have hEA : E.drop = A := by rw [hl]; simp
      have y0 := HBR.out.cell 0
      simp at y0
      have hadd := cat_ok S Te (by omega)
      have HEA := Lib.hid hEA
      clear hl hEA
      go_wp2_with fail
      refine (HE5.out wq).mono ?_
      rintro e w2 ⟨rfl, hc2⟩
      have HB2 := Lib.hid (HBR.out.chg hc2 (by simp))
      have HC2 := Lib.hid (HCR.out.then hc2)
      have hhd : (S ++ Te).data.toList = putA [E.log, E.next, E.seq, (E.drop.length : Int)] ++ putA E.drop ++ putV (E.add.length : Int) := by rw [ByteArray.data_append, Array.toList_append, HS.out, HH.out, HEE.out, HEA.out]
      have hhs : (S ++ Te).size ≤ 500000110 := by rw [ByteArray.size_append]; omega
      obtain ⟨HD, hHD⟩ : ∃ HD, S ++ Te = HD := ⟨_, rfl⟩
      clear hc2 y0 y1
      go_upto_region 13 with fail
      rw [hHD] at hhd hhs
      have HHD := Lib.hid hhd
      clear hhd hHD hadd HE5 HH HEE HS HBB5 HCC5 hAp hSs hHs hge hAl
      go_wp2_with fail
      go_loopw [7, 11] (fun s i wr => ∃ A R S, E.add = A ++ R ∧ i = .int .i64 (A.length : Int) ∧ s = .string S ∧ S.data.toList = HD.data.toList ++ A.flatMap putP ∧ Blk wr g 31 #[.slice aa E.add.length ac, .slice da E.drop.length dc, .int .i64 E.log, .int .i64 E.next, .int .i64 E.seq] ∧ Chg (fun _ => False) w wr) (fun _ i _ => E.add.length - (intOf i).toNat)
      case atStart => exact ⟨[], E.add, HD, rfl, rfl, rfl, by simp, HB2.out, HC2.out⟩
      case round =>
        obtain ⟨A, R, S, hl, rfl, rfl, hS, hbr, hcr⟩ := hrel
        have hAl : A.length ≤ E.add.length := by rw [hl]; simp
        have hAp := putP_all (l := A) fun y hy => HFIT.out.add y (by rw [hl]; simp [hy])
        have hSs : S.size ≤ 105000000000000 := by
          rw [← bs_len, hS, List.length_append, bs_len]
          have := Nat.mul_le_mul_left 2097202 (show A.length ≤ 50000000 by omega)
          omega
        have y0 := hbr.cell 0
        simp at y0
        have HBR := Lib.hid hbr
        have HCR := Lib.hid hcr
        have HS := Lib.hid hS
        obtain ⟨wq, rfl⟩ : ∃ wq : World, wq = wr := ⟨_, rfl⟩
        clear hbr hcr hS
        cases R with
        | nil =>
          have hge : ¬ ((A.length : Int) < (E.add.length : Int)) := by rw [hl]; simp
          have hEA2 : E.add = A := by rw [hl]; simp
          have HEA2 := Lib.hid hEA2
          clear hl hEA2
          go_wp2_with fail
          go_ret
          exact ⟨congrArg (fun x => Ending.returned (.string x)) (bs_eq (by unfold putE; rw [HS.out, HHD.out, HEA2.out])), HCR.out⟩
        | cons x R =>
          have hlt : (A.length : Int) < (E.add.length : Int) := by rw [hl]; simp; omega
          obtain ⟨b, off, rfl, hb, z0, z1, z2, z3, z4⟩ := HREAD.out A x R hl
          have k0 := ky_chg HCR.out z0
          have k1 := ky_chg HCR.out z1
          have k2 := ky_chg HCR.out z2
          have k3 := ky_chg HCR.out z3
          have k4 := ky_chg HCR.out z4
          obtain ⟨x0, x1, x2, x3, x4⟩ := HFIT.out.add x (by rw [hl]; simp)
          have hl2 : E.add = (A ++ [x]) ++ R := by rw [hl]; simp
          have HL2 := Lib.hid hl2
          have hge : (0 : Int) ≤ (A.length : Int) := by omega
          obtain ⟨T0, e0, s0, h0⟩ := put_name x0
          obtain ⟨T1, e1, s1, h1⟩ := put_name x1
          obtain ⟨T2, e2, s2, h2⟩ := put_name x2
          obtain ⟨T3, e3, s3, h3⟩ := text_name x3
          obtain ⟨T4, e4, s4, h4⟩ := text_name x4
          obtain ⟨q, hq⟩ : ∃ q, wq.heap.size = q := ⟨_, rfl⟩
          obtain ⟨v2, hv2⟩ : ∃ v2, v2 = wq.alloc (.cells #[.int .i64 x.level, .int .i64 x.m.file, .int .i64 x.m.size, .string x.m.lo, .string x.m.hi] 49) := ⟨_, rfl⟩
          have hcv : Chg (fun _ => False) wq v2 := by rw [hv2]; ((repeat (first | exact Chg.refl _ _ | assumption | refine Chg.drewN ?_ _ | refine Chg.drew ?_ | refine Chg.alloc ?_ _ | refine Chg.setCell ?_ (by first | (simp; done) | (simp; omega) | (intro h; simp at h; omega)) _)))
          have hbp : Blk v2 q 49 #[.int .i64 x.level, .int .i64 x.m.file, .int .i64 x.m.size, .string x.m.lo, .string x.m.hi] := by rw [hv2, ← hq]; exact Blk.new _ _ _
          have b1 := cat_ok S T0 (by omega)
          have b2 := cat_ok (S ++ T0) T1 (by rw [ByteArray.size_append]; omega)
          have b3 := cat_ok (S ++ T0 ++ T1) T2 (by rw [ByteArray.size_append, ByteArray.size_append]; omega)
          have b4 := cat_ok (S ++ T0 ++ T1 ++ T2) T3 (by rw [ByteArray.size_append, ByteArray.size_append, ByteArray.size_append]; omega)
          have b5 := cat_ok (S ++ T0 ++ T1 ++ T2 ++ T3) T4 (by rw [ByteArray.size_append, ByteArray.size_append, ByteArray.size_append, ByteArray.size_append]; omega)
          have hTT : (S ++ T0 ++ T1 ++ T2 ++ T3 ++ T4).data.toList = HD.data.toList ++ (A ++ [x]).flatMap putP := by simp [HS.out, putP, putA, e0, e1, e2, e3, e4]
          have HV2 := Lib.hid hv2
          have HCV := Lib.hid (HCR.out.then hcv)
          have HBV := Lib.hid (HBR.out.chg hcv (by simp))
          have HBP := Lib.hid hbp
          have H0 := Lib.hid h0
          have H1 := Lib.hid h1
          have H2 := Lib.hid h2
          have H3 := Lib.hid h3
          have H4 := Lib.hid h4
          have HTT := Lib.hid hTT
          clear hl hl2 z0 z1 z2 z3 z4 hb e0 e1 e2 e3 e4 h0 h1 h2 h3 h4 hv2 hcv hbp hTT x0 x1 x2 x3 x4 HBR
          go_upto_region 17 with fail
          rw [← HV2.out]
          clear k0 k1 k2 k3 k4 y0
          have p0 := HBP.out.cell 0
          simp at p0
          go_wp2_with fail
          refine (H0.out v2).mono ?_
          rintro e u1 ⟨rfl, hd1⟩
          have P1 := Lib.hid (HBP.out.chg hd1 (by simp))
          have D1 := Lib.hid hd1
          have p1 := P1.out.cell 1
          simp at p1
          clear hd1 p0
          go_wp2_with fail
          refine (H1.out u1).mono ?_
          rintro e u2 ⟨rfl, hd2⟩
          have P2 := Lib.hid (P1.out.chg hd2 (by simp))
          have D2 := Lib.hid (D1.out.then hd2)
          have p2 := P2.out.cell 2
          simp at p2
          clear hd2 p1
          go_wp2_with fail
          refine (H2.out u2).mono ?_
          rintro e u3 ⟨rfl, hd3⟩
          have P3 := Lib.hid (P2.out.chg hd3 (by simp))
          have D3 := Lib.hid (D2.out.then hd3)
          have p3 := P3.out.cell 3
          simp at p3
          clear hd3 p2
          go_wp2_with fail
          refine (H3.out u3).mono ?_
          rintro e u4 ⟨rfl, hd4⟩
          have P4 := Lib.hid (P3.out.chg hd4 (by simp))
          have D4 := Lib.hid (D3.out.then hd4)
          have p4 := P4.out.cell 4
          simp at p4
          clear hd4 p3
          go_wp2_with fail
          refine (H4.out u4).mono ?_
          rintro e u5 ⟨rfl, hd5⟩
          have D5 := Lib.hid (D4.out.then hd5)
          clear hd5 p4
          go_wp2_with fail
          go_roundw
          case rel => exact ⟨A ++ [x], R, S ++ T0 ++ T1 ++ T2 ++ T3 ++ T4, HL2.out, by simp, rfl, HTT.out, HBV.out.chg D5.out (by simp), HCV.out.then D5.out⟩
          case measure => simp [intOf]; omega
end Go.Proofs.Ytahahginmgidjaa
