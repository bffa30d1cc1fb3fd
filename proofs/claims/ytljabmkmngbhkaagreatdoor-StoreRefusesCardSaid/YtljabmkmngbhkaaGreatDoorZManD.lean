/-
  The program's manifest: needed, Clean.
-/
import Derived.Test.YtljabmkmngbhkaaGreatDoorZMg27
namespace Go.Proofs.YtljabmkmngbhkaaGreatDoor
open Go.RowKit
set_option linter.unusedVariables false
set_option linter.unusedSimpArgs false

set_option maxRecDepth 100000 in
set_option maxHeartbeats 4000000 in
theorem ma_needed (nm : ByteArray) (n : Int) (L : Nat → Value) (f : Nat → List MetaV) (log next seq : Int) (w : World) (hnm : nm.size ≤ 64) (ht : Tab w) (he : ErrOk w) (h : VerAt w L f) (hn : ∀ i, i < 4 → (f i).length ≤ 100000000) :
    Calls Tryz.prog 144 #[.string nm, .int .i64 n, .agg #[L 0, L 1, L 2, L 3, .int .i64 log, .int .i64 next, .int .i64 seq]] w fun e w' => e = .returned (.bool (needM nm n log (filesOf (flatF f)))) ∧ Chg (fun _ => False) w w' := by
  obtain ⟨w1, hw1⟩ : ∃ w1, w1 = w.alloc (.cells #[L 0, L 1, L 2, L 3, .int .i64 log, .int .i64 next, .int .i64 seq] 62) := ⟨_, rfl⟩
  have hc1 : Chg (fun _ => False) w w1 := by rw [hw1]; exact (Chg.refl _ _).alloc _
  have hb1 : Blk w1 w.heap.size 62 #[L 0, L 1, L 2, L 3, .int .i64 log, .int .i64 next, .int .i64 seq] := by rw [hw1]; exact Blk.new w _ _
  have y0 := hb1.cell 0
  have y1 := hb1.cell 1
  have y2 := hb1.cell 2
  have y3 := hb1.cell 3
  have y4 := hb1.cell 4
  have y5 := hb1.cell 5
  have y6 := hb1.cell 6
  simp at y0 y1 y2 y3 y4 y5 y6
  have hlt := hb1.lt
  have hnum := fun (k : ByteArray) (hk : k.size ≤ 8) W (hW : Chg (fun _ => False) w W) => wal_number k nm (by omega) (by omega) W (ht.chg hW) (he.chg hW)
  have hfil := fun W (hW : Chg (fun _ => False) w W) => ver_files L f log next seq W (h.same hW) hn
  have hlen : (filesOf (flatF f)).length ≤ 1000000000 := by
    rw [← upTo_all]
    have := upTo_len f 100000000 4 (fun i hi => hn i hi)
    omega
  have N1 := Lib.hid (hnum kindB (by decide))
  have N2 := Lib.hid (hnum logK (by decide))
  have N3 := Lib.hid (hnum tableK (by decide))
  have FI := Lib.hid hfil
  have HC1 := Lib.hid hc1
  have HW1 := Lib.hid hw1
  have HLEN := Lib.hid hlen
  clear hnum hfil hc1 hw1 hb1 h ht he hlen
  go_enter Tryz.func144, Tryz.ntmps144
  go_upto_region 1 with fail
  rw [← HW1.out]
  have hcall := N1.out w1 HC1.out
  have HCALL := Lib.hid hcall
  clear hcall
  go_wp2_with fail
  refine HCALL.out.mono ?_
  rintro e w2 ⟨rfl, hc2⟩
  have hc2' := HC1.out.then hc2
  have z0 := (hc2.cell (p := ⟨w.heap.size, 0, none⟩) hlt (by simp)).trans y0
  have z1 := (hc2.cell (p := ⟨w.heap.size, 1, none⟩) hlt (by simp)).trans y1
  have z2 := (hc2.cell (p := ⟨w.heap.size, 2, none⟩) hlt (by simp)).trans y2
  have z3 := (hc2.cell (p := ⟨w.heap.size, 3, none⟩) hlt (by simp)).trans y3
  have z4 := (hc2.cell (p := ⟨w.heap.size, 4, none⟩) hlt (by simp)).trans y4
  have z5 := (hc2.cell (p := ⟨w.heap.size, 5, none⟩) hlt (by simp)).trans y5
  have z6 := (hc2.cell (p := ⟨w.heap.size, 6, none⟩) hlt (by simp)).trans y6
  have hlt2 := Nat.lt_of_lt_of_le hlt hc2.size
  have HC2 := Lib.hid hc2'
  clear hc2 hc2' y0 y1 y2 y3 y4 y5 y6
  cases h1 : (numL kindB.data.toList nm.data.toList).2
  case true =>
    go_wp2_with fail
    go_ret
    refine ⟨?_, HC2.out⟩
    unfold needM
    rw [h1]
    rfl
  case false =>
  have hcall := N2.out w2 HC2.out
  have HCALL2 := Lib.hid hcall
  clear hcall
  go_wp2_with fail
  refine HCALL2.out.mono ?_
  rintro e w3 ⟨rfl, hc3⟩
  have hc3' := HC2.out.then hc3
  have y0 := (hc3.cell (p := ⟨w.heap.size, 0, none⟩) hlt2 (by simp)).trans z0
  have y1 := (hc3.cell (p := ⟨w.heap.size, 1, none⟩) hlt2 (by simp)).trans z1
  have y2 := (hc3.cell (p := ⟨w.heap.size, 2, none⟩) hlt2 (by simp)).trans z2
  have y3 := (hc3.cell (p := ⟨w.heap.size, 3, none⟩) hlt2 (by simp)).trans z3
  have y4 := (hc3.cell (p := ⟨w.heap.size, 4, none⟩) hlt2 (by simp)).trans z4
  have y5 := (hc3.cell (p := ⟨w.heap.size, 5, none⟩) hlt2 (by simp)).trans z5
  have y6 := (hc3.cell (p := ⟨w.heap.size, 6, none⟩) hlt2 (by simp)).trans z6
  have hlt3 := Nat.lt_of_lt_of_le hlt2 hc3.size
  have HC3 := Lib.hid hc3'
  clear hc3 hc3' z0 z1 z2 z3 z4 z5 z6
  cases h2 : (numL logK.data.toList nm.data.toList).2
  case true =>
    go_wp2_with fail
    go_ret
    refine ⟨?_, HC3.out⟩
    unfold needM
    rw [h1, h2]
    rfl
  case false =>
  have hcall := N3.out w3 HC3.out
  have HCALL3 := Lib.hid hcall
  clear hcall
  go_wp2_with fail
  refine HCALL3.out.mono ?_
  rintro e w4 ⟨rfl, hc4⟩
  have hc4' := HC3.out.then hc4
  have z0 := (hc4.cell (p := ⟨w.heap.size, 0, none⟩) hlt3 (by simp)).trans y0
  have z1 := (hc4.cell (p := ⟨w.heap.size, 1, none⟩) hlt3 (by simp)).trans y1
  have z2 := (hc4.cell (p := ⟨w.heap.size, 2, none⟩) hlt3 (by simp)).trans y2
  have z3 := (hc4.cell (p := ⟨w.heap.size, 3, none⟩) hlt3 (by simp)).trans y3
  have z4 := (hc4.cell (p := ⟨w.heap.size, 4, none⟩) hlt3 (by simp)).trans y4
  have z5 := (hc4.cell (p := ⟨w.heap.size, 5, none⟩) hlt3 (by simp)).trans y5
  have z6 := (hc4.cell (p := ⟨w.heap.size, 6, none⟩) hlt3 (by simp)).trans y6
  have HC4 := Lib.hid hc4'
  clear hc4 hc4' y0 y1 y2 y3 y4 y5 y6
  cases h3 : (numL tableK.data.toList nm.data.toList).2
  case true =>
    have hcall := FI.out w4 HC4.out
    have HCALL4 := Lib.hid hcall
    clear hcall
    go_wp2_with fail
    refine HCALL4.out.mono ?_
    rintro e w5 ⟨v, rfl, hL, _, hc5⟩
    have hhas := has_i64 _ v (numL tableK.data.toList nm.data.toList).1 w5 hL (by rw [List.length_mergeSort]; exact HLEN.out)
    have HHAS := Lib.hid hhas
    have HC5 := Lib.hid (HC4.out.then hc5)
    clear hhas hc5 hL
    go_wp2_with fail
    refine HHAS.out.mono ?_
    rintro e w6 ⟨rfl, rfl⟩
    go_wp2_with fail
    go_ret
    refine ⟨?_, HC5.out⟩
    unfold needM
    rw [h1, h2, h3]
    rfl
  case false =>
    go_wp2_with fail
    go_ret
    refine ⟨?_, HC4.out⟩
    unfold needM
    rw [h1, h2, h3, show nextB.toList = [99, 117, 114, 114, 101, 110, 116, 45, 110, 101, 120, 116] by rw [ByteArray.toList_eq]; rfl]
    rfl
/-- What Clean makes of a disk. -/
def cleanL (need : ByteArray → Bool) : List ByteArray → DiskV → Bool → Int × DiskV
  | [], D, b => if b then syncDirD D else (0, D)
  | nm :: r, D, b => if need nm then cleanL need r D b else if (removeD D nm).1 ≠ 0 then removeD D nm else cleanL need r (removeD D nm).2 true
def cleanM (need : ByteArray → Bool) (D : DiskV) : Int × DiskV := cleanL need (namesL D) D false
theorem VerAt.kept {Y : Nat → Prop} {w w' : World} {L : Nat → Value} {f : Nat → List MetaV} (h : VerAt w L f) (hk : Kept Y w w') (hY : ∀ i, i < 4 → ∀ k, (L i).ownBlock = some k → Y k) : VerAt w' L f := fun i hi => (h i hi).kept hk (hY i hi)
theorem verBox {w : World} {g : Nat} {L : Nat → Value} {log next seq : Int} (h : Blk w g 62 #[L 0, L 1, L 2, L 3, .int .i64 log, .int .i64 next, .int .i64 seq]) :
    w.cell? ⟨g, 0, none⟩ = some (L 0) ∧ w.cell? ⟨g, 1, none⟩ = some (L 1) ∧ w.cell? ⟨g, 2, none⟩ = some (L 2) ∧ w.cell? ⟨g, 3, none⟩ = some (L 3) ∧ w.cell? ⟨g, 4, none⟩ = some (.int .i64 log) ∧ w.cell? ⟨g, 5, none⟩ = some (.int .i64 next) ∧ w.cell? ⟨g, 6, none⟩ = some (.int .i64 seq) :=
  ⟨h.cell 0, h.cell 1, h.cell 2, h.cell 3, h.cell 4, h.cell 5, h.cell 6⟩
set_option maxRecDepth 100000 in
set_option maxHeartbeats 4000000 in
theorem ma_clean (n : Int) (L : Nat → Value) (f : Nat → List MetaV) (log next seq : Int) (d : Nat) (D : DiskV) (m : Nat) (hm : m ≤ 10000) (hD : PSm m D) (Y : Nat → Prop) (w0 w : World) (h : DY w0 w d D Y) (ht : Tab w0) (he : ErrOk w0)
    (hv : VerAt w L f) (hLY : ∀ i, i < 4 → ∀ k, (L i).ownBlock = some k → Y k) (hn : ∀ i, i < 4 → (f i).length ≤ 100000000) :
    Calls Tryz.prog 66 #[.pointer (some ⟨d, 0, none⟩), .int .i64 n, .agg #[L 0, L 1, L 2, L 3, .int .i64 log, .int .i64 next, .int .i64 seq]] w (YPost w0 w d Y (cleanM (fun nm => needM nm n log (filesOf (flatF f))) D)) := by
  obtain ⟨need, hneed⟩ : ∃ need : ByteArray → Bool, (fun nm => needM nm n log (filesOf (flatF f))) = need := ⟨_, rfl⟩
  have hneed' := fun nm => congrFun hneed nm
  rw [hneed]
  obtain ⟨w1, hw1⟩ : ∃ w1, w1 = w.alloc (.cells #[L 0, L 1, L 2, L 3, .int .i64 log, .int .i64 next, .int .i64 seq] 62) := ⟨_, rfl⟩
  have hc1 : Chg (fun _ => False) w w1 := by rw [hw1]; exact (Chg.refl _ _).alloc _
  have hb1 : Blk w1 w.heap.size 62 #[L 0, L 1, L 2, L 3, .int .i64 log, .int .i64 next, .int .i64 seq] := by rw [hw1]; exact Blk.new w _ _
  have hnl := hD.n
  have hsz : ∀ x ∈ namesL D, x.size ≤ 64 := fun x hx => by
    obtain ⟨p, hp, rfl⟩ := List.mem_map.1 hx
    exact h.ok.names.sz p hp
  have hll : (namesL D).length = D.names.length := by simp [namesL]
  have hlist := y_list w0 d D Y (by omega) hD.an w1 (h.same hc1)
  have HL := Lib.hid hlist
  have HNEED := Lib.hid hneed'
  have HC1 := Lib.hid hc1
  have HW1 := Lib.hid hw1
  have HB1 := Lib.hid hb1
  have HH := Lib.hid h
  have HT := Lib.hid ht
  have HE := Lib.hid he
  have HV := Lib.hid hv
  have HLY := Lib.hid hLY
  have HN := Lib.hid hn
  have HSZ := Lib.hid hsz
  have HD0 := Lib.hid hD
  clear hlist hneed hneed' hc1 hw1 hb1 h ht he hv hLY hn hsz hD
  go_enter Tryz.func66, Tryz.ntmps66
  go_upto_region 2 with fail
  rw [← HW1.out]
  go_wp2_with fail
  refine HL.out.mono ?_
  rintro e w2 ⟨v, rfl, hL, hLb, hc2⟩
  have hlb : w.heap.size < w2.heap.size := Nat.lt_of_lt_of_le HB1.out.lt hc2.size
  obtain ⟨Y', hY'⟩ : ∃ Y' : Nat → Prop, Y' = fun k => Y k ∨ (w.heap.size ≤ k ∧ k < w2.heap.size) := ⟨_, rfl⟩
  have hd2 : DY w0 w2 d D Y' := by rw [hY']; exact HH.out.grow (HC1.out.then hc2)
  have hbox : Blk w2 w.heap.size 62 #[L 0, L 1, L 2, L 3, .int .i64 log, .int .i64 next, .int .i64 seq] := HB1.out.chg hc2 (by simp)
  have hyb : Y' w.heap.size := by rw [hY']; exact .inr ⟨Nat.le_refl _, hlb⟩
  have hyv : ∀ k, v.ownBlock = some k → Y' k := fun k hk => by
    rw [hY']
    exact .inr ⟨Nat.le_trans HC1.out.size (hLb k hk), hL.lt hk⟩
  have hsub : ∀ k, Y k → Y' k := fun k hk => by rw [hY']; exact .inl hk
  have hv2 : VerAt w2 L f := HV.out.same (HC1.out.then hc2)
  have hcf := HC1.out.then hc2
  obtain ⟨a, cap, rfl, hlc, hlm, _⟩ := hL.form strOk
  have HL2 := Lib.hid hL
  have HD2 := Lib.hid hd2
  have HBOX := Lib.hid hbox
  have HYB := Lib.hid hyb
  have HYV := Lib.hid hyv
  have HSUB := Lib.hid hsub
  have HV2 := Lib.hid hv2
  have HCF := Lib.hid hcf
  clear hL hLb hc2 hlb hY' hd2 hbox hyb hyv hsub hv2 hcf
  go_wp2_with fail
  go_loopw [7, 14] (fun c i wr => ∃ (k j : Nat) (D' : DiskV), c = .int .i64 (j : Int) ∧ i = .int .i64 (k : Int) ∧ k ≤ (namesL D).length ∧ j ≤ k ∧ cleanM need D = cleanL need ((namesL D).drop k) D' (decide (0 < j)) ∧ DY w0 wr d D' Y' ∧ Kept Y' w2 wr ∧ PSm (m + k) D') (fun _ i _ => (namesL D).length - (intOf i).toNat)
  case atStart => exact ⟨0, 0, D, rfl, rfl, Nat.zero_le _, Nat.le_refl _, rfl, HD2.out, Kept.refl _ _, HD0.out⟩
  case round =>
    obtain ⟨k, j, D', rfl, rfl, hk, hj, hcl, hd, hkp, hps⟩ := hrel
    by_cases hlt : k < (namesL D).length
    · obtain ⟨x, hx, hA, hB, _, hdr⟩ := split_at hlt
      obtain ⟨a', cap', hva, _, _, hr⟩ := (HL2.out.kept hkp HYV.out).form strOk
      injection hva with e1 e2 e3
      subst e1 e3
      obtain ⟨b, rfl, hb, _, hcell⟩ := hr _ _ _ hA
      have x0 := hcell 0 _ rfl
      rw [hB] at x0
      simp only [strC, Nat.mul_one, Nat.add_zero] at x0
      obtain ⟨z0, z1, z2, z3, z4, z5, z6⟩ := verBox (HBOX.out.kept hkp HYB.out)
      have hq : decide ((k : Int) < ((namesL D).length : Int)) = true := by simp; omega
      have hxs := HSZ.out x (List.mem_of_getElem? hx)
      have hnd := ma_needed x n L f log next seq wr hxs (HT.out.chg hd.frame) (HE.out.chg hd.frame) (HV2.out.kept hkp fun i hi k hk => HSUB.out k (HLY.out i hi k hk)) HN.out
      rw [HNEED.out x] at hnd
      have HND := Lib.hid hnd
      have HCL := Lib.hid hcl
      have HD3 := Lib.hid hd
      have HK := Lib.hid hkp
      have HPS := Lib.hid hps
      have HDR := Lib.hid hdr
      clear hnd hcl hd hkp hps hdr hA hB hr hcell hx
      go_wp2_with fail
      refine HND.out.mono ?_
      rintro e w3 ⟨rfl, hc3⟩
      have hd3 := HD3.out.same hc3
      have hk3 := HK.out.then (Kept.of_chg hc3)
      have hi := IntWalk.i64_in ((k : Int) + 1) (by omega)
      have hi2 := IntWalk.i64_in ((j : Int) + 1) (by omega)
      cases hne : need x
      case true =>
        have HD4 := Lib.hid hd3
        have HK4 := Lib.hid hk3
        clear hd3 hk3 hc3
        go_wp2_with fail
        refine ⟨⟨k + 1, j, D', rfl, by simp [hi], by omega, by omega, ?_, HD4.out, HK4.out, by rw [← Nat.add_assoc]; exact HPS.out.up⟩, by simp [intOf, hi]; omega⟩
        rw [HCL.out, HDR.out]
        show (if need x then _ else _) = _
        rw [hne]
        rfl
      case false =>
        have hrm := y_remove w0 d D' Y' x (by unfold maxLen; omega) (HPS.out.ds (by omega)) w3 hd3
        have HRM := Lib.hid hrm
        have HK4 := Lib.hid hk3
        clear hrm hd3 hk3 hc3
        go_wp2_with fail
        refine HRM.out.mono ?_
        rintro e w4 ⟨rfl, hd4, hk4⟩
        have hk5 := HK4.out.then hk4
        have hst : cleanM need D = if (removeD D' x).1 ≠ 0 then removeD D' x else cleanL need ((namesL D).drop (k + 1)) (removeD D' x).2 true := by
          rw [HCL.out, HDR.out]
          show (if need x then _ else _) = _
          rw [hne]
          rfl
        have HST := Lib.hid hst
        have HD5 := Lib.hid hd4
        have HK5 := Lib.hid hk5
        clear hd4 hk4 hk5 hst
        by_cases h0 : (removeD D' x).1 = 0
        · have hn1 : ((removeD D' x).1 != 0) = false := by simp [h0]
          have hn2 : ((removeD D' x).1 == 0) = true := by simp [h0]
          go_wp2_with fail
          refine ⟨⟨k + 1, j + 1, (removeD D' x).2, by simp [hi2], by simp [hi], by omega, by omega, ?_, HD5.out, HK5.out, by rw [← Nat.add_assoc]; exact p_bsm_remove x HPS.out⟩, by simp [intOf, hi]; omega⟩
          rw [HST.out, if_neg (by simp [h0])]
          rw [show decide (0 < j + 1) = true by simp]
        · have hn1 : ((removeD D' x).1 != 0) = true := by simp [h0]
          have hn2 : ((removeD D' x).1 == 0) = false := by simp [h0]
          go_wp2_with fail
          go_ret
          have hst := HST.out
          rw [if_pos h0] at hst
          rw [hst]
          exact ⟨rfl, HD5.out.mono HSUB.out, (Kept.of_chg HCF.out).then (HK5.out.mono HSUB.out)⟩
    · have hke : k = (namesL D).length := by omega
      subst hke
      have hq : decide (((namesL D).length : Int) < ((namesL D).length : Int)) = false := by simp
      rw [List.drop_length] at hcl
      by_cases hj0 : j = 0
      · subst hj0
        have HCL := Lib.hid hcl
        have HD3 := Lib.hid hd
        have HK := Lib.hid hkp
        clear hcl hd hkp hps
        go_wp2_with fail
        go_ret
        rw [HCL.out]
        exact ⟨rfl, HD3.out.mono HSUB.out, (Kept.of_chg HCF.out).then (HK.out.mono HSUB.out)⟩
      · have hq2 : ((j : Int) == 0) = false := by simp; omega
        have hsd := y_syncdir w0 d D' Y' (hps.ds (by omega)) wr hd
        have HSD := Lib.hid hsd
        have HCL := Lib.hid hcl
        have HK := Lib.hid hkp
        clear hcl hd hkp hps hsd
        go_wp2_with fail
        refine HSD.out.mono ?_
        rintro e w4 ⟨rfl, hd4, hk4⟩
        have HD4 := Lib.hid hd4
        have HK4 := Lib.hid hk4
        clear hd4 hk4
        go_wp2_with fail
        go_ret
        have hcl := HCL.out
        rw [show decide (0 < j) = true by simp; omega] at hcl
        rw [hcl]
        exact ⟨rfl, HD4.out.mono HSUB.out, (Kept.of_chg HCF.out).then ((HK.out.then HK4.out).mono HSUB.out)⟩
end Go.Proofs.YtljabmkmngbhkaaGreatDoor
