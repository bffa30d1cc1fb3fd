/-
  The program's manifest: Add.
  The program's manifest: counts.
  The program's manifest: Start.
  Append of several elements that lie in a new slice: laws over every element type. Plain laws over the program; no condition.
-/
import Derived.Test.YtahahginmgidjaaGreatDoorZManF
import Derived.Deep.RegionHeld3
import Derived.Test.YtahahginmgidjaaGreatDoorZMg08
namespace Go.Proofs.YtahahginmgidjaaGreatDoor
open Go.RowKit
set_option linter.unusedVariables false
set_option linter.unusedSimpArgs false

def addM (D : DiskV) (n : Int) (E : EditV) : Int × DiskV :=
  if (framedV n [E]).2.2 ≠ 0 then ((framedV n [E]).2.2, D) else writeM D (framedV n [E]).1 (framedV n [E]).2.1
theorem fileB_size (n : Int) : (fileB kindB n).size ≤ 64 := by
  by_cases h : okKind kindB.data.toList = true ∧ 0 ≤ n ∧ n ≤ 99999999
  · rw [fileB_yes h]
    have : (⟨(digK 8 n.toNat).toArray⟩ : ByteArray).size = 8 := by simp [ByteArray.size, digK_len]
    simp only [ByteArray.size_append]
    rw [this]
    decide
  · rw [fileB_no h]
    decide
theorem framedV_small (n : Int) (l : List EditV) (hl : l.length ≤ 1000000) : (framedV n l).1.size ≤ maxLen ∧ (framedV n l).2.1.size ≤ 140737488355328 := by
  have h1 := fileB_size n
  unfold framedV
  split
  · exact ⟨by decide, by decide⟩
  split
  · rename_i h
    have := framesB_size l h
    have : l.length * 65543 ≤ 1000000 * 65543 := Nat.mul_le_mul_right _ hl
    exact ⟨by show (fileB kindB n).size ≤ maxLen; unfold maxLen; omega, by show (framesB l).size ≤ _; omega⟩
  · exact ⟨by decide, by decide⟩
set_option maxRecDepth 100000 in
set_option maxHeartbeats 4000000 in
theorem ma_add (n : Int) (h0 : -9223372036854775808 ≤ n) (h1 : n ≤ 9223372036854775807) (x : EdX) (d : Nat) (D : DiskV) (m : Nat) (hm : m ≤ 9000) (hD : PSm m D) (Y : Nat → Prop) (w0 w : World) (h : DY w0 w d D Y) (ht : Tab w0)
    (hE : EdsIn w [x]) :
    Calls Tryz.prog 15 #[.pointer (some ⟨d, 0, none⟩), .int .i64 n, .agg #[.slice x.aa x.an x.ac, .slice x.da x.dn x.dc, .int .i64 x.E.log, .int .i64 x.E.next, .int .i64 x.E.seq]] w (YPost w0 w d Y (addM D n x.E)) := by
  obtain ⟨w1, hw1⟩ : ∃ w1, w1 = w.alloc (.cells #[.slice x.aa x.an x.ac, .slice x.da x.dn x.dc, .int .i64 x.E.log, .int .i64 x.E.next, .int .i64 x.E.seq] 57) := ⟨_, rfl⟩
  have hc1 : Chg (fun _ => False) w w1 := by rw [hw1]; exact (Chg.refl _ _).alloc _
  have hb1 : Blk w1 w.heap.size 57 #[.slice x.aa x.an x.ac, .slice x.da x.dn x.dc, .int .i64 x.E.log, .int .i64 x.E.next, .int .i64 x.E.seq] := by rw [hw1]; exact Blk.new w _ _
  have y0 := hb1.cell 0
  have y1 := hb1.cell 1
  have y2 := hb1.cell 2
  have y3 := hb1.cell 3
  have y4 := hb1.cell 4
  simp at y0 y1 y2 y3 y4
  obtain ⟨w2, hw2⟩ : ∃ w2, w2 = w1.alloc (.cells #[.slice x.aa x.an x.ac, .slice x.da x.dn x.dc, .int .i64 x.E.log, .int .i64 x.E.next, .int .i64 x.E.seq] 57) := ⟨_, rfl⟩
  have hc2 : Chg (fun _ => False) w1 w2 := by rw [hw2]; exact (Chg.refl _ _).alloc _
  have hb2 : Blk w2 w1.heap.size 57 #[.slice x.aa x.an x.ac, .slice x.da x.dn x.dc, .int .i64 x.E.log, .int .i64 x.E.next, .int .i64 x.E.seq] := by rw [hw2]; exact Blk.new w1 _ _
  have hL : Lst edC w2 (.slice (some ⟨w1.heap.size, 0, none⟩) 1 1) [x] := Lst.of_block edOk (l := [x]) hb2 rfl (by show 1 ≤ 1000000; omega)
  have hcc := hc1.then hc2
  have hfr := ma_framed n h0 h1 [x] (.slice (some ⟨w1.heap.size, 0, none⟩) 1 1) w2 ((ht.chg h.frame).chg hcc) hL (hE.same hcc) (by show 1 ≤ 1000000; omega)
  obtain ⟨z1, z2⟩ := framedV_small n [x.E] (by show 1 ≤ 1000000; omega)
  obtain ⟨r, hr⟩ : ∃ r, framedV n [x.E] = r := ⟨_, rfl⟩
  have hadd : addM D n x.E = if r.2.2 ≠ 0 then (r.2.2, D) else writeM D r.1 r.2.1 := by unfold addM; rw [hr]
  rw [hr] at z1 z2
  rw [show [x].map (·.E) = [x.E] from rfl, hr] at hfr
  have HFR := Lib.hid hfr
  have HW1 := Lib.hid hw1
  have HW2 := Lib.hid hw2
  have HCC := Lib.hid hcc
  have HADD := Lib.hid hadd
  have HH := Lib.hid h
  have HD := Lib.hid hD
  clear hfr hw1 hw2 hc1 hc2 hb1 hb2 hL hcc hadd hr h hD ht hE
  obtain ⟨nm, s, bad⟩ := r
  simp only at HADD HFR z1 z2
  go_enter Tryz.func15, Tryz.ntmps15
  go_upto_region 1 with fail
  rw [← HW1.out]
  go_wp2_with (rw [← HW2.out])
  refine HFR.out.mono ?_
  rintro e w3 ⟨rfl, hc3⟩
  have hd3 := HH.out.same (HCC.out.then hc3)
  have hcw := HCC.out.then hc3
  by_cases hbad : bad = 0
  · subst hbad
    have hwr := ma_write nm s d w3
    have HWR := Lib.hid hwr
    have HD3 := Lib.hid hd3
    have HCW := Lib.hid hcw
    clear hwr hd3 hcw hc3
    go_wp2_with fail
    refine HWR.out.mono ?_
    rintro e w4 ⟨bd, bn, bs, rfl, g1, g2, g3, l1, l2, l3, hc4⟩
    have t1 := g1.lt
    have t2 := g2.lt
    have t3 := g3.lt
    have hcf := ma_write_f nm s z1 z2 d bd bn bs _ w0 m D HD.out (by omega) w4 (HD3.out.grow hc4) g1 g2 g3 (.inr ⟨l1, t1⟩) (.inr ⟨l2, t2⟩) (.inr ⟨l3, t3⟩)
    have hen := enters 116 #[.pointer (some ⟨bd, 0, none⟩), .pointer (some ⟨bn, 0, none⟩), .pointer (some ⟨bs, 0, none⟩)] (by kernel_rfl)
    have HCF := Lib.hid hcf
    have HC4 := Lib.hid hc4
    clear hcf hc4 g1 g2 g3 l1 l2 l3 t1 t2 t3
    go_wp2_with fail
    refine HCF.out.mono ?_
    rintro e w5 hq
    have hq2 := y_back (fun k hk => .inl hk) (Kept.of_chg (HCW.out.then HC4.out)) hq
    clear hq
    have hadd := HADD.out
    rw [if_neg (by simp)] at hadd
    rw [← hadd] at hq2
    obtain ⟨rfl, hq3⟩ := hq2
    have HQ := Lib.hid hq3
    clear hq3 hadd
    go_wp2_with fail
    go_ret
    exact ⟨rfl, HQ.out⟩
  · have hb1 : (bad != 0) = true := by simp [hbad]
    have hb2 : (bad == 0) = false := by simp [hbad]
    have HD3 := Lib.hid hd3
    have HCW := Lib.hid hcw
    clear hd3 hcw hc3
    go_wp2_with fail
    go_ret
    rw [HADD.out, if_pos hbad]
    exact ⟨rfl, HD3.out, Kept.of_chg HCW.out⟩
end Go.Proofs.YtahahginmgidjaaGreatDoor
namespace Go.Proofs.YtahahginmgidjaaGreatDoor
open Go.RowKit
set_option linter.unusedVariables false
set_option linter.unusedSimpArgs false

def bodyB (l : List UInt8) : ByteArray := ⟨(fraBody l).toArray⟩
/-- What counts tells of the bytes of the file 'current'. -/
def countV (s : ByteArray) : ByteArray × Int × Int :=
  if getF s.data.toList ≠ 0 ∨ 8 + fraN s.data.toList ≠ s.size then (⟨#[]⟩, 0, 6)
  else if (numL kindB.data.toList (fraBody s.data.toList)).2 then (bodyB s.data.toList, (numL kindB.data.toList (fraBody s.data.toList)).1, 0) else (⟨#[]⟩, 0, 4)
def countsV (D : DiskV) : ByteArray × Int × Int := if (readD D curB).2 ≠ 0 then (⟨#[]⟩, 0, (readD D curB).2) else countV (readD D curB).1
theorem readD_size {D : DiskV} (h : DiskOk D) (n : ByteArray) : (readD D n).1.size ≤ 1048576 := by
  unfold readD
  split
  · decide
  split
  · rename_i i hi
    show (dataOf D i).size ≤ _
    unfold dataOf
    split
    · rename_i f hf
      exact (h.file f (List.mem_of_getElem? hf)).2
    · decide
  · decide
set_option maxRecDepth 100000 in
set_option maxHeartbeats 4000000 in
theorem ma_counts (d : Nat) (D : DiskV) (Y : Nat → Prop) (w0 w : World) (h : DY w0 w d D Y) (ht : Tab w0) (he : ErrOk w0) :
    Calls Tryz.prog 55 #[.pointer (some ⟨d, 0, none⟩)] w fun e w' => e = .returned (.tuple #[.string (countsV D).1, .int .i64 (countsV D).2.1, .int .i64 (countsV D).2.2]) ∧ Chg (fun _ => False) w w' := by
  have hrd := y_read w0 d D Y curB (by decide) w h
  have hsz := readD_size h.ok curB
  have hcv : countsV D = if (readD D curB).2 ≠ 0 then (⟨#[]⟩, 0, (readD D curB).2) else countV (readD D curB).1 := rfl
  obtain ⟨⟨s, er⟩, hr⟩ : ∃ r, readD D curB = r := ⟨_, rfl⟩
  rw [hr] at hrd hsz hcv
  simp only at hrd hsz hcv
  obtain ⟨cv, hcn⟩ : ∃ cv, countsV D = cv := ⟨_, rfl⟩
  rw [hcn] at hcv ⊢
  clear hcn
  have htw := ht.chg h.frame
  have hew := he.chg h.frame
  have HRD := Lib.hid hrd
  have HCV := Lib.hid hcv
  have HT := Lib.hid htw
  have HE := Lib.hid hew
  clear hrd hcv hr htw hew h ht he
  go_enter Tryz.func55, Tryz.ntmps55
  go_wp2_with fail
  refine HRD.out.mono ?_
  rintro e w1 ⟨rfl, hc1⟩
  by_cases her : er = 0
  · subst her
    have hcv := HCV.out
    rw [if_neg (by simp)] at hcv
    have HCV2 := Lib.hid hcv
    have hg := fra_get s 0 w1 (by omega) (Nat.zero_le _)
    have hg0 : (((0 : Nat) : Int)) = 0 := rfl
    rw [hg0] at hg
    have HG := Lib.hid hg
    have HC1 := Lib.hid hc1
    clear hcv hg hc1 HCV
    go_wp2_with fail
    refine HG.out.mono ?_
    rintro e w2 hq
    rcases hq with ⟨b, hz, hb, rfl, hc2⟩ | ⟨hnz, rfl, hc2⟩
    · rw [List.drop_zero] at hz hb
      obtain ⟨k, hk⟩ : ∃ k, 0 + (8 + fraN (s.data.toList.drop 0)) = k := ⟨_, rfl⟩
      rw [hk]
      rw [List.drop_zero, Nat.zero_add] at hk
      have HC2 := Lib.hid (HC1.out.then hc2)
      have hbs : b.size ≤ 1048576 := by
        have := (getF_zero hz).2.2.2
        have h2 := (getF_zero hz).2.1
        rw [← hb, Array.length_toList] at this
        rw [Array.length_toList] at h2
        have e1 : b.size = b.data.size := rfl
        have e2 : s.size = s.data.size := rfl
        omega
      by_cases hks : k = s.size
      · have hk1 : ((k : Int) != (s.size : Int)) = false := by simp [hks]
        have hk2 : ((k : Int) == (s.size : Int)) = true := by simp [hks]
        have hnum := wal_number kindB b (by decide) (by omega) w2 (HT.out.chg HC2.out) (HE.out.chg HC2.out)
        have hcv := HCV2.out
        unfold countV at hcv
        rw [if_neg (by rw [hk]; simp [hz, hks])] at hcv
        have hbb : bodyB s.data.toList = b := ByteArray.ext (Array.ext' (by rw [hb]; rfl))
        rw [hbb] at hcv
        obtain ⟨⟨x, ok⟩, hx⟩ : ∃ r, numL kindB.data.toList (fraBody s.data.toList) = r := ⟨_, rfl⟩
        unfold NumberPost at hnum
        rw [hb, hx] at hnum
        rw [hx] at hcv
        simp only at hnum hcv
        have HNUM := Lib.hid hnum
        have HCV3 := Lib.hid hcv
        clear hnum hcv hbb hx hz hb hk hc2 HCV2 hks
        go_wp2_with fail
        refine HNUM.out.mono ?_
        rintro e w3 ⟨rfl, hc3⟩
        have HC3 := Lib.hid (HC2.out.then hc3)
        have hcv := HCV3.out
        clear hc3
        cases ok
        case true =>
          rw [if_pos rfl] at hcv
          have HCVZ := Lib.hid hcv
          clear hcv
          go_wp2_with fail
          exact bodyPost_ret (v := .tuple #[.string b, .int .i64 x, .int .i64 0]) (by simp [results, Tryz.results55, go_sem]) rfl ⟨by rw [HCVZ.out], HC3.out⟩
        case false =>
          rw [if_neg (by simp)] at hcv
          have HCVZ := Lib.hid hcv
          clear hcv
          go_wp2_with fail
          exact bodyPost_ret (v := .tuple #[.string ⟨#[]⟩, .int .i64 0, .int .i64 4]) (by simp [results, Tryz.results55, go_sem]) rfl ⟨by rw [HCVZ.out], HC3.out⟩
      · have hk1 : ((k : Int) != (s.size : Int)) = true := by simp; omega
        have hk2 : ((k : Int) == (s.size : Int)) = false := by simp; omega
        have hcv := HCV2.out
        unfold countV at hcv
        rw [if_pos (.inr (by rw [hk]; exact hks))] at hcv
        have HCVZ := Lib.hid hcv
        clear hcv hz hb hk hc2 HCV2 hks
        go_wp2_with fail
        exact bodyPost_ret (v := .tuple #[.string ⟨#[]⟩, .int .i64 0, .int .i64 6]) (by simp [results, Tryz.results55, go_sem]) rfl ⟨by rw [HCVZ.out], HC2.out⟩
    · rw [List.drop_zero] at hnz ⊢
      obtain ⟨g, hg⟩ : ∃ g, getF s.data.toList = g := ⟨_, rfl⟩
      rw [hg] at hnz ⊢
      have HC2 := Lib.hid (HC1.out.then hc2)
      have hg1 : ((g : Int) != 0) = true := by simp; omega
      have hg2 : ((g : Int) == 0) = false := by simp; omega
      have hcv := HCV2.out
      unfold countV at hcv
      rw [if_pos (.inl (by rw [hg]; exact hnz))] at hcv
      have HCVZ := Lib.hid hcv
      clear hcv hg hc2 HCV2
      go_wp2_with fail
      exact bodyPost_ret (v := .tuple #[.string ⟨#[]⟩, .int .i64 0, .int .i64 6]) (by simp [results, Tryz.results55, go_sem]) rfl ⟨by rw [HCVZ.out], HC2.out⟩
  · have h1 : (er != 0) = true := by simp [her]
    have h2 : (er == 0) = false := by simp [her]
    have hcv := HCV.out
    rw [if_pos her] at hcv
    have HCVZ := Lib.hid hcv
    have HC1 := Lib.hid hc1
    clear hcv hc1
    go_wp2_with fail
    exact bodyPost_ret (v := .tuple #[.string ⟨#[]⟩, .int .i64 0, .int .i64 er]) (by simp [results, Tryz.results55, go_sem]) rfl ⟨by rw [HCVZ.out], HC1.out⟩
end Go.Proofs.YtahahginmgidjaaGreatDoor
namespace Go.Proofs.YtahahginmgidjaaGreatDoor
open Go.RowKit
set_option linter.unusedVariables false
set_option linter.unusedSimpArgs false

theorem kg_drew {w : World} {p : Addr} {v : Value} (h : w.cell? p = some v) : w.drew.cell? p = some v := h
theorem kg_chg {w w' : World} {p : Addr} {v : Value} (hc : Chg (fun _ => False) w w') (h : w.cell? p = some v) : w'.cell? p = some v := (hc.cell (World.block_lt_of_cell? w p h) (by simp)).trans h
theorem kg_alloc {w : World} {p : Addr} {v : Value} (o : Obj) (h : w.cell? p = some v) : (w.alloc o).cell? p = some v := kg_chg ((Chg.refl _ _).alloc o) h
def toldB (nm : ByteArray) : ByteArray := ⟨(fraB nm.data.toList).toArray⟩
def startM (D : DiskV) (n : Int) (S : VerV) : Int × DiskV :=
  if (framedV n (partsV S)).2.2 ≠ 0 then ((framedV n (partsV S)).2.2, D) else
  andV (createM D (framedV n (partsV S)).1 (framedV n (partsV S)).2.1) fun D1 => andV (syncDirD D1) fun D2 =>
  andV (if hasTx (namesL D) nextB then removeD D2 nextB else (0, D2)) fun D3 =>
  andV (createM D3 nextB (toldB (framedV n (partsV S)).1)) fun D4 => andV (renameD D4 nextB curB) syncDirD
def rmC (gd : Nat) : CallV := ((40, #[], #[.pointer (some ⟨gd, 0, none⟩)]), fun D => removeD D nextB)
def rnC (gd : Nat) : CallV := ((42, #[], #[.pointer (some ⟨gd, 0, none⟩)]), fun D => renameD D nextB curB)
theorem y_rename (w0 : World) (d : Nat) (D : DiskV) (Y : Nat → Prop) (n b : ByteArray) (hn : n.size ≤ maxLen) (hb : b.size ≤ maxLen) (hD : DSmall D) (w : World) (h : DY w0 w d D Y) :
    Calls Tryz.prog 43 #[.pointer (some ⟨d, 0, none⟩), .string n, .string b] w (YPost w0 w d Y (renameD D n b)) := by
  obtain ⟨ids, M, ha, hM, hY, hc⟩ := h
  exact (disk_rename d ids D M n b hn hb hD.q w ha).mono fun e w' ⟨he, hp⟩ => ⟨he, DY.post hM hY hc hp⟩
section
variable (d gd : Nat) (D : DiskV) (Y : Nat → Prop) (w0 w : World) (h : DY w0 w d D Y) (hb : Blk w gd 24 #[.pointer (some ⟨d, 0, none⟩)]) (hD : DSmall D)
include h hb hD
set_option maxRecDepth 100000 in
set_option maxHeartbeats 2000000 in
theorem ma_start_rm : Calls Tryz.prog 40 #[.pointer (some ⟨gd, 0, none⟩)] w (YPost w0 w d Y (removeD D nextB)) := by
  have hc := y_remove w0 d D Y nextB (by decide) hD w h
  have x0 := hb.cell 0
  simp at x0
  have HC := Lib.hid hc
  clear hc h hb hD
  go_enter Tryz.func40, Tryz.ntmps40
  go_wp2_with fail
  refine HC.out.mono ?_
  rintro e w1 ⟨rfl, hd⟩
  have HD := Lib.hid hd
  clear hd
  go_wp2_with fail
  go_ret
  exact ⟨rfl, HD.out⟩
set_option maxRecDepth 100000 in
set_option maxHeartbeats 2000000 in
theorem ma_start_rn : Calls Tryz.prog 42 #[.pointer (some ⟨gd, 0, none⟩)] w (YPost w0 w d Y (renameD D nextB curB)) := by
  have hc := y_rename w0 d D Y nextB curB (by decide) (by decide) hD w h
  have x0 := hb.cell 0
  simp at x0
  have HC := Lib.hid hc
  clear hc h hb hD
  go_enter Tryz.func42, Tryz.ntmps42
  go_wp2_with fail
  refine HC.out.mono ?_
  rintro e w1 ⟨rfl, hd⟩
  have HD := Lib.hid hd
  clear hd
  go_wp2_with fail
  go_ret
  exact ⟨rfl, HD.out⟩
end
end Go.Proofs.YtahahginmgidjaaGreatDoor
namespace Go.Proofs.YtahahginmgidjaaGreatDoor
open Go.RowKit
set_option linter.unusedVariables false
set_option linter.unusedSimpArgs false

section
variable {α : Type} {C : Codec α} {a : Act} {Q : Exit → Act → World → Prop} {K : Act → World → Prop} {ops : Array Oper} {o : Oper} {rest : List Oper} {E : Prop}
theorem run_lst_apps (hC : C.Ok) (W : World) (ty : TypeId) (L M : List α) (v : Value) (hv : Lst C W v L) (b : Nat) (hb : Blk W b C.e (M.flatMap C.g).toArray) (hL : L.length ≤ 1000000000) (hM : M.length ≤ 1000) :
    ∃ v' w', (Builtin.append_ #[C.s, C.s] ty #[v, .slice (some ⟨b, 0, none⟩) M.length M.length]).run Tryz.prog W = .ok v' w' ∧ Lst C w' v' (L ++ M) ∧ Chg (fun k => v.ownBlock = some k) W w' ∧ (∀ k, v'.ownBlock = some k → v.ownBlock = some k ∨ W.heap.size ≤ k) := by
  obtain ⟨i0, hi, hz0, hz1, hz2⟩ := info_parts hC.info
  have hs := hC.small
  obtain ⟨v', w', hr, hown, hg, hk⟩ := run_own_append (P := Tryz.prog) W C.s C.s ty C.e i0 C.zero C.k C.bytes hC.und hi hz0 hz1 hz2 hC.zsize v L.length (L.flatMap C.g) hv (.slice (some ⟨b, 0, none⟩) M.length M.length) M.length (M.flatMap C.g)
    (Src.ofSlice W hC.und ⟨b, 0, none⟩ M.length M.length _ (flat_len hC.len M) (World.news_of_block (cs := (M.flatMap C.g).toArray) (t := C.e) (fr := (0, 0)) hb) (fun u hu => by
      obtain ⟨x, _, hx⟩ := List.mem_flatMap.1 hu
      exact hC.one x u hx)) (by unfold maxLen; omega) (by
      have : (L.length + M.length) * C.bytes ≤ 1000001000 * 128 := Nat.mul_le_mul (by omega) hs
      omega)
  refine ⟨v', w', hr, ?_, chg_grown hg, fun k hk' => ?_⟩
  · unfold Lst
    rw [List.flatMap_append, List.length_append]
    exact hown
  · rcases hk with e | e
    · exact .inl (by rw [← e]; exact hk')
    · rw [e] at hk'; injection hk' with hk'; right; omega
theorem wp_lst_apps (hC : C.Ok) (W : World) (s x : Operand) (ho : o.op = .call { callee := .builtin .append, args := #[s, x], argTypes := #[C.s, C.s] }) (L M : List α) (v : Value) (hs : a.eval s = v) (hv : Lst C W v L)
    (b : Nat) (hx : a.eval x = .slice (some ⟨b, 0, none⟩) M.length M.length) (hL : L.length ≤ 1000000000) (hM : M.length ≤ 1000) (hb : Blk W b C.e (M.flatMap C.g).toArray)
    (h : ∀ v' w', Lst C w' v' (L ++ M) → Chg (fun k => v.ownBlock = some k) W w' → (∀ k, v'.ownBlock = some k → v.ownBlock = some k ∨ W.heap.size ≤ k) → K (a.put o.dst v') w') : Oper.wp Tryz.prog o a W K Q := by
  obtain ⟨v', w', hr, h2, h3, h4⟩ := run_lst_apps hC W o.type L M v hv b hb hL hM
  unfold Oper.wp execOp
  simp only [ho, resolve, invoke, builtin, Sem.run_bind, Sem.run_pure, Result.andThen_ok, List.map_toArray, List.map_cons, List.map_nil, hs, hx, hr]
  exact h v' w' h2 h3 h4
theorem step_lst_apps (hC : C.Ok) (W : World) (hgd : o.guard = none) (s x : Operand) (ho : o.op = .call { callee := .builtin .append, args := #[s, x], argTypes := #[C.s, C.s] }) (L M : List α) (v : Value) (hs : a.eval s = v) (hv : Lst C W v L)
    (b : Nat) (hx : a.eval x = .slice (some ⟨b, 0, none⟩) M.length M.length) (hL : L.length ≤ 1000000000) (hM : M.length ≤ 1000) (hb : Blk W b C.e (M.flatMap C.g).toArray)
    (h : ∀ v' w', Lst C w' v' (L ++ M) → Chg (fun k => v.ownBlock = some k) W w' → (∀ k, v'.ownBlock = some k → v.ownBlock = some k ∨ W.heap.size ≤ k) → K (a.put o.dst v') w') :
    if Region.wanted o (yielded ops a.tmps) = true then Oper.wp Tryz.prog o a W K Q else E := by
  have hw : Region.wanted o (yielded ops a.tmps) = true := by simp [Region.wanted, hgd]
  rw [if_pos hw]
  exact wp_lst_apps hC W s x ho L M v hs hv b hx hL hM hb h
end
end Go.Proofs.YtahahginmgidjaaGreatDoor
