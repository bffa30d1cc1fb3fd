/-
  The disk and the document's side by side: have both the same files (same).
-/
import Derived.Test.YtjfbcjmnjlehaaaGreatDoorZMg39
import Derived.Test.YtjfbcjmnjlehaaaGreatDoorZMg41
import Derived.Deep.RegionHeld3
import Derived.BigQuiet
namespace Go.Proofs.YtjfbcjmnjlehaaaGreatDoor
open Go.RowKit Go.Sort
set_option linter.unusedVariables false
set_option linter.unusedSimpArgs false

theorem listD_asc {D : DiskV} (h : Asc D.names) : listD D = D.names.map fun p => p.1.data.toList := by
  unfold listD
  refine List.mergeSort_of_pairwise ?_
  rw [List.pairwise_map]
  refine h.imp fun {a b} hab => ?_
  have := slt_iff.1 hab
  simp only [leB]
  simp
  exact List.le_of_lt this
theorem listD_cells {D : DiskV} (h : Asc D.names) : (listD D).map encStr = D.names.map fun p => Value.string p.1 := by
  rw [listD_asc h, List.map_map]
  refine List.map_congr_left fun p _ => ?_
  rfl
/-- What List hands back, read. -/
theorem row_form {w : World} {base : Nat} {v : Value} {L : List (ByteArray × Nat)} (h : w.ownsRow base 9 1 v L.length (L.map fun p => Value.string p.1)) :
    ∃ a cap, v = .slice a L.length cap ∧ L.length ≤ cap ∧ L.length ≤ 9223372036854775807 ∧ ∀ i, (hi : i < L.length) → ∃ b, a = some ⟨b, 0, none⟩ ∧ b < w.heap.size ∧ w.cell? ⟨b, i, none⟩ = some (.string L[i].1) := by
  obtain ⟨a, cap, rfl, h1, h2, hr⟩ := (Own.of_row h).reads
  refine ⟨a, cap, rfl, h1, h2, fun i hi => ?_⟩
  obtain ⟨b, hb, hbl, _, hc⟩ := hr (by omega)
  exact ⟨b, hb, hbl, hc i _ (by rw [List.getElem?_map, List.getElem?_eq_getElem hi]; rfl)⟩

set_option maxRecDepth 100000 in
set_option maxHeartbeats 4000000 in
theorem ld_same (w0 : World) (d r : Nat) (D : DiskV) (N : Nat) (hN : N ≤ 1000) (hbs : BSm N D) (w : World) (h : Both w0 w d r (fun _ _ => False) D D (fun _ => False)) :
    Calls Tryz.prog 22 #[.pointer (some ⟨d, 0, none⟩), .pointer (some ⟨r, 0, none⟩)] w fun e w' => e = .returned (.bool true) ∧ Chg (fun _ => False) w w' := by
  obtain ⟨ids, Md, Mr, hd, hr, _⟩ := h
  have hnn := hbs.n
  have hlist := disk_list d ids D Md (by omega) w hd
  rw [listD_cells hbs.an] at hlist
  have hll : (listD D).length = D.names.length := by rw [listD_asc hbs.an]; simp
  rw [hll] at hlist
  have hu1 := fun W (hW : Chg (fun _ => False) w W) => disk_used d ids D Md W (hd.same hW) (by omega)
  have hu2 := fun W (hW : Chg (fun _ => False) w W) => rd_used r D Mr W (hr.same hW) (by omega)
  have hoff := fun W (hW : Chg (fun _ => False) w W) => disk_off d ids D Md W (hd.same hW)
  have hread := fun W (hW : Chg (fun _ => False) w W) n hn => disk_read d ids D Md n hn W (hd.same hW)
  obtain ⟨hok, y, hin, _⟩ := hr
  obtain ⟨_, c1, c2, _, _, c5, _⟩ := rin_cells hin
  obtain ⟨na, nc, hnv, _, hnn2, hnread⟩ := rnm_form hin.parts.names
  obtain ⟨fa, fc, hfv, _, hfn, hfread⟩ := rfl_form hin.parts.files
  rw [ofNames_len] at hnv hnn2
  rw [hnv] at c2
  rw [hfv] at c1
  have hrl := hin.blk.lt
  have hun := used_bound hok
  have HL := Lib.hid hlist
  have HU1 := Lib.hid hu1
  have HU2 := Lib.hid hu2
  have HOF := Lib.hid hoff
  have HRD := Lib.hid hread
  have HNR := Lib.hid hnread
  have HFR := Lib.hid hfread
  have HOK := Lib.hid hok
  clear hlist hll hu1 hu2 hoff hread hnread hfread hok hin hnv hfv hd
  obtain ⟨n, hn⟩ : ∃ n, n = D.names.length := ⟨_, rfl⟩
  have HN := Lib.hid hn
  have hq1 : ((n : Int) == (n : Int)) = true := by simp
  obtain ⟨us, hus⟩ : ∃ us, us = usedD D := ⟨_, rfl⟩
  rw [← hus] at HU1 HU2
  rw [← hn] at c2 HL
  have hq2 : (us == us) = true := by simp
  obtain ⟨off, hof⟩ : ∃ off, off = D.off := ⟨_, rfl⟩
  rw [← hof] at HOF c5
  have hq3 : (off == off) = true := by simp
  have HOFF := Lib.hid hof
  have hn3 : (n : Int) ≤ 2000 := by omega
  clear hn hus hof hun hnn hnn2
  go_enter Tryz.func22, Tryz.ntmps22
  go_wp2_with fail
  refine HL.out.mono ?_
  rintro e w1 ⟨v, rfl, hrow, hc1⟩
  have hrow2 := hrow
  rw [HN.out] at hrow2
  obtain ⟨la, lc, rfl, _, _, hlread⟩ := row_form hrow2
  rw [← HN.out]
  have d2 := (hc1.cell (p := ⟨r, 2, none⟩) hrl (by simp)).trans c2
  have d5 := (hc1.cell (p := ⟨r, 5, none⟩) hrl (by simp)).trans c5
  have hrl1 : r < w1.heap.size := Nat.lt_of_lt_of_le hrl hc1.size
  have HC1 := Lib.hid hc1
  have HLR := Lib.hid hlread
  have HC20 := Lib.hid c2
  have HC50 := Lib.hid c5
  clear hrow hrow2 hc1 hlread c2 c5
  go_wp2_with fail
  go_region_held3 (fun w' => w'.cell? ⟨r, 2, none⟩ = some (.slice na n nc) ∧ w'.cell? ⟨r, 5, none⟩ = some (.bool off))
    (first | (go_keep; done))
    (first
      | (go_at_call 67; refine (HU1.out _ (HC1.out.then (by ((repeat (first | exact Chg.refl _ _ | assumption | refine Chg.drewN ?_ _ | refine Chg.drew ?_ | refine Chg.alloc ?_ _ | refine Chg.setCell ?_ (by first | (simp; done) | (simp; omega) | (intro h; simp at h; omega)) _)))))).mono ?_; rintro e w2 ⟨rfl, hc2⟩; have e2 := (hc2.cell (p := ⟨r, 2, none⟩) hrl1 (by simp)).trans d2; have e5 := (hc2.cell (p := ⟨r, 5, none⟩) hrl1 (by simp)).trans d5; have hc2' : Chg (fun _ => False) w w2 := (HC1.out.then (by ((repeat (first | exact Chg.refl _ _ | assumption | refine Chg.drewN ?_ _ | refine Chg.drew ?_ | refine Chg.alloc ?_ _ | refine Chg.setCell ?_ (by first | (simp; done) | (simp; omega) | (intro h; simp at h; omega)) _))))).then hc2; have HC2 := Lib.hid hc2'; have hc12' : Chg (fun _ => False) w1 w2 := Chg.then (by ((repeat (first | exact Chg.refl _ _ | assumption | refine Chg.drewN ?_ _ | refine Chg.drew ?_ | refine Chg.alloc ?_ _ | refine Chg.setCell ?_ (by first | (simp; done) | (simp; omega) | (intro h; simp at h; omega)) _)))) hc2; have HC12 := Lib.hid hc12'; clear hc2 hc2' hc12')
      | (go_at_call 68; refine (HU2.out _ (HC2.out.then (by ((repeat (first | exact Chg.refl _ _ | assumption | refine Chg.drewN ?_ _ | refine Chg.drew ?_ | refine Chg.alloc ?_ _ | refine Chg.setCell ?_ (by first | (simp; done) | (simp; omega) | (intro h; simp at h; omega)) _)))))).mono ?_; rintro e w3 ⟨rfl, m3, rfl⟩)
      | (go_at_call 69; refine (HOF.out _ (HC2.out.then (by ((repeat (first | exact Chg.refl _ _ | assumption | refine Chg.drewN ?_ _ | refine Chg.drew ?_ | refine Chg.alloc ?_ _ | refine Chg.setCell ?_ (by first | (simp; done) | (simp; omega) | (intro h; simp at h; omega)) _)))))).mono ?_; rintro e w3 ⟨rfl, rfl⟩))
  obtain ⟨w4, hw4⟩ : ∃ w4, w4 = w2.drewN m3 := ⟨_, rfl⟩
  have hc4 : Chg (fun _ => False) w w4 := by rw [hw4]; exact HC2.out.drewN m3
  have hc14 : Chg (fun _ => False) w1 w4 := by rw [hw4]; exact HC12.out.drewN m3
  rw [← hw4]
  have HC14 := Lib.hid hc14
  clear hw4 hc4 hc14 e2 e5 d2 d5 HC2 HC12 HU1 HU2 HOF hq1 hq2 hq3 HL
  go_wp2_with fail
  go_loopw [38] (fun i wr => ∃ q : Nat, q ≤ n ∧ i = .int .i64 q ∧ Chg (fun _ => False) w1 wr) (fun i _ => n - (intOf i).toNat)
  case atStart => exact ⟨0, by omega, rfl, HC14.out⟩
  case round =>
    obtain ⟨q, hq, rfl, hcr⟩ := hrel
    by_cases hlt : q < n
    · have hlt' : (q : Int) < (n : Int) := by omega
      have hge : (0 : Int) ≤ (q : Int) := by omega
      have hqn : q < D.names.length := by rw [← HN.out]; exact hlt
      obtain ⟨lb, rfl, hlb, y0⟩ := HLR.out q hqn
      obtain ⟨nb, rfl, hnb, _, z0, z1⟩ := HNR.out _ _ _ (ofNames_at D.names q hqn)
      have htk : (ofNames (D.names.take q)).length = q := by rw [ofNames_len]; simp; omega
      rw [htk] at z0 z1
      have hi : D.names[q].2 < D.files.length := HOK.out.names.lt _ (List.getElem_mem hqn)
      obtain ⟨fb, rfl, hfb, _, f0, _⟩ := HFR.out D.names[q].2 hi
      have hlk : look D.names D.names[q].1 = some D.names[q].2 := look_mem HOK.out.names.one (List.getElem_mem hqn)
      have hnsz := HOK.out.names.sz _ (List.getElem_mem hqn)
      have hcw := HC1.out.then hcr
      have y0' := (hcr.cell (p := ⟨lb, q, none⟩) hlb (by simp)).trans y0
      have z0' := (hcw.cell (p := ⟨nb, q * 2, none⟩) hnb (by simp)).trans z0
      have z1' := (hcw.cell (p := ⟨nb, q * 2 + 1, none⟩) hnb (by simp)).trans z1
      have c1' := (hcw.cell (p := ⟨r, 1, none⟩) hrl (by simp)).trans c1
      have c2' := (hcw.cell (p := ⟨r, 2, none⟩) hrl (by simp)).trans HC20.out
      have c5' := (hcw.cell (p := ⟨r, 5, none⟩) hrl (by simp)).trans HC50.out
      have f0' := (hcw.cell (p := ⟨fb, D.names[q].2 * 2, none⟩) hfb (by simp)).trans f0
      have hrd := HRD.out wr hcw D.names[q].1 (Nat.le_trans hnsz (by decide))
      unfold readD at hrd
      rw [← HOFF.out, hlk] at hrd
      have hdo : dataOf D D.names[q].2 = D.files[D.names[q].2].data := by unfold dataOf; rw [List.getElem?_eq_getElem hi]
      simp only [hdo] at hrd
      have hil : (D.names[q].2 : Int) < (D.files.length : Int) := by omega
      have hi0 : (0 : Int) ≤ (D.names[q].2 : Int) := by omega
      generalize D.files[D.names[q].2].data = dt at *
      generalize D.names[q].2 = fi at *
      generalize D.names[q].1 = nm at *
      have e1 : (nm.toList == nm.toList) = true := by simp
      have e3 : (dt.toList == dt.toList) = true := by simp
      have hwl := hcw.size
      have hw1l := hcr.size
      have HCR := Lib.hid hcr
      cases off with
      | true =>
        simp only [if_true] at hrd
        have HR := Lib.hid hrd
        clear hrd hcr hcw y0 z0 z1 f0 hlk hnsz htk hdo
        go_wp2_with fail
        refine HR.out.mono ?_
        rintro e w5 ⟨rfl, hc5⟩
        have g5 := (hc5.cell (p := ⟨r, 5, none⟩) (show r < wr.heap.size by omega) (by simp)).trans c5'
        have HC5 := Lib.hid (HCR.out.then hc5)
        clear hc5 c5' c1' c2' z0' z1' f0' y0'
        go_wp2_with fail
        go_quiet (fail)
        go_wp2_with fail
        go_roundw
        case rel => exact ⟨q + 1, by omega, by go_num, HC5.out.drewN _⟩
        case measure => simp [intOf]; omega
      | false =>
        simp only [Bool.false_eq_true, if_false] at hrd
        have HR := Lib.hid hrd
        clear hrd hcr hcw y0 z0 z1 f0 hlk hnsz htk hdo
        go_wp2_with fail
        refine HR.out.mono ?_
        rintro e w5 ⟨rfl, hc5⟩
        have g5 := (hc5.cell (p := ⟨r, 5, none⟩) (show r < wr.heap.size by omega) (by simp)).trans c5'
        have g1 := (hc5.cell (p := ⟨r, 1, none⟩) (show r < wr.heap.size by omega) (by simp)).trans c1'
        have g2 := (hc5.cell (p := ⟨r, 2, none⟩) (show r < wr.heap.size by omega) (by simp)).trans c2'
        have k1 := (hc5.cell (p := ⟨nb, q * 2 + 1, none⟩) (show nb < wr.heap.size by omega) (by simp)).trans z1'
        have k2 := (hc5.cell (p := ⟨fb, fi * 2, none⟩) (show fb < wr.heap.size by omega) (by simp)).trans f0'
        have HC5 := Lib.hid (HCR.out.then hc5)
        clear hc5 c5' c1' c2' z0' z1' f0' y0'
        go_wp2_with fail
        go_quiet (fail)
        go_wp2_with fail
        go_roundw
        case rel => exact ⟨q + 1, by omega, by go_num, HC5.out.drewN _⟩
        case measure => simp [intOf]; omega
    · obtain rfl : q = n := by omega
      have hge : ¬ ((q : Int) < (q : Int)) := by omega
      have HCR := Lib.hid (HC1.out.then hcr)
      clear hcr
      go_wp2_with fail
      go_ret
      exact ⟨rfl, HCR.out⟩
end Go.Proofs.YtjfbcjmnjlehaaaGreatDoor
