/-
  The walk of VersionOver.
-/
import Derived.Test.YtdjohhoofnogoaaVerL
import Derived.Test.YtdjohhoofnogoaaVerV
import Derived.Test.YtdjohhoofnogoaaVerQ
import Derived.Deep.RegionHeld3
namespace Go.Proofs.Ytdjohhoofnogoaa
open Go.RowKit
set_option linter.unusedVariables false
set_option linter.unusedSimpArgs false

theorem kc_chg {w w' : World} {p : Addr} {v : Value} (hc : Chg (fun _ => False) w w') (h : w.cell? p = some v) : w'.cell? p = some v := (hc.cell (World.block_lt_of_cell? w p h) (by simp)).trans h
def sortedF (S : VerV) : List Int := (filesOf (flatF S.lv)).mergeSort fun x y => decide (x ≤ y)
theorem sortedF_perm (S : VerV) : (sortedF S).Perm (filesOf (flat S)) := List.mergeSort_perm _ _
theorem sortedF_len (S : VerV) : (sortedF S).length = (flat S).length := by rw [(sortedF_perm S).length_eq]; simp [filesOf]
theorem sortedF_one {S : VerV} (h : Good S) {A B : List Int} {x : Int} (e : sortedF S = A ++ x :: B) : (filesOf (flat S)).count x = 1 := by
  have hm : x ∈ filesOf (flat S) := (sortedF_perm S).mem_iff.1 (by rw [e]; simp)
  have h1 := List.nodup_iff_count.1 h.files x
  have h2 := List.count_pos_iff.2 hm
  omega
theorem sortedF_up {S : VerV} (h : Good S) {A B : List Int} {y x : Int} (e : sortedF S = A ++ [y] ++ x :: B) : y < x := by
  have h1 : (sortedF S).Pairwise fun a b => decide (a ≤ b) = true := List.pairwise_mergeSort (by intro a b c; simp; omega) (by intro a b; simp; omega) _
  have h2 : (sortedF S).Nodup := (sortedF_perm S).nodup_iff.2 h.files
  rw [e] at h1 h2
  have h3 := (List.pairwise_append.1 h1).2.2 y (by simp) x (by simp)
  have h4 := (List.nodup_append.1 h2).2.2 y (by simp) x (by simp)
  simp at h3
  omega

set_option maxRecDepth 1000000 in
set_option maxHeartbeats 8000000 in
theorem ver_over_law (A : Option Addr) (n c : Nat) (Ed : Nat → EditV) (lev : Int) (s0 s1 : ByteArray) (w : World) (hn : n ≤ c) (hc : c ≤ maxLen) (hE : EdsAt w A n Ed) (hF : ∀ i, i < n → EdFine (Ed i)) :
    Calls Try.prog 6 #[.slice A n c, .int .i64 lev, .agg #[.string s0, .string s1]] w fun e w' => e = .returned (.bool true) ∧ Chg (fun _ => False) w w' := by
  obtain ⟨w1, hw1⟩ : ∃ w1, w1 = w.alloc (.cells #[.string s0, .string s1] 55) := ⟨_, rfl⟩
  have hc1 : Chg (fun _ => False) w w1 := by rw [hw1]; ((repeat (first | exact Chg.refl _ _ | assumption | refine Chg.drewN ?_ _ | refine Chg.drew ?_ | refine Chg.alloc ?_ _ | refine Chg.setCell ?_ (by first | (simp; done) | (simp; omega) | (intro h; simp at h; omega)) _)))
  have hbs : Blk w1 w.heap.size 55 #[.string s0, .string s1] := by rw [hw1]; exact Blk.new w _ _
  have hE1 : EdsAt w1 A n Ed := fun h0 => by
    obtain ⟨b, off, e, hb, hr⟩ := hE h0
    refine ⟨b, off, e, Nat.lt_of_lt_of_le hb hc1.size, fun i hi => ?_⟩
    obtain ⟨av, dv, x0, x1, x2, x3, x4, hra, hrd⟩ := hr i hi
    exact ⟨av, dv, kc_chg hc1 x0, kc_chg hc1 x1, kc_chg hc1 x2, kc_chg hc1 x3, kc_chg hc1 x4, hra.same hc1, hrd.same hc1⟩
  have ha := law_after A n c Ed w1 hn hc hE1 hF
  have HA := Lib.hid ha
  have HW1 := Lib.hid hw1
  have HC1 := Lib.hid hc1
  have HBS := Lib.hid hbs
  clear ha hE hF hw1 hc1 hbs hE1
  go_enter Try.func6, Try.ntmps6
  go_upto_region 1 with fail
  rw [← HW1.out]
  go_wp2_with fail
  refine HA.out.mono ?_
  rintro e w2 ⟨S, a0, a1, a2, a3, av, n0, n1, n2, n3, nv, c0, c1, c2, c3, cv, hFine, hlen, rfl, hV, hR, hc2⟩
  obtain ⟨w3, hw3⟩ : ∃ w3, w3 = (w2.alloc (.cells #[.slice a0 n0 c0, .slice a1 n1 c1, .slice a2 n2 c2, .slice a3 n3 c3, .int .i64 S.log, .int .i64 S.next, .int .i64 S.seq] 26)).alloc (.cells #[.slice av nv cv, .int .i64 S.log, .int .i64 S.next, .int .i64 S.seq] 29) := ⟨_, rfl⟩
  have hc3 : Chg (fun _ => False) w2 w3 := by rw [hw3]; ((repeat (first | exact Chg.refl _ _ | assumption | refine Chg.drewN ?_ _ | refine Chg.drew ?_ | refine Chg.alloc ?_ _ | refine Chg.setCell ?_ (by first | (simp; done) | (simp; omega) | (intro h; simp at h; omega)) _)))
  have hb : Blk w3 w2.heap.size 26 #[.slice a0 n0 c0, .slice a1 n1 c1, .slice a2 n2 c2, .slice a3 n3 c3, .int .i64 S.log, .int .i64 S.next, .int .i64 S.seq] := by rw [hw3]; exact (Blk.new w2 _ _).alloc _
  have hbr : Blk w3 (w2.heap.size + 1) 29 #[.slice av nv cv, .int .i64 S.log, .int .i64 S.next, .int .i64 S.seq] := by rw [hw3]; exact Blk.new1 w2 _ _ _
  obtain ⟨w4, hw4⟩ : ∃ w4, w4 = w3.alloc (.cells #[.int .i64 lev, .int .i64 0, .int .i64 1, .int .i64 2, .int .i64 3] 3) := ⟨_, rfl⟩
  have hc4 : Chg (fun _ => False) w3 w4 := by rw [hw4]; ((repeat (first | exact Chg.refl _ _ | assumption | refine Chg.drewN ?_ _ | refine Chg.drew ?_ | refine Chg.alloc ?_ _ | refine Chg.setCell ?_ (by first | (simp; done) | (simp; omega) | (intro h; simp at h; omega)) _)))
  have hbi : Blk w4 w3.heap.size 3 #[.int .i64 lev, .int .i64 0, .int .i64 1, .int .i64 2, .int .i64 3] := by rw [hw4]; exact Blk.new w3 _ _
  have HW3 := Lib.hid hw3
  have HW4 := Lib.hid hw4
  have HBS4 := Lib.hid (HBS.out.chg (hc2.then (hc3.then hc4)) (by simp))
  have HB4 := Lib.hid (hb.chg hc4 (by simp))
  have HBR4 := Lib.hid (hbr.chg hc4 (by simp))
  have HBI4 := Lib.hid hbi
  have HV4 := Lib.hid (hV.same (hc3.then hc4))
  have HR4 := Lib.hid (hR.same (hc3.then hc4))
  have HC4 := Lib.hid (HC1.out.then (hc2.then (hc3.then hc4)))
  have HFINE := Lib.hid hFine
  have HLEN := Lib.hid hlen
  clear hw3 hw4 hb hbr hbi hc2 hc3 hc4 hV hR hFine hlen HA
  go_upto_region 2 with fail
  rw [← HW3.out]
  go_wp2_with fail
  rw [← HW4.out]
  go_loopw [28] (fun i wr => ∃ k : Nat, k ≤ 5 ∧ i = .int .i64 k ∧ Chg (fun _ => False) w4 wr) (fun i _ => 5 - (intOf i).toNat)
  case atStart => exact ⟨0, by omega, rfl, Chg.refl _ _⟩
  case round =>
    obtain ⟨k, hk5, rfl, hcr⟩ := hrel
    by_cases hlt : k < 5
    · obtain ⟨N, hN⟩ : ∃ N : Int, w4.cell? ⟨w3.heap.size, k, none⟩ = some (.int .i64 N) := by
        have := HBI4.out.cell k
        match k, hlt with
        | 0, _ => exact ⟨_, by simpa using this⟩
        | 1, _ => exact ⟨_, by simpa using this⟩
        | 2, _ => exact ⟨_, by simpa using this⟩
        | 3, _ => exact ⟨_, by simpa using this⟩
        | 4, _ => exact ⟨_, by simpa using this⟩
      have hN := kc_chg hcr hN
      have hb := HB4.out.chg hcr (by simp)
      have hbr := HBR4.out.chg hcr (by simp)
      have hbs := HBS4.out.chg hcr (by simp)
      have y0 := hb.cell 0
      have y1 := hb.cell 1
      have y2 := hb.cell 2
      have y3 := hb.cell 3
      have y4 := hb.cell 4
      have y5 := hb.cell 5
      have y6 := hb.cell 6
      have z0 := hbr.cell 0
      have z1 := hbr.cell 1
      have z2 := hbr.cell 2
      have z3 := hbr.cell 3
      have u0 := hbs.cell 0
      have u1 := hbs.cell 1
      simp at y0 y1 y2 y3 y4 y5 y6 z0 z1 z2 z3 u0 u1
      have hlt' : (k : Int) < 5 := by omega
      have hge' : (0 : Int) ≤ (k : Int) := by omega
      have HVr := Lib.hid (HV4.out.same hcr)
      have HRr := Lib.hid (HR4.out.same hcr)
      have HCR := Lib.hid hcr
      have hl4 : ∀ i, i < 4 → (S.lv i).length ≤ 100000000 := fun i hi => by have := lv_len S i hi; have := HLEN.out; omega
      have HL4 := Lib.hid hl4
      have hlf : (flat S).length ≤ 400000000 := by have := HLEN.out; omega
      have HLF := Lib.hid hlf
      clear hb hbr hbs hcr hl4 hlf
      go_upto_region 5 with fail
      go_cut [11, 12] (fun g d wx => ∃ ga gc da dc, g = .slice ga (oversV S N s0 s1).length gc ∧ d = .slice da (oversV S N s0 s1).length dc ∧ Lst metaC wx (.slice ga (oversV S N s0 s1).length gc) (oversV S N s0 s1) ∧ Lst docC wx (.slice da (oversV S N s0 s1).length dc) ((oversV S N s0 s1).map fun m => ⟨N, m⟩) ∧ Chg (fun _ => False) wr wx)
      case first =>
        go_region_held3 (fun w' => Chg (fun _ => False) wr w' ∧ w'.cell? ⟨w2.heap.size, 0, none⟩ = some (.slice a0 n0 c0) ∧ w'.cell? ⟨w2.heap.size, 1, none⟩ = some (.slice a1 n1 c1) ∧ w'.cell? ⟨w2.heap.size, 2, none⟩ = some (.slice a2 n2 c2) ∧ w'.cell? ⟨w2.heap.size, 3, none⟩ = some (.slice a3 n3 c3) ∧ w'.cell? ⟨w2.heap.size, 4, none⟩ = some (.int .i64 S.log) ∧ w'.cell? ⟨w2.heap.size, 5, none⟩ = some (.int .i64 S.next) ∧ w'.cell? ⟨w2.heap.size, 6, none⟩ = some (.int .i64 S.seq) ∧ w'.cell? ⟨w2.heap.size + 1, 0, none⟩ = some (.slice av nv cv) ∧ w'.cell? ⟨w2.heap.size + 1, 1, none⟩ = some (.int .i64 S.log) ∧ w'.cell? ⟨w2.heap.size + 1, 2, none⟩ = some (.int .i64 S.next) ∧ w'.cell? ⟨w2.heap.size + 1, 3, none⟩ = some (.int .i64 S.seq) ∧ w'.cell? ⟨w.heap.size, 0, none⟩ = some (.string s0) ∧ w'.cell? ⟨w.heap.size, 1, none⟩ = some (.string s1))
          ((go_split_ands; (try dsimp only); (repeat' with_reducible apply And.intro) <;> (repeat (first | with_reducible assumption | with_reducible exact Chg.refl _ _ | with_reducible refine kc_drew ?_ | with_reducible refine Chg.drew ?_ | with_reducible refine kc_chg hc6 ?_ | with_reducible refine Chg.then ?_ hc6))))
          (first | (go_at_call 15; refine (ver_over _ _ _ _ S N s0 s1 _ (HVr.out.same (by go_split_ands; first | assumption | exact Chg.drew (by assumption))) HL4.out).mono ?_; rintro e w6 ⟨gv, rfl, hGv, _, hc6⟩) | (go_at_call 16; refine (doc_over _ S N s0 s1 _ (HRr.out.same (by go_split_ands; first | assumption | exact Chg.drew (by assumption))) HLF.out).mono ?_; rintro e w6 ⟨dv, rfl, hDv, _, hc6⟩))
        rw [overs_flat] at hDv
        have hGv2 := hGv.same hc6
        obtain ⟨ga, gc, rfl, _⟩ := meta_form hGv2
        obtain ⟨da, dc, e, _⟩ := doc_form hDv
        rw [List.length_map] at e
        subst e
        have HA1 := Lib.hid hGv2
        have HA2 := Lib.hid hDv
        have HA3 := Lib.hid (show Chg (fun _ => False) wr w6 by go_split_ands; assumption)
        clear hGv2 hGv hDv hc6
        go_wp2_with fail
        go_meet
        exact ⟨ga, gc, da, dc, rfl, rfl, HA1.out, HA2.out, HA3.out⟩
      case rest =>
        obtain ⟨ga, gc, da, dc, rfl, rfl, hG, hD, hc5⟩ := hcut
        obtain ⟨O, hO⟩ : ∃ O, oversV S N s0 s1 = O := ⟨_, rfl⟩
        rw [hO] at hG hD ⊢
        obtain ⟨ga', gc', eg, hgc, hgn, hgr⟩ := meta_form hG
        cases eg
        obtain ⟨da', dc', ed, hdc, hdn, hdr⟩ := doc_form hD
        simp only [List.length_map] at ed hdc hdn
        cases ed
        have HGR := Lib.hid hgr
        have HDR := Lib.hid hdr
        have HC5 := Lib.hid (HCR.out.then hc5)
        obtain ⟨wq, hwq⟩ : ∃ wq : World, wq = wc := ⟨_, rfl⟩
        subst hwq
        clear hG hD hO hgr hdr hc5 y0 y1 y2 y3 y4 y5 y6 z0 z1 z2 z3 u0 u1 hN
        go_wp2_with fail
        go_loopw [53] (fun i wr => ∃ X R, O = X ++ R ∧ i = .int .i64 X.length ∧ Chg (fun _ => False) wq wr) (fun i _ => O.length - (intOf i).toNat)
        case atStart => exact ⟨[], O, rfl, rfl, Chg.refl _ _⟩
        case round =>
          obtain ⟨X, R, hfk, rfl, hc6⟩ := hrel
          have hAl : X.length ≤ O.length := by rw [hfk]; simp
          have HC6 := Lib.hid hc6
          cases R with
          | nil =>
            have hge : ¬ ((X.length : Int) < (O.length : Int)) := by rw [hfk]; simp
            clear hfk hc6
            go_wp2_with fail
            go_roundw
            case rel => exact ⟨k + 1, by omega, by go_num, HC5.out.then HC6.out⟩
            case measure => simp [intOf]; omega
          | cons x B =>
            obtain ⟨b, rfl, hb, _, z0, z1, z2, z3⟩ := HGR.out X x B hfk
            obtain ⟨b2, rfl, hb2, _, v0, v1, v2, v3, v4⟩ := HDR.out (X.map fun m => ⟨N, m⟩) ⟨N, x⟩ (B.map fun m => ⟨N, m⟩) (by rw [hfk]; simp)
            simp only [List.length_map] at v0 v1 v2 v3 v4
            have z0 := kc_chg hc6 z0
            have z1 := kc_chg hc6 z1
            have z2 := kc_chg hc6 z2
            have z3 := kc_chg hc6 z3
            have v0 := kc_chg hc6 v0
            have v1 := kc_chg hc6 v1
            have v2 := kc_chg hc6 v2
            have v3 := kc_chg hc6 v3
            have v4 := kc_chg hc6 v4
            have hlt2 : (X.length : Int) < (O.length : Int) := by rw [hfk]; simp; omega
            have hge : (0 : Int) ≤ (X.length : Int) := by omega
            have hf2 : O = (X ++ [x]) ++ B := by rw [hfk]; simp
            have HF2 := Lib.hid hf2
            obtain ⟨w6, hw6⟩ : ∃ w6, w6 = wr.alloc (.cells #[.int .i64 x.file, .int .i64 x.size, .string x.lo, .string x.hi] 53) := ⟨_, rfl⟩
            have hc7 : Chg (fun _ => False) wr w6 := by rw [hw6]; ((repeat (first | exact Chg.refl _ _ | assumption | refine Chg.drewN ?_ _ | refine Chg.drew ?_ | refine Chg.alloc ?_ _ | refine Chg.setCell ?_ (by first | (simp; done) | (simp; omega) | (intro h; simp at h; omega)) _)))
            have bq : Blk w6 wr.heap.size 53 #[.int .i64 x.file, .int .i64 x.size, .string x.lo, .string x.hi] := by rw [hw6]; exact Blk.new _ _ _
            have i0 := bq.cell 0
            have i1 := bq.cell 1
            have i2 := bq.cell 2
            have i3 := bq.cell 3
            simp at i0 i1 i2 i3
            have v0 := kc_chg hc7 v0
            have v1 := kc_chg hc7 v1
            have v2 := kc_chg hc7 v2
            have v3 := kc_chg hc7 v3
            have v4 := kc_chg hc7 v4
            have HW6 := Lib.hid hw6
            have HC7 := Lib.hid (hc6.then hc7)
            clear hfk hf2 hc6 hc7 hw6 bq
            go_upto_region 11 with fail
            rw [← HW6.out]
            go_quiet (fail)
            go_wp2_with fail
            exact ⟨⟨X ++ [x], B, HF2.out, by simp, HC7.out.drewN _⟩, by simp [intOf]; omega⟩
    · obtain rfl : k = 5 := by omega
      have hb := HB4.out.chg hcr (by simp)
      have hbr := HBR4.out.chg hcr (by simp)
      have y0 := hb.cell 0
      have y1 := hb.cell 1
      have y2 := hb.cell 2
      have y3 := hb.cell 3
      have y4 := hb.cell 4
      have y5 := hb.cell 5
      have y6 := hb.cell 6
      simp at y0 y1 y2 y3 y4 y5 y6
      have hfi := ver_files (Lv (.slice a0 n0 c0) (.slice a1 n1 c1) (.slice a2 n2 c2) (.slice a3 n3 c3)) S.lv S.log S.next S.seq wr (HV4.out.same hcr) (fun i hi => by have := lv_len S i hi; have := HLEN.out; omega)
      have HFI := Lib.hid (show Calls Try.prog 17 #[.agg #[.slice a0 n0 c0, .slice a1 n1 c1, .slice a2 n2 c2, .slice a3 n3 c3, .int .i64 S.log, .int .i64 S.next, .int .i64 S.seq]] wr (FilesPost wr S.lv) from hfi)
      have HBR := Lib.hid hbr
      have HRr := Lib.hid (HR4.out.same hcr)
      have HCR := Lib.hid (HC4.out.then hcr)
      clear hfi hb hbr hcr
      go_wp2_with fail
      refine HFI.out.mono ?_
      rintro e w5 ⟨fv, rfl, hFS, _, hc5⟩
      obtain ⟨FS, hFSe⟩ : ∃ FS, sortedF S = FS := ⟨_, rfl⟩
      rw [show (filesOf (flatF S.lv)).mergeSort (fun x y => decide (x ≤ y)) = FS from hFSe] at hFS
      have hFl : FS.length = (flat S).length := by rw [← hFSe]; exact sortedF_len S
      obtain ⟨fa, fc, rfl, hfc, hfn, hfr⟩ := i64_form hFS
      have hD := HRr.out.same hc5
      obtain ⟨dv, dc, ed, hdc, hdn, hdr⟩ := doc_form hD
      cases ed
      obtain ⟨F, hF⟩ : ∃ F, flat S = F := ⟨_, rfl⟩
      rw [hF] at hFl hdc hdn hdr ⊢
      have hbr := HBR.out.chg hc5 (by simp)
      have z0 := hbr.cell 0
      simp at z0
      rw [hF] at z0
      have hone : ∀ X R x, FS = X ++ x :: R → (filesOf F).count x = 1 := fun X R x e => by rw [← hF]; exact sortedF_one HFINE.out.good (by rw [hFSe]; exact e)
      have hup : ∀ X R y x, FS = X ++ [y] ++ x :: R → y < x := fun X R y x e => sortedF_up HFINE.out.good (by rw [hFSe]; exact e)
      have HONE := Lib.hid hone
      have HUP := Lib.hid hup
      have HFL := Lib.hid hFl
      have HFR := Lib.hid hfr
      have HDR := Lib.hid hdr
      have HBR5 := Lib.hid hbr
      have HC5 := Lib.hid (HCR.out.then hc5)
      rw [hFl]
      rw [hFl] at hfc hfn
      have hFM : F.length ≤ 41943040 := by rw [← hF]; exact HLEN.out
      clear hFl hFSe hfr hdr hbr hF hc5 hFS hD hone hup y0 y1 y2 y3 y4 y5 y6
      go_wp2_with fail
      go_loopw [85] (fun i wr => ∃ X R, FS = X ++ R ∧ i = .int .i64 X.length ∧ Chg (fun _ => False) w5 wr) (fun i _ => F.length - (intOf i).toNat)
      case atStart => exact ⟨[], FS, rfl, rfl, Chg.refl _ _⟩
      case round =>
        obtain ⟨X, R, hfk, rfl, hc6⟩ := hrel
        have hXl : X.length ≤ F.length := by rw [← HFL.out, hfk]; simp
        have z0r := kc_chg hc6 z0
        have HC6 := Lib.hid hc6
        cases R with
        | nil =>
          have hge : ¬ ((X.length : Int) < (F.length : Int)) := by rw [← HFL.out, hfk]; simp
          have hwk := law_wakes wr
          have HWK := Lib.hid hwk
          clear hfk hc6 hwk
          go_wp2_with fail
          refine HWK.out.mono ?_
          rintro e w7 ⟨rfl, hc7⟩
          have HC7 := Lib.hid ((HC5.out.then HC6.out).then hc7)
          clear hc7
          go_wp2_with fail
          go_ret
          exact ⟨rfl, HC7.out⟩
        | cons x B =>
          have hxl : X.length < F.length := by rw [← HFL.out, hfk]; simp
          have hlt2 : (X.length : Int) < (F.length : Int) := by omega
          have hge : (0 : Int) ≤ (X.length : Int) := by omega
          have hf2 : FS = (X ++ [x]) ++ B := by rw [hfk]; simp
          obtain ⟨fb, rfl, hfb, _, f0⟩ := HFR.out X x B hfk
          have h1 := HONE.out X B x hfk
          have HF2 := Lib.hid hf2
          have HFK := Lib.hid hfk
          have H1 := Lib.hid h1
          have F0 := Lib.hid f0
          obtain ⟨wo, hwo⟩ : ∃ wo : World, wo = wr := ⟨_, rfl⟩
          subst hwo
          clear hfk hf2 h1 hc6 f0
          go_wp2_with fail
          go_loopw [17, 91] (fun cnt i wr => ∃ P R, F = P ++ R ∧ i = .int .i64 P.length ∧ cnt = .int .i64 ((filesOf P).count x : Nat) ∧ Chg (fun _ => False) w5 wr) (fun _ i _ => F.length - (intOf i).toNat)
          case atStart => exact ⟨[], F, rfl, rfl, rfl, HC6.out⟩
          case round =>
            obtain ⟨P, R, hP, rfl, rfl, hc7⟩ := hrel
            have hPl : P.length ≤ F.length := by rw [hP]; simp
            obtain ⟨q, hq⟩ : ∃ q, (filesOf P).count x = q := ⟨_, rfl⟩
            have hql : q ≤ P.length := by rw [← hq]; exact Nat.le_trans List.count_le_length (by simp [filesOf])
            have HC7 := Lib.hid hc7
            cases R with
            | nil =>
              have hge2 : ¬ ((P.length : Int) < (F.length : Int)) := by rw [hP]; simp
              have hq1 : q = 1 := by rw [← hq, ← H1.out, hP]; simp
              rw [hq, hq1, show ((1 : Nat) : Int) = 1 from rfl]
              have f0 := kc_chg hc7 F0.out
              obtain ⟨a, ha⟩ : ∃ a, X.length = a := ⟨_, rfl⟩
              rw [ha] at hxl hlt2 hge f0 ⊢
              have HAL := Lib.hid ha
              have hql2 : q ≤ 41943040 := by omega
              clear hP hc7 hq hq1 hql ha hPl
              go_upto_region 28 with fail
              go_cut [122] (fun c wx => c = .bool false ∧ ∃ nq, wr.drewN nq = wx)
              case first =>
                have hHFK := HFK.out
                rcases List.eq_nil_or_concat X with rfl | ⟨X', y, hX⟩
                · have ha0 : a = 0 := by have := HAL.out; simpa using this.symm
                  have d1 : decide ((0 : Int) < (a : Int)) = false := by subst ha0; rfl
                  have d2 : decide (0 < a) = false := by subst ha0; rfl
                  clear hHFK ha0
                  go_quiet (fail)
                  go_wp2_with fail
                  go_meet
                  exact ⟨rfl, _, rfl⟩
                · rw [hX, List.concat_eq_append] at hHFK
                  have ham : a = X'.length + 1 := by rw [← HAL.out, hX]; simp
                  obtain ⟨b', hb', _, _, y0'⟩ := HFR.out X' y (x :: B) (by rw [hHFK]; simp)
                  injection hb' with hb'
                  injection hb' with hb'
                  subst hb'
                  have y0 := kc_chg HC7.out y0'
                  have hyx := HUP.out X' B y x (by rw [hHFK])
                  have hidx : ((a : Int) - 1) = (X'.length : Int) := by omega
                  have hwr : IntKind.i64.wrap ((a : Int) - 1) = (X'.length : Int) := by rw [hidx]; exact IntWalk.i64_in _ (by omega)
                  have g0 : (0 : Int) ≤ (X'.length : Int) := by omega
                  have g1 : (X'.length : Int) < (F.length : Int) := by omega
                  have g2 : (X'.length : Int).toNat = X'.length := by omega
                  have d1 : decide ((0 : Int) < (a : Int)) = true := by simp; omega
                  have d2 : decide (0 < a) = true := by simp; omega
                  have f1 : decide (x ≤ y) = false := by simp; omega
                  clear hHFK ham hidx y0' hyx
                  go_quiet (fail)
                  go_wp2_with fail
                  go_meet
                  exact ⟨rfl, _, rfl⟩
              case rest =>
                obtain ⟨rfl, nq, rfl⟩ := hcut
                go_wp2_with fail
                exact ⟨⟨X ++ [x], B, HF2.out, by rw [List.length_append, HAL.out]; rfl, HC7.out.drewN _⟩, by simp [intOf]; have := HAL.out; omega⟩
            | cons p B2 =>
              obtain ⟨lv, m⟩ := p
              obtain ⟨b2, rfl, hb2, _, v0, v1, v2, v3, v4⟩ := HDR.out P ⟨lv, m⟩ B2 hP
              simp only at v0 v1 v2 v3 v4
              have v0 := kc_chg hc7 v0
              have v1 := kc_chg hc7 v1
              have v2 := kc_chg hc7 v2
              have v3 := kc_chg hc7 v3
              have v4 := kc_chg hc7 v4
              have hlt3 : (P.length : Int) < (F.length : Int) := by rw [hP]; simp; omega
              have hge3 : (0 : Int) ≤ (P.length : Int) := by omega
              have hP2 : F = (P ++ [(⟨lv, m⟩ : PlaceV)]) ++ B2 := by rw [hP]; simp
              obtain ⟨w6, hw6⟩ : ∃ w6, w6 = wr.alloc (.cells #[.int .i64 lv, .int .i64 m.file, .int .i64 m.size, .string m.lo, .string m.hi] 60) := ⟨_, rfl⟩
              have hc8 : Chg (fun _ => False) wr w6 := by rw [hw6]; ((repeat (first | exact Chg.refl _ _ | assumption | refine Chg.drewN ?_ _ | refine Chg.drew ?_ | refine Chg.alloc ?_ _ | refine Chg.setCell ?_ (by first | (simp; done) | (simp; omega) | (intro h; simp at h; omega)) _)))
              have bq : Blk w6 wr.heap.size 60 #[.int .i64 lv, .int .i64 m.file, .int .i64 m.size, .string m.lo, .string m.hi] := by rw [hw6]; exact Blk.new _ _ _
              have i1 := bq.cell 1
              simp at i1
              have f0 := kc_chg hc8 (kc_chg hc7 F0.out)
              have HW6 := Lib.hid hw6
              have HC8 := Lib.hid (hc7.then hc8)
              have HP2 := Lib.hid hP2
              have hql2 : q ≤ 41943040 := by omega
              have HQ := Lib.hid hq
              rw [hq]
              clear hP hc7 hc8 hw6 bq hP2 hq hql
              go_upto_region 25 with fail
              rw [← HW6.out]
              by_cases hx : m.file = x
              · have HCN := Lib.hid (show (filesOf (P ++ [(⟨lv, m⟩ : PlaceV)])).count x = q + 1 by unfold filesOf at *; rw [List.map_append, List.count_append, HQ.out]; simp [hx])
                have hxe : (m.file == x) = true := by simp [hx]
                clear hx
                go_quiet (fail)
                go_wp2_with fail
                refine ⟨⟨P ++ [(⟨lv, m⟩ : PlaceV)], B2, HP2.out, by simp, by rw [HCN.out]; go_num, HC8.out.drewN _⟩, by simp [intOf]; omega⟩
              · have HCN := Lib.hid (show (filesOf (P ++ [(⟨lv, m⟩ : PlaceV)])).count x = q by unfold filesOf at *; rw [List.map_append, List.count_append, HQ.out]; simp [hx])
                have hxe : (m.file == x) = false := by simp [hx]
                clear hx
                go_quiet (fail)
                go_wp2_with fail
                refine ⟨⟨P ++ [(⟨lv, m⟩ : PlaceV)], B2, HP2.out, by simp, by rw [HCN.out], HC8.out.drewN _⟩, by simp [intOf]; omega⟩
end Go.Proofs.Ytdjohhoofnogoaa
