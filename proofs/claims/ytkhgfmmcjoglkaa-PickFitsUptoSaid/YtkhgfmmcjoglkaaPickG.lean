/-
  The walk of PickFits.
-/
import Derived.Test.YtkhgfmmcjoglkaaPickE
import Derived.Test.YtkhgfmmcjoglkaaPickF
import Derived.Test.YtkhgfmmcjoglkaaPickP
import Derived.Test.YtkhgfmmcjoglkaaPickH
import Derived.IntWalk
namespace Go.Proofs.Ytkhgfmmcjoglkaa
open Go.RowKit
set_option linter.unusedVariables false
set_option linter.unusedSimpArgs false

set_option maxRecDepth 1000000 in
set_option maxHeartbeats 8000000 in
theorem pick_fits (A : Option Addr) (n c : Nat) (Ed : Nat → EditV) (z b r : Int) (hz : I64 z) (hb : I64 b) (hr : I64 r) (s0 s1 s2 s3 : ByteArray) (w : World) (hn : n ≤ c) (hc : c ≤ maxLen) (hE : EdsAt w A n Ed) (hF : ∀ i, i < n → EdFine (Ed i)) :
    Calls Try.prog 3 #[.slice A n c, .agg #[.int .i64 z, .int .i64 b, .int .i64 r], .agg #[.string s0, .string s1, .string s2, .string s3]] w fun e w' => e = .returned (.bool true) ∧ Chg (fun _ => False) w w' := by
  have hmm : ∀ w : World, (Instr.makeMap 42 none).run Try.prog w = .ok (.map (some w.heap.size)) (w.alloc (.map #[] 0)) := fun w => run_makeMap 42 w
  obtain ⟨w1, hw1⟩ : ∃ w1, w1 = (w.alloc (.cells #[.int .i64 z, .int .i64 b, .int .i64 r] 24)).alloc (.cells #[.string s0, .string s1, .string s2, .string s3] 25) := ⟨_, rfl⟩
  have hc1 : Chg (fun _ => False) w w1 := by rw [hw1]; ((repeat (first | exact Chg.refl _ _ | assumption | refine Chg.drewN ?_ _ | refine Chg.drew ?_ | refine Chg.alloc ?_ _ | refine Chg.setCell ?_ (by first | (simp; done) | (simp; omega) | (intro h; simp at h; omega)) _)))
  have hbl : Blk w1 w.heap.size 24 #[.int .i64 z, .int .i64 b, .int .i64 r] := by rw [hw1]; exact (Blk.new w _ _).alloc _
  have hbs : Blk w1 (w.heap.size + 1) 25 #[.string s0, .string s1, .string s2, .string s3] := by rw [hw1]; exact Blk.new1 w _ _ _
  have hE1 : EdsAt w1 A n Ed := fun h0 => by
    obtain ⟨b, off, e, hb, hr⟩ := hE h0
    refine ⟨b, off, e, Nat.lt_of_lt_of_le hb hc1.size, fun i hi => ?_⟩
    obtain ⟨av, dv, x0, x1, x2, x3, x4, hra, hrd⟩ := hr i hi
    exact ⟨av, dv, kd_chg hc1 x0, kd_chg hc1 x1, kd_chg hc1 x2, kd_chg hc1 x3, kd_chg hc1 x4, hra.same hc1, hrd.same hc1⟩
  have ha := lp_after A n c Ed w1 hn hc hE1 hF
  have HA := Lib.hid ha
  have HW1 := Lib.hid hw1
  have HC1 := Lib.hid hc1
  have HBL := Lib.hid hbl
  have HBS := Lib.hid hbs
  clear ha hE hF hw1 hc1 hbl hbs hE1
  go_enter Try.func3, Try.ntmps3
  go_upto_region 1 with fail
  rw [← HW1.out]
  go_wp2_with fail
  refine HA.out.mono ?_
  rintro e w2 ⟨S, a0, a1, a2, a3, av, n0, n1, n2, n3, nv, c0, c1, c2, c3, cv, hFine, hlen, rfl, hV, hR, hc2⟩
  obtain ⟨w3, hw3⟩ : ∃ w3, w3 = (w2.alloc (.cells #[.slice a0 n0 c0, .slice a1 n1 c1, .slice a2 n2 c2, .slice a3 n3 c3, .int .i64 S.log, .int .i64 S.next, .int .i64 S.seq] 29)).alloc (.cells #[.slice av nv cv, .int .i64 S.log, .int .i64 S.next, .int .i64 S.seq] 32) := ⟨_, rfl⟩
  have hc3 : Chg (fun _ => False) w2 w3 := by rw [hw3]; ((repeat (first | exact Chg.refl _ _ | assumption | refine Chg.drewN ?_ _ | refine Chg.drew ?_ | refine Chg.alloc ?_ _ | refine Chg.setCell ?_ (by first | (simp; done) | (simp; omega) | (intro h; simp at h; omega)) _)))
  have hbv : Blk w3 w2.heap.size 29 #[.slice a0 n0 c0, .slice a1 n1 c1, .slice a2 n2 c2, .slice a3 n3 c3, .int .i64 S.log, .int .i64 S.next, .int .i64 S.seq] := by rw [hw3]; exact (Blk.new w2 _ _).alloc _
  have hbl3 := HBL.out.chg (hc2.then hc3) (by simp)
  have hbs3 := HBS.out.chg (hc2.then hc3) (by simp)
  have hpk := pick_pick z b r hz hb hr s0 s1 s2 s3 _ _ _ _ S w3 (hV.same hc3) hlen
  have v0 := hbv.cell 0
  have v1 := hbv.cell 1
  have v2 := hbv.cell 2
  have v3 := hbv.cell 3
  have v4 := hbv.cell 4
  have v5 := hbv.cell 5
  have v6 := hbv.cell 6
  have u0 := hbl3.cell 0
  have u1 := hbl3.cell 1
  have u2 := hbl3.cell 2
  have t0 := hbs3.cell 0
  have t1 := hbs3.cell 1
  have t2 := hbs3.cell 2
  have t3 := hbs3.cell 3
  simp at v0 v1 v2 v3 v4 v5 v6 u0 u1 u2 t0 t1 t2 t3
  have HPK := Lib.hid hpk
  have HW3 := Lib.hid hw3
  have HV3 := Lib.hid (hV.same hc3)
  have HBV3 := Lib.hid hbv
  have HC3 := Lib.hid (HC1.out.then (hc2.then hc3))
  have HFINE := Lib.hid hFine
  have HLEN := Lib.hid hlen
  clear hpk hw3 hV hbv hc2 hc3 hFine hlen hR HA hbl3 hbs3
  go_upto_region 2 with fail
  rw [← HW3.out]
  go_wp2_with fail
  refine HPK.out.mono ?_
  rintro e w4 ⟨hc4, ⟨rfl, _⟩ | ⟨k, x, fr, fv, tv, bt, hk, hsub, rfl, hFv, hTv, _, _⟩⟩
  · have HC4 := Lib.hid (HC3.out.then hc4)
    clear hc4 v0 v1 v2 v3 v4 v5 v6 u0 u1 u2 t0 t1 t2 t3
    go_wp2_with fail
    refine (lp_wakes _).mono ?_
    rintro e w5 ⟨rfl, hc5⟩
    have HC5 := Lib.hid ((HC4.out.alloc _).then hc5)
    clear hc5
    go_wp2_with fail
    refine (lp_wakes _).mono ?_
    rintro e w6 ⟨rfl, hc6⟩
    have HC6 := Lib.hid (HC5.out.then hc6)
    clear hc6
    go_wp2_with fail
    go_ret
    exact ⟨rfl, HC6.out⟩
  · obtain ⟨TO, hTO⟩ : ∃ TO, oversV S ((k : Int) + 1) (loF x.lo (x :: fr)) (hiF x.hi (x :: fr)) = TO := ⟨_, rfl⟩
    rw [hTO] at hTv
    obtain ⟨fa, fc, ef, _⟩ := i64_form hFv
    rw [List.length_map, List.length_cons] at ef
    subst ef
    obtain ⟨ta, tc, et, _⟩ := i64_form hTv
    rw [List.length_map] at et
    subst et
    obtain ⟨w5, hw5⟩ : ∃ w5, w5 = w4.alloc (.cells #[.int .i64 (k : Int), .slice fa (fr.length + 1) fc, .slice ta TO.length tc, .bool bt] 37) := ⟨_, rfl⟩
    have hc5 : Chg (fun _ => False) w4 w5 := by rw [hw5]; ((repeat (first | exact Chg.refl _ _ | assumption | refine Chg.drewN ?_ _ | refine Chg.drew ?_ | refine Chg.alloc ?_ _ | refine Chg.setCell ?_ (by first | (simp; done) | (simp; omega) | (intro h; simp at h; omega)) _)))
    have hbj : Blk w5 w4.heap.size 37 #[.int .i64 (k : Int), .slice fa (fr.length + 1) fc, .slice ta TO.length tc, .bool bt] := by rw [hw5]; exact Blk.new _ _ _
    have HSUB := Lib.hid hsub
    have HTO := Lib.hid hTO
    have HFV := Lib.hid (hFv.same hc5)
    have HTV := Lib.hid (hTv.same hc5)
    have HBJ := Lib.hid hbj
    have HW5 := Lib.hid hw5
    have HBV5 := Lib.hid (HBV3.out.chg (hc4.then hc5) (by simp))
    have HV5 := Lib.hid (HV3.out.same (hc4.then hc5))
    have HC5 := Lib.hid (HC3.out.then (hc4.then hc5))
    clear hTO hsub hFv hTv hbj hw5 hc4 hc5 v0 v1 v2 v3 v4 v5 v6 u0 u1 u2 t0 t1 t2 t3
    go_upto_region 3 with fail
    rw [← HW5.out]
    go_wp2_with fail
    refine (lp_wakes _).mono ?_
    rintro e w6 ⟨rfl, hc6⟩
    have bj := HBJ.out.chg hc6 (by simp)
    have bv := HBV5.out.chg hc6 (by simp)
    have j0 := bj.cell 0
    have j1 := bj.cell 1
    have j2 := bj.cell 2
    have v5 := bv.cell 5
    have v4 := bv.cell 4
    have v6 := bv.cell 6
    simp at j0 j1 j2 v4 v5 v6
    have HBJ6 := Lib.hid bj
    have HBV6 := Lib.hid bv
    have HFV6 := Lib.hid (HFV.out.same hc6)
    have HTV6 := Lib.hid (HTV.out.same hc6)
    have HV6 := Lib.hid (HV5.out.same hc6)
    have HC6 := Lib.hid (HC5.out.then hc6)
    have hlf : ((fr.length : Int) + 1 == 0) = false := by simp; omega
    have hlf2 : ¬ ((fr.length : Int) + 1 = 0) := by omega
    have hk0 : (0 : Int) ≤ (k : Int) := by omega
    have hk3 : (k : Int) < 3 := by omega
    clear bj bv hc6
    by_cases hnx : 1152921504606846976 < S.next
    · go_wp2_with fail
      go_ret
      exact ⟨rfl, HC6.out⟩
    · obtain ⟨w7, hw7⟩ : ∃ w7, w7 = w6.alloc (.map #[] 0) := ⟨_, rfl⟩
      have hc7 : Chg (fun _ => False) w6 w7 := by rw [hw7]; ((repeat (first | exact Chg.refl _ _ | assumption | refine Chg.drewN ?_ _ | refine Chg.drew ?_ | refine Chg.alloc ?_ _ | refine Chg.setCell ?_ (by first | (simp; done) | (simp; omega) | (intro h; simp at h; omega)) _)))
      have hm7 : CntAt w7 w6.heap.size (fun _ => 0) := by rw [hw7]; exact CntAt.new w6
      obtain ⟨F, hF⟩ : ∃ F, (x :: fr).map (·.file) = F := ⟨_, rfl⟩
      obtain ⟨T, hT⟩ : ∃ T, TO.map (·.file) = T := ⟨_, rfl⟩
      obtain ⟨D, hD⟩ : ∃ D, F ++ T = D := ⟨_, rfl⟩
      have hFl : F.length = fr.length + 1 := by rw [← hF]; simp
      have hTl : T.length = TO.length := by rw [← hT]; simp
      have hDl : D.length = F.length + T.length := by rw [← hD]; simp
      have hDD : ((x :: fr) ++ TO).map (·.file) = D := by rw [List.map_append, hF, hT, hD]
      have hF1 : F.length ≤ 41943040 := by
        have h1 := HSUB.out.length_le
        have h2 := lv_len S k (by omega)
        have h3 := HLEN.out
        rw [List.length_cons] at h1
        omega
      have hT1 : T.length ≤ 41943040 := by
        have h1 : TO.length ≤ (S.lv (k + 1)).length := by rw [← HTO.out, overs_mem (by omega)]; exact List.length_filter_le _ _
        have h2 := lv_len S (k + 1) (by omega)
        have h3 := HLEN.out
        omega
      have hfv7 : Lst i64C w7 (.slice fa (fr.length + 1) fc) F := by rw [← hF]; exact HFV6.out.same hc7
      have htv7 : Lst i64C w7 (.slice ta TO.length tc) T := by rw [← hT]; exact HTV6.out.same hc7
      have hi64 : ∀ f ∈ D, I64 f := by rw [← hDD]; exact job_i64 HFINE.out (by omega) HSUB.out HTO.out
      have hq1 : w7.cell? ⟨w4.heap.size, 1, none⟩ = some (.slice fa (fr.length + 1) fc) := kd_chg hc7 j1
      have hq2 : w7.cell? ⟨w4.heap.size, 2, none⟩ = some (.slice ta TO.length tc) := kd_chg hc7 j2
      have HW7 := Lib.hid hw7
      have HC7 := Lib.hid hc7
      have HM7 := Lib.hid hm7
      have HFF := Lib.hid hF
      have HTT := Lib.hid hT
      have HDF := Lib.hid hD
      have HFL := Lib.hid hFl
      have HTL := Lib.hid hTl
      have HDL := Lib.hid hDl
      have HDD := Lib.hid hDD
      have HFV7 := Lib.hid hfv7
      have HTV7 := Lib.hid htv7
      have HI64 := Lib.hid hi64
      have hDb : D.length ≤ 83886080 := by omega
      have HWA := Lib.hid (show w2.heap.size < w6.heap.size from HBV6.out.lt)
      have HJA := Lib.hid (show w4.heap.size < w6.heap.size from HBJ6.out.lt)
      clear hw7 hc7 hm7 hF hT hD hFl hTl hDl hDD hfv7 htv7 hi64
      go_upto_region 9 with fail
      rw [← HW7.out]
      clear hmm j0 j1 j2 v4 v5 v6
      go_cut [72, 73, 74] (fun v l i wx => ∃ a c, v = .slice a D.length c ∧ l = .int .i64 D.length ∧ i = .int .i64 0 ∧ Lst i64C wx (.slice a D.length c) D ∧ Chg (fun _ => False) w7 wx)
      case first =>
        go_region_held3 (fun w' => Chg (fun _ => False) w7 w' ∧ w'.cell? ⟨w4.heap.size, 1, none⟩ = some (.slice fa (fr.length + 1) fc) ∧ w'.cell? ⟨w4.heap.size, 2, none⟩ = some (.slice ta TO.length tc))
          ((go_split_ands; (try dsimp only); (repeat' with_reducible apply And.intro) <;> (repeat (first | with_reducible assumption | with_reducible exact Chg.refl _ _ | with_reducible refine kc_drew ?_ | with_reducible refine kc_alloc _ ?_ | with_reducible refine kc_set (by simp <;> omega) ?_ | with_reducible refine Chg.drew ?_ | with_reducible refine Chg.alloc ?_ _ | with_reducible refine Chg.setCell ?_ (by first | (simp; done) | (simp; omega) | (intro h; simp at h; omega)) _))))
          (first | ((refine step_clone _ (by rfl) _ _ (by rfl) F (.slice fa (fr.length + 1) fc) (by rfl) (by rfl) (HFV7.out.ints.same (by go_split_ands; ((repeat (first | with_reducible assumption | with_reducible exact Chg.refl _ _ | with_reducible refine Chg.drew ?_ | with_reducible refine Chg.alloc ?_ _))))) (by omega) ?_); intro v8 w8 hO8 hc8 hb8; obtain ⟨a8, p8, e8, _⟩ := i64_form hO8; subst e8; have hW : Chg (fun _ => False) w7 w8 := Chg.then (by go_split_ands; ((repeat (first | with_reducible assumption | with_reducible exact Chg.refl _ _ | with_reducible refine Chg.drew ?_ | with_reducible refine Chg.alloc ?_ _)))) hc8; have hs1 := kd_chg hW hq1; have hs2 := kd_chg hW hq2; have HO8 := Lib.hid hO8; have HB8 := Lib.hid (show ∀ k, (Value.slice a8 F.length p8).ownBlock = some k → w7.heap.size ≤ k from fun k hk => Nat.le_trans (show w7.heap.size ≤ _ from (show Chg (fun _ => False) w7 _ from (by go_split_ands; ((repeat (first | with_reducible assumption | with_reducible exact Chg.refl _ _ | with_reducible refine Chg.drew ?_ | with_reducible refine Chg.alloc ?_ _))))).size) (hb8 k hk)); clear hO8 hb8 hc8) | ((refine step_join _ (by rfl) _ _ (by rfl) F T (.slice a8 F.length p8) (.slice ta TO.length tc) (by rfl) (by rfl) (HO8.out.same (by ((repeat (first | with_reducible exact Chg.refl _ _ | with_reducible assumption | with_reducible refine Chg.drewN ?_ _ | with_reducible refine Chg.drew ?_ | with_reducible refine Chg.alloc ?_ _ | with_reducible refine Chg.setCell ?_ (by first | (simp; done) | (simp; omega) | (intro h; simp at h; omega)) _))))) (HTV7.out.ints.same (by go_split_ands; ((repeat (first | with_reducible assumption | with_reducible exact Chg.refl _ _ | with_reducible refine Chg.drew ?_ | with_reducible refine Chg.alloc ?_ _))))) (by omega) (by omega) ?_); intro v9 w9 hO9 hc9 hb9; rw [HDF.out] at hO9; obtain ⟨a9, p9, e9, _⟩ := i64_form hO9; subst e9; have hW : Chg (fun _ => False) w7 w9 := (show Chg (fun _ => False) w7 _ from (by go_split_ands; ((repeat (first | with_reducible assumption | with_reducible exact Chg.refl _ _ | with_reducible refine Chg.drew ?_ | with_reducible refine Chg.alloc ?_ _))))).trans hc9 (fun k hk e => absurd (HB8.out k e) (by omega)); have hs1 := kd_chg hW hq1; have hs2 := kd_chg hW hq2; have HO9 := Lib.hid hO9; clear hO9 hb9 hc9))
        all_goals
          have HWW := Lib.hid hW
          clear hW
          go_wp2_with fail
          go_meet
          exact ⟨_, _, rfl, rfl, rfl, HO9.out, HWW.out⟩
      case rest =>
        obtain ⟨da, dc, rfl, rfl, rfl, hD8, hc8⟩ := hcut
        obtain ⟨w8, rfl⟩ : ∃ w8 : World, w8 = wc := ⟨_, rfl⟩
        have hm8 := HM7.out.same hc8
        have hc68 := HC7.out.then hc8
        obtain ⟨a', c', e', _, _, hread⟩ := i64_form hD8
        cases e'
        have HREAD := Lib.hid hread
        have HD8 := Lib.hid hD8
        have HM8 := Lib.hid hm8
        have HC68 := Lib.hid hc68
        clear hq1 hq2 hD8 hc8 hm8 hc68 hread
        go_wp2_with fail
        go_loopw [74] (fun i wr => ∃ A R, D = A ++ R ∧ i = .int .i64 A.length ∧ CntAt wr w6.heap.size (fun y => A.count y) ∧ Chg (fun j => j = w6.heap.size) w8 wr) (fun i _ => D.length - (intOf i).toNat)
        case atStart => exact ⟨[], D, rfl, rfl, by simpa using HM8.out, Chg.refl _ _⟩
        case round =>
          obtain ⟨A, R, hL, rfl, hM, hcr⟩ := hrel
          have hAl : A.length ≤ D.length := by rw [hL]; simp
          cases R with
          | cons y B =>
            obtain ⟨b, rfl, hb, hown, z0⟩ := HREAD.out A y B hL
            obtain ⟨bcs, hbb⟩ := HD8.out.typed hown
            have hne : ¬ b = w6.heap.size := fun e => HM8.out.ne_ hbb e.symm
            have z0 := (hcr.cell (p := ⟨b, _, none⟩) hb (by simpa using hne)).trans z0
            have hi := HI64.out y (by rw [hL]; simp)
            obtain ⟨cn, hcn⟩ : ∃ c, A.count y = c := ⟨_, rfl⟩
            have hcl : cn ≤ A.length := by rw [← hcn]; exact List.count_le_length
            have hlk : (Instr.lookup 42 (.map (some w6.heap.size)) (.int .i64 y) false).run Try.prog wr = .ok (.int .i64 (cn : Int)) wr := by rw [← hcn]; exact hM.look hi
            obtain ⟨w9, hup, hM9, hc9, hs9⟩ := hM.bump hi
            have hup : (Instr.mapUpdate 42 (.map (some w6.heap.size)) (.int .i64 y) (.int .i64 ((cn : Int) + 1))).run Try.prog wr = .ok () w9 := by rw [← hcn]; exact hup
            rw [bump_count] at hM9
            have hlt : (A.length : Int) < (D.length : Int) := by rw [hL]; simp; omega
            have hge : (0 : Int) ≤ (A.length : Int) := by omega
            have hL2 : D = (A ++ [y]) ++ B := by rw [hL]; simp
            have HL2 := Lib.hid hL2
            have HM9 := Lib.hid hM9
            have HC9 := Lib.hid (hcr.then hc9)
            obtain ⟨a, ha⟩ : ∃ a, A.length = a := ⟨_, rfl⟩
            have hcb : (cn : Int) ≤ 83886080 := by omega
            have hc0 : (0 : Int) ≤ (cn : Int) := by omega
            rw [ha] at hge hlt z0 ⊢
            have HAL := Lib.hid ha
            clear hL hL2 hM hM9 hcr hc9 ha hcn hcl hs9 hbb hown hi hne hAl
            go_wp2_with fail
            go_roundw
            case rel => exact ⟨A ++ [y], B, HL2.out, by rw [List.length_append, HAL.out]; rfl, HM9.out, HC9.out⟩
            case measure => simp [intOf]; omega
          | nil =>
            have hge : ¬ ((A.length : Int) < (D.length : Int)) := by rw [hL]; simp
            have hA : D = A := by rw [hL]; simp
            have hMD : CntAt wr w6.heap.size (fun y => D.count y) := by rw [hA]; exact hM
            have hc69 : Chg (fun _ => False) w6 wr := HC68.out.own hcr (Nat.le_refl _)
            have hD9 : Lst i64C wr (.slice da D.length dc) D := HD8.out.chg hcr fun k hk e => by
              obtain ⟨cs, hbk⟩ := HD8.out.typed hk
              exact HM8.out.ne_ hbk e.symm
            have hbv9 := HBV6.out.chg hc69 (by simp)
            have hV9 := HV6.out.same hc69
            have hcw9 := HC6.out.then hc69
            have y0 := hbv9.cell 0
            have y1 := hbv9.cell 1
            have y2 := hbv9.cell 2
            have y3 := hbv9.cell 3
            simp at y0 y1 y2 y3
            have HC69 := Lib.hid hc69
            have HMD := Lib.hid hMD
            have HD9 := Lib.hid hD9
            have HBV9 := Lib.hid hbv9
            have HV9 := Lib.hid hV9
            have HCW9 := Lib.hid hcw9
            have HIX := Lib.hid (fun (k : Nat) (hk : k < 4) (w : World) => show (Instr.index 27 (.agg #[.slice a0 n0 c0, .slice a1 n1 c1, .slice a2 n2 c2, .slice a3 n3 c3]) (.int .i64 (k : Int))).run Try.prog w = .ok (Lv (.slice a0 n0 c0) (.slice a1 n1 c1) (.slice a2 n2 c2) (.slice a3 n3 c3) k) w from run_index4 (Lv (.slice a0 n0 c0) (.slice a1 n1 c1) (.slice a2 n2 c2) (.slice a3 n3 c3)) hk w)
            obtain ⟨w9, rfl⟩ : ∃ w9 : World, w9 = wr := ⟨_, rfl⟩
            clear hL hA hM hMD hcr hc69 hD9 hbv9 hV9 hcw9 hAl
            go_wp2_with fail
            go_loopw [12, 13, 14, 85] (fun lo hi so i wr => ∃ (j : Nat) (Q : List MetaV) (bs : Bool), j ≤ 4 ∧ i = .int .i64 j ∧ takenM D (upToM S j) = Q ∧ lo = .string (loS Q) ∧ hi = .string (hiS Q) ∧ so = .bool bs ∧ bs = !Q.isEmpty ∧ Chg (fun _ => False) w9 wr) (fun _ _ _ i _ => 4 - (intOf i).toNat)
            case atStart => exact ⟨0, [], false, by omega, rfl, rfl, rfl, rfl, rfl, rfl, Chg.refl _ _⟩
            case round =>
              obtain ⟨j, Q0, bs0, hj4, rfl, hQ0, rfl, rfl, rfl, hbs0, hcr⟩ := hrel
              by_cases hlt : j < 4
              · have hix := HIX.out j hlt
                obtain ⟨la, lc, hLv, hlc, hln, hread2⟩ := meta_form (HV9.out j hlt)
                rw [hLv] at hix
                have hlj : (S.lv j).length ≤ 41943040 := Nat.le_trans (lv_len S j hlt) HLEN.out
                have hlt' : (j : Int) < 4 := by omega
                have HR2 := Lib.hid hread2
                have HLV := Lib.hid hLv
                have HCR := Lib.hid hcr
                have HQ0 := Lib.hid hQ0
                have HBS0 := Lib.hid hbs0
                obtain ⟨wo, rfl⟩ : ∃ wo : World, wo = wr := ⟨_, rfl⟩
                clear hread2 hLv hcr hQ0 hbs0
                go_wp2_with fail
                go_loopw [12, 13, 14, 90] (fun lo hi so i wr => ∃ (A R Q : List MetaV) (bs : Bool), S.lv j = A ++ R ∧ i = .int .i64 A.length ∧ takenM D (upToM S j ++ A) = Q ∧ lo = .string (loS Q) ∧ hi = .string (hiS Q) ∧ so = .bool bs ∧ bs = !Q.isEmpty ∧ Chg (fun _ => False) w9 wr) (fun _ _ _ i _ => (S.lv j).length - (intOf i).toNat)
                case atStart => exact ⟨[], S.lv j, Q0, bs0, rfl, rfl, by simpa using HQ0.out, rfl, rfl, rfl, HBS0.out, HCR.out⟩
                case round =>
                  obtain ⟨A, R, Q, bs, hfk, rfl, hQ, rfl, rfl, rfl, hbs, hcr2⟩ := hrel
                  have hAl : A.length ≤ (S.lv j).length := by rw [hfk]; simp
                  cases R with
                  | nil =>
                    have hge : ¬ ((A.length : Int) < ((S.lv j).length : Int)) := by rw [hfk]; simp
                    have hend : takenM D (upToM S (j + 1)) = Q := by rw [← hQ]; show takenM D (upToM S j ++ S.lv j) = _; rw [hfk, List.append_nil]
                    have HE := Lib.hid hend
                    have HC2 := Lib.hid hcr2
                    have HBS := Lib.hid hbs
                    clear hfk hQ hbs hcr2 hend
                    go_wp2_with fail
                    go_roundw
                    case rel => exact ⟨j + 1, Q, bs, by omega, by go_num, HE.out, rfl, rfl, rfl, HBS.out, HC2.out⟩
                    case measure => simp [intOf]; omega
                  | cons m B =>
                    obtain ⟨b, rfl, hb, hown, z0, z1, z2, z3⟩ := HR2.out A m B hfk
                    have z0 := kd_chg hcr2 z0
                    have z1 := kd_chg hcr2 z1
                    have z2 := kd_chg hcr2 z2
                    have z3 := kd_chg hcr2 z3
                    have hi : I64 m.file := by
                      obtain ⟨_, h2, h3⟩ := HFINE.out.good.ends j hlt m (by rw [hfk]; simp)
                      have := HFINE.out.nx
                      unfold I64 at *
                      omega
                    obtain ⟨w5, hw5⟩ : ∃ w5, w5 = wr.alloc (.cells #[.int .i64 m.file, .int .i64 m.size, .string m.lo, .string m.hi] 44) := ⟨_, rfl⟩
                    have hc5 : Chg (fun _ => False) wr w5 := by rw [hw5]; ((repeat (first | exact Chg.refl _ _ | assumption | refine Chg.drewN ?_ _ | refine Chg.drew ?_ | refine Chg.alloc ?_ _ | refine Chg.setCell ?_ (by first | (simp; done) | (simp; omega) | (intro h; simp at h; omega)) _)))
                    have bx : Blk w5 wr.heap.size 44 #[.int .i64 m.file, .int .i64 m.size, .string m.lo, .string m.hi] := by rw [hw5]; exact Blk.new _ _ _
                    have hc95 := hcr2.then hc5
                    obtain ⟨cn, hcn⟩ : ∃ c, D.count m.file = c := ⟨_, rfl⟩
                    have hlk : (Instr.lookup 42 (.map (some w6.heap.size)) (.int .i64 m.file) false).run Try.prog w5 = .ok (.int .i64 (cn : Int)) w5 := by rw [← hcn]; exact (HMD.out.same hc95).look hi
                    have i0 := bx.cell 0
                    have i2 := bx.cell 2
                    have i3 := bx.cell 3
                    simp at i0 i2 i3
                    have hge : (0 : Int) ≤ (A.length : Int) := by omega
                    have hlt2 : (A.length : Int) < ((S.lv j).length : Int) := by rw [hfk]; simp; omega
                    have hf2 : S.lv j = (A ++ [m]) ++ B := by rw [hfk]; simp
                    have hltA : A.length < (S.lv j).length := by omega
                    have hend0 : D.count m.file = 0 → takenM D (upToM S j ++ (A ++ [m])) = Q := fun h => by rw [← List.append_assoc, taken_no _ _ _ h]; exact hQ
                    have hend1 : D.count m.file ≠ 0 → takenM D (upToM S j ++ (A ++ [m])) = Q ++ [m] := fun h => by rw [← List.append_assoc, taken_yes _ _ _ h, hQ]
                    rw [hcn] at hend0 hend1
                    have HE0 := Lib.hid hend0
                    have HE1 := Lib.hid hend1
                    have HF2 := Lib.hid hf2
                    have HW5 := Lib.hid hw5
                    have HC95 := Lib.hid hc95
                    have HBS := Lib.hid hbs
                    obtain ⟨a, ha⟩ : ∃ a, A.length = a := ⟨_, rfl⟩
                    rw [ha] at hge hlt2 hltA z0 z1 z2 z3 ⊢
                    have HAL := Lib.hid ha
                    clear hf2 hfk hw5 hc5 bx hc95 hcr2 hend0 hend1 hQ hcn ha hAl hi hbs hown
                    by_cases hz : cn = 0
                    · have HE := Lib.hid (HE0.out hz)
                      rw [hz, show ((0 : Nat) : Int) = 0 from rfl] at hlk
                      clear hz
                      go_upto_region 20 with fail
                      rw [← HW5.out]
                      go_wp2_with fail
                      go_roundw
                      case rel => exact ⟨A ++ [m], B, Q, bs, HF2.out, by rw [List.length_append, HAL.out]; rfl, HE.out, rfl, rfl, rfl, HBS.out, HC95.out⟩
                      case measure => simp [intOf]; omega
                    · have HE := Lib.hid (HE1.out hz)
                      have hcp : (0 : Int) < (cn : Int) := by omega
                      clear hz
                      have hm1 : ∀ t ts a b w, (Builtin.min_ ts t #[.string a, .string b]).run Try.prog w = .ok (.string (smin a b)) w := fun t ts a b w => run_min_str t ts a b w
                      have hm2 : ∀ t ts a b w, (Builtin.max_ ts t #[.string a, .string b]).run Try.prog w = .ok (.string (smax a b)) w := fun t ts a b w => run_max_str t ts a b w
                      cases Q with
                      | nil =>
                        obtain rfl : bs = false := HBS.out
                        go_upto_region 20 with fail
                        rw [← HW5.out]
                        go_upto_region 22 with fail
                        go_quiet (fail)
                        go_wp2_with fail
                        go_quiet (fail)
                        go_wp2_with fail
                        refine ⟨⟨A ++ [m], B, [m], true, HF2.out, by rw [List.length_append, HAL.out]; rfl, HE.out, rfl, rfl, rfl, rfl, by have := HC95.out; ((repeat (first | exact Chg.refl _ _ | assumption | refine Chg.drewN ?_ _ | refine Chg.drew ?_ | refine Chg.alloc ?_ _ | refine Chg.setCell ?_ (by first | (simp; done) | (simp; omega) | (intro h; simp at h; omega)) _)))⟩, by simp [intOf]; omega⟩
                      | cons q Q' =>
                        obtain rfl : bs = true := HBS.out
                        obtain ⟨s1, hs1⟩ : ∃ s, loS (q :: Q') = s := ⟨_, rfl⟩
                        obtain ⟨s2, hs2⟩ : ∃ s, hiS (q :: Q') = s := ⟨_, rfl⟩
                        rw [hs1, hs2]
                        have HS1 := Lib.hid (show loS (q :: Q' ++ [m]) = smin s1 m.lo by rw [loS_snoc, hs1])
                        have HS2 := Lib.hid (show hiS (q :: Q' ++ [m]) = smax s2 m.hi by rw [hiS_snoc, hs2])
                        clear hs1 hs2
                        go_upto_region 20 with fail
                        rw [← HW5.out]
                        go_wp2_with fail
                        go_quiet (fail)
                        go_wp2_with fail
                        refine ⟨⟨A ++ [m], B, q :: Q' ++ [m], true, HF2.out, by rw [List.length_append, HAL.out]; rfl, HE.out, by rw [HS1.out], by rw [HS2.out], rfl, rfl, by have := HC95.out; ((repeat (first | exact Chg.refl _ _ | assumption | refine Chg.drewN ?_ _ | refine Chg.drew ?_ | refine Chg.alloc ?_ _ | refine Chg.setCell ?_ (by first | (simp; done) | (simp; omega) | (intro h; simp at h; omega)) _)))⟩, by simp [intOf]; omega⟩
              · obtain rfl : j = 4 := by omega
                rw [upToM_all] at hQ0
                obtain ⟨q, Q, hQ⟩ := job_some (by omega) HSUB.out HTO.out
                rw [HDD.out, hQ0] at hQ
                have hb0 : bs0 = true := by rw [hbs0, hQ]; rfl
                subst hb0
                have hok : okV S (jobE S k D (loS Q0) (hiS Q0)) := by
                  have := job_fits HFINE.out.good HFINE.out.log0 HFINE.out.next0 (by omega) HSUB.out HTO.out
                  rw [HDD.out, hQ0] at this
                  exact this
                obtain ⟨LO, hLO⟩ : ∃ s, loS Q0 = s := ⟨_, rfl⟩
                obtain ⟨HI, hHI⟩ : ∃ s, hiS Q0 = s := ⟨_, rfl⟩
                rw [hLO, hHI] at hok ⊢
                obtain ⟨w10, rfl⟩ : ∃ w10 : World, w10 = wr := ⟨_, rfl⟩
                have hc610 := HC69.out.then hcr
                have hbj := HBJ6.out.chg hc610 (by simp)
                have hbv := HBV9.out.chg hcr (by simp)
                have p0 := hbj.cell 0
                have p1 := hbj.cell 1
                have p2 := hbj.cell 2
                have r4 := hbv.cell 4
                have r5 := hbv.cell 5
                have r6 := hbv.cell 6
                simp at p0 p1 p2 r4 r5 r6
                have hfv : Lst i64C w10 (.slice fa (fr.length + 1) fc) F := by rw [← HFF.out]; exact HFV6.out.same hc610
                have htv : Lst i64C w10 (.slice ta TO.length tc) T := by rw [← HTT.out]; exact HTV6.out.same hc610
                have hFT : F.length + T.length ≤ 41943040 := by
                  have h1 := HSUB.out.length_le
                  have h2 : TO.length ≤ (S.lv (k + 1)).length := by rw [← HTO.out, overs_mem (by omega)]; exact List.length_filter_le _ _
                  have h3 := lv_two S (k := k) (by omega)
                  have h4 := HLEN.out
                  have h5 := HFL.out
                  have h6 := HTL.out
                  rw [List.length_cons] at h1
                  omega
                have hDb2 : D.length ≤ 41943040 := by have := HDL.out; omega
                have hwk : IntKind.i64.wrap ((k : Int) + 1) = (k : Int) + 1 := IntWalk.i64_in _ (by omega)
                have hnx0 := HFINE.out.next0
                have hwn : IntKind.i64.wrap (S.next + 1) = S.next + 1 := IntWalk.i64_in _ (by omega)
                have hj10 : w4.heap.size < w10.heap.size := Nat.lt_of_lt_of_le HJA.out hc610.size
                have hw10 : w2.heap.size < w10.heap.size := Nat.lt_of_lt_of_le HWA.out hc610.size
                have HFVX := Lib.hid hfv
                have HTVX := Lib.hid htv
                have HBVX := Lib.hid hbv
                have HVX := Lib.hid (HV9.out.same hcr)
                have HCX := Lib.hid (HCW9.out.then hcr)
                have HOK := Lib.hid hok
                clear hQ0 hQ hbs0 hok hLO hHI hc610 hbj hbv hfv htv hcr hlt y0 y1 y2 y3
                go_upto_region 26 with fail
                go_cut [21] (fun p wx => ∃ (g gA : Nat) (a8 : Option Addr) (c8 : Nat), p = .pointer (some ⟨g, 0, none⟩) ∧ w10.heap.size ≤ g ∧ Blk wx g 49 #[.slice (some ⟨gA, 0, none⟩) 1 1, .slice a8 D.length c8, .int .i64 S.log, .int .i64 (S.next + 1), .int .i64 S.seq] ∧ Lst placeC wx (.slice (some ⟨gA, 0, none⟩) 1 1) [⟨(k : Int) + 1, ⟨S.next, 0, LO, HI⟩⟩] ∧ Lst i64C wx (.slice a8 D.length c8) D ∧ Chg (fun _ => False) w10 wx)
                case first =>
                  go_region_held3 (fun w' => Chg (fun _ => False) w10 w' ∧ w'.cell? ⟨w4.heap.size, 0, none⟩ = some (.int .i64 (k : Int)) ∧ w'.cell? ⟨w4.heap.size, 1, none⟩ = some (.slice fa (fr.length + 1) fc) ∧ w'.cell? ⟨w4.heap.size, 2, none⟩ = some (.slice ta TO.length tc) ∧ w'.cell? ⟨w2.heap.size, 4, none⟩ = some (.int .i64 S.log) ∧ w'.cell? ⟨w2.heap.size, 5, none⟩ = some (.int .i64 S.next) ∧ w'.cell? ⟨w2.heap.size, 6, none⟩ = some (.int .i64 S.seq))
                    ((go_split_ands; (try dsimp only); (repeat' with_reducible apply And.intro) <;> (repeat (first | with_reducible assumption | with_reducible exact Chg.refl _ _ | with_reducible refine kc_drew ?_ | with_reducible refine kc_alloc _ ?_ | with_reducible refine kc_set (by simp <;> omega) ?_ | with_reducible refine Chg.drew ?_ | with_reducible refine Chg.alloc ?_ _ | with_reducible refine Chg.setCell ?_ (by first | (simp; done) | (simp; omega) | (intro h; simp at h; omega)) _))))
                    (first | ((refine step_clone _ (by rfl) _ _ (by rfl) F (.slice fa (fr.length + 1) fc) (by rfl) (by rfl) (HFVX.out.ints.same (by go_split_ands; ((repeat (first | with_reducible assumption | with_reducible exact Chg.refl _ _ | with_reducible refine Chg.drew ?_ | with_reducible refine Chg.alloc ?_ _))))) (by omega) ?_); intro v8 w8 hO8 hc8 hb8; obtain ⟨a8, p8, e8, _⟩ := i64_form hO8; subst e8; have hW : Chg (fun _ => False) w10 w8 := Chg.then (by go_split_ands; ((repeat (first | with_reducible assumption | with_reducible exact Chg.refl _ _ | with_reducible refine Chg.drew ?_ | with_reducible refine Chg.alloc ?_ _)))) hc8; have hs8 : w10.heap.size ≤ w8.heap.size := hW.size; have HB8 := Lib.hid (show ∀ k, (Value.slice a8 F.length p8).ownBlock = some k → w10.heap.size ≤ k from fun k hk => Nat.le_trans (show w10.heap.size ≤ _ from (show Chg (fun _ => False) w10 _ from (by go_split_ands; ((repeat (first | with_reducible assumption | with_reducible exact Chg.refl _ _ | with_reducible refine Chg.drew ?_ | with_reducible refine Chg.alloc ?_ _))))).size) (hb8 k hk)); (first | (with_reducible (have hzA := fst_new1 (t := 46) (cs := #[.int .i64 ((k : Int) + 1), .int .i64 S.next, .int .i64 0, .string LO, .string HI]) hc8)) | (with_reducible (have hzA := fst_alloc (t := 46) (cs := #[.int .i64 ((k : Int) + 1), .int .i64 S.next, .int .i64 0, .string LO, .string HI]) hc8)) | (with_reducible (have hzA := fst_new (t := 46) (cs := #[.int .i64 ((k : Int) + 1), .int .i64 S.next, .int .i64 0, .string LO, .string HI]) hc8)) | skip); (first | (with_reducible (have hzB := fst_new1 (t := 49) (cs := #[.slice none 0 0, .slice none 0 0, .int .i64 0, .int .i64 0, .int .i64 0]) hc8); have z0 := hzB.cell 0; have z1 := hzB.cell 1; have z2 := hzB.cell 2; have z3 := hzB.cell 3; have z4 := hzB.cell 4; have fz0 := hzB.frozen 0; have fz1 := hzB.frozen 1; have fz2 := hzB.frozen 2; have fz3 := hzB.frozen 3; have fz4 := hzB.frozen 4; simp at z0 z1 z2 z3 z4; have hltB := hzB.lt) | (with_reducible (have hzB := fst_alloc (t := 49) (cs := #[.slice none 0 0, .slice none 0 0, .int .i64 0, .int .i64 0, .int .i64 0]) hc8); have z0 := hzB.cell 0; have z1 := hzB.cell 1; have z2 := hzB.cell 2; have z3 := hzB.cell 3; have z4 := hzB.cell 4; have fz0 := hzB.frozen 0; have fz1 := hzB.frozen 1; have fz2 := hzB.frozen 2; have fz3 := hzB.frozen 3; have fz4 := hzB.frozen 4; simp at z0 z1 z2 z3 z4; have hltB := hzB.lt) | (with_reducible (have hzB := fst_new (t := 49) (cs := #[.slice none 0 0, .slice none 0 0, .int .i64 0, .int .i64 0, .int .i64 0]) hc8); have z0 := hzB.cell 0; have z1 := hzB.cell 1; have z2 := hzB.cell 2; have z3 := hzB.cell 3; have z4 := hzB.cell 4; have fz0 := hzB.frozen 0; have fz1 := hzB.frozen 1; have fz2 := hzB.frozen 2; have fz3 := hzB.frozen 3; have fz4 := hzB.frozen 4; simp at z0 z1 z2 z3 z4; have hltB := hzB.lt) | skip); have sp0 := kd_chg hW p0; have sp1 := kd_chg hW p1; have sp2 := kd_chg hW p2; have sr4 := kd_chg hW r4; have sr5 := kd_chg hW r5; have sr6 := kd_chg hW r6; have HO8 := Lib.hid hO8; clear hO8 hb8 hc8) | ((refine step_join _ (by rfl) _ _ (by rfl) F T (.slice a8 F.length p8) (.slice ta TO.length tc) (by rfl) (by rfl) (HO8.out.same (by ((repeat (first | with_reducible exact Chg.refl _ _ | with_reducible assumption | with_reducible refine Chg.drewN ?_ _ | with_reducible refine Chg.drew ?_ | with_reducible refine Chg.alloc ?_ _ | with_reducible refine Chg.setCell ?_ (by first | (simp; done) | (simp; omega) | (intro h; simp at h; omega)) _))))) (HTVX.out.ints.same (by go_split_ands; ((repeat (first | with_reducible assumption | with_reducible exact Chg.refl _ _ | with_reducible refine Chg.drew ?_ | with_reducible refine Chg.alloc ?_ _))))) (by omega) (by omega) ?_); intro v9 w11 hO9 hc9 hb9; rw [HDF.out] at hO9; obtain ⟨a9, p9, e9, _⟩ := i64_form hO9; subst e9; have hW : Chg (fun _ => False) w10 w11 := (show Chg (fun _ => False) w10 _ from (by go_split_ands; ((repeat (first | with_reducible assumption | with_reducible exact Chg.refl _ _ | with_reducible refine Chg.drew ?_ | with_reducible refine Chg.alloc ?_ _))))).trans hc9 (fun k hk e => absurd (HB8.out k e) (by omega)); have hs11 : w10.heap.size ≤ w11.heap.size := hW.size; (first | (with_reducible (have hzA := past_old hzA hc9 ne_place HO8.out)) | (with_reducible (have hzA := past_old1 hzA hc9 ne_place HO8.out)) | (with_reducible (have hzA := past_new1 (t := 46) (cs := #[.int .i64 ((k : Int) + 1), .int .i64 S.next, .int .i64 0, .string LO, .string HI]) hc9 ne_place HO8.out)) | (with_reducible (have hzA := past_alloc (t := 46) (cs := #[.int .i64 ((k : Int) + 1), .int .i64 S.next, .int .i64 0, .string LO, .string HI]) hc9 ne_place HO8.out)) | (with_reducible (have hzA := past_new (t := 46) (cs := #[.int .i64 ((k : Int) + 1), .int .i64 S.next, .int .i64 0, .string LO, .string HI]) hc9 ne_place HO8.out)) | skip); (first | (with_reducible (have hzB := past_old hzB hc9 ne_edit HO8.out); have z0 := hzB.cell 0; have z1 := hzB.cell 1; have z2 := hzB.cell 2; have z3 := hzB.cell 3; have z4 := hzB.cell 4; have fz0 := hzB.frozen 0; have fz1 := hzB.frozen 1; have fz2 := hzB.frozen 2; have fz3 := hzB.frozen 3; have fz4 := hzB.frozen 4; simp at z0 z1 z2 z3 z4; have hltB := hzB.lt) | (with_reducible (have hzB := past_old1 hzB hc9 ne_edit HO8.out); have z0 := hzB.cell 0; have z1 := hzB.cell 1; have z2 := hzB.cell 2; have z3 := hzB.cell 3; have z4 := hzB.cell 4; have fz0 := hzB.frozen 0; have fz1 := hzB.frozen 1; have fz2 := hzB.frozen 2; have fz3 := hzB.frozen 3; have fz4 := hzB.frozen 4; simp at z0 z1 z2 z3 z4; have hltB := hzB.lt) | (with_reducible (have hzB := past_new1 (t := 49) (cs := #[.slice none 0 0, .slice none 0 0, .int .i64 0, .int .i64 0, .int .i64 0]) hc9 ne_edit HO8.out); have z0 := hzB.cell 0; have z1 := hzB.cell 1; have z2 := hzB.cell 2; have z3 := hzB.cell 3; have z4 := hzB.cell 4; have fz0 := hzB.frozen 0; have fz1 := hzB.frozen 1; have fz2 := hzB.frozen 2; have fz3 := hzB.frozen 3; have fz4 := hzB.frozen 4; simp at z0 z1 z2 z3 z4; have hltB := hzB.lt) | (with_reducible (have hzB := past_alloc (t := 49) (cs := #[.slice none 0 0, .slice none 0 0, .int .i64 0, .int .i64 0, .int .i64 0]) hc9 ne_edit HO8.out); have z0 := hzB.cell 0; have z1 := hzB.cell 1; have z2 := hzB.cell 2; have z3 := hzB.cell 3; have z4 := hzB.cell 4; have fz0 := hzB.frozen 0; have fz1 := hzB.frozen 1; have fz2 := hzB.frozen 2; have fz3 := hzB.frozen 3; have fz4 := hzB.frozen 4; simp at z0 z1 z2 z3 z4; have hltB := hzB.lt) | (with_reducible (have hzB := past_new (t := 49) (cs := #[.slice none 0 0, .slice none 0 0, .int .i64 0, .int .i64 0, .int .i64 0]) hc9 ne_edit HO8.out); have z0 := hzB.cell 0; have z1 := hzB.cell 1; have z2 := hzB.cell 2; have z3 := hzB.cell 3; have z4 := hzB.cell 4; have fz0 := hzB.frozen 0; have fz1 := hzB.frozen 1; have fz2 := hzB.frozen 2; have fz3 := hzB.frozen 3; have fz4 := hzB.frozen 4; simp at z0 z1 z2 z3 z4; have hltB := hzB.lt) | skip); have sp0 := kd_chg hW p0; have sp1 := kd_chg hW p1; have sp2 := kd_chg hW p2; have sr4 := kd_chg hW r4; have sr5 := kd_chg hW r5; have sr6 := kd_chg hW r6; have HO9 := Lib.hid hO9; clear hO9 hb9 hc9))
                  all_goals
                    have HWW := Lib.hid hW
                    (try (have HZA := Lib.hid hzA; clear hzA))
                    (try (have HZB := Lib.hid hzB; clear hzB))
                    clear hW
                    have hleaf : True := True.intro
                    go_wp2_with fail
                    go_meet
                    first
                      | with_reducible exact leaf1 HZB.out HZA.out HO9.out HWW.out (by omega)
                      | with_reducible exact leaf5 HZB.out HO9.out HWW.out (by omega)
                      | with_reducible exact leaf2 HZA.out HO9.out HWW.out
                      | with_reducible exact leaf3 HO9.out HWW.out
                      | with_reducible exact leaf4 HO9.out HWW.out
                case rest =>
                  obtain ⟨g, gA, a8, c8, rfl, hg, hbe, hLA, hLD, hcz⟩ := hcut
                  obtain ⟨w11, rfl⟩ : ∃ w11 : World, w11 = wc := ⟨_, rfl⟩
                  have hbv := HBVX.out.chg hcz (by simp)
                  have y0 := hbv.cell 0
                  have y1 := hbv.cell 1
                  have y2 := hbv.cell 2
                  have y3 := hbv.cell 3
                  have y4 := hbv.cell 4
                  have y5 := hbv.cell 5
                  have y6 := hbv.cell 6
                  have x0 := hbe.cell 0
                  have x1 := hbe.cell 1
                  have x2 := hbe.cell 2
                  have x3 := hbe.cell 3
                  have x4 := hbe.cell 4
                  simp at y0 y1 y2 y3 y4 y5 y6 x0 x1 x2 x3 x4
                  have hap := va_big S (jobE S k D LO HI) (.slice a0 n0 c0) (.slice a1 n1 c1) (.slice a2 n2 c2) (.slice a3 n3 c3) (.slice (some ⟨gA, 0, none⟩) 1 1) (.slice a8 D.length c8) w11 HFINE.out (job_edok HFINE.out HI64.out LO HI) (HVX.out.same hcz) (by simpa [jobE] using hLA) hLD HLEN.out (by simp [jobE]) (by show D.length ≤ 50000000; omega) HOK.out
                  have HAP := Lib.hid hap
                  have HCY := Lib.hid (HCX.out.then hcz)
                  clear hap hbv hbe hLA hLD hcz p0 p1 p2 r4 r5 r6 hwk hwn
                  go_wp2_with fail
                  refine HAP.out.mono ?_
                  rintro e w12 ⟨b0, b1, b2, b3, m0, m1, m2, m3, d0, d1, d2, d3, rfl, hc12⟩
                  have HC12 := Lib.hid (HCY.out.then hc12)
                  clear hc12
                  go_wp2_with fail
                  go_ret
                  exact ⟨rfl, by have := HC12.out; ((repeat (first | exact Chg.refl _ _ | assumption | refine Chg.drewN ?_ _ | refine Chg.drew ?_ | refine Chg.alloc ?_ _ | refine Chg.setCell ?_ (by first | (simp; done) | (simp; omega) | (intro h; simp at h; omega)) _)))⟩
end Go.Proofs.Ytkhgfmmcjoglkaa
